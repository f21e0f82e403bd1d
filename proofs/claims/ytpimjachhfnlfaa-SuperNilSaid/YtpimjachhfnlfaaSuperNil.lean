/-
  gazetteerlaw10.SuperNil returns true, for every input. No condition.
-/
import Derived.Test.YtpimjachhfnlfaaAnswers10
import Derived.Test.YtpimjachhfnlfaaStructs
namespace Go.Proofs.Ytpimjachhfnlfaa
open Go.ChangeShapes Go.WideShapes Go.ChangeAt Go.RowKit

set_option maxRecDepth 100000 in
set_option maxHeartbeats 1000000 in
theorem nil_walk (x0 x1 x2 x3 x4 : Value) (w : World) : Calls Try.prog 7 #[.agg #[x0, x1, x2, x3, x4]] w fun e w' => e = .returned (.bool true) ∧ Fr No w w' := by
  have A0 : Hid ((w.alloc (.cells #[x0, x1, x2, x3, x4] 61)).heap[w.heap.size]? = some (.cells #[x0, x1, x2, x3, x4] 61 (0, 0))) := heap_alloc_new w _
  have F0 := hid (Fr.alloc (S := No) w (.cells #[x0, x1, x2, x3, x4] 61))
  go_enter Try.func7, Try.ntmps7
  go_wp2_with fail
  refine (load_nil _).mono ?_
  rintro e w1 ⟨rfl, hf1⟩
  have A1 := hid (hf1.heap0 A0.out)
  have F1 := hid (F0.out.step hf1)
  have A2 := hid ((Fr.alloc (S := No) w1 (.cells #[.int .i64 0, .int .i64 0, .int .i64 0, .int .i64 0, .int .i64 0] 61)).heap0 A1.out)
  have F2 := hid (F1.out.step (Fr.alloc w1 (.cells #[.int .i64 0, .int .i64 0, .int .i64 0, .int .i64 0, .int .i64 0] 61)))
  clear hf1
  unfold zeroBlk Blk.val intv
  go_wp2_with fail
  refine (answers10_any _).mono ?_
  rintro e w2 ⟨rfl, hf2⟩
  have A3 := hf2.heap0 A2.out
  have F3 := hid (F2.out.step hf2)
  obtain ⟨k0, k1, k2, k3, k4⟩ := five_cells A3
  clear hf2 A3
  go_wp2_with fail
  refine (save_nil _ _ _ _ _ _).mono ?_
  rintro e w3 ⟨rfl, hf3⟩
  have F4 := hid (F3.out.step hf3)
  clear hf3
  go_wp2_with fail
  go_ret
  exact ⟨rfl, F4.out⟩

set_option maxRecDepth 100000 in
theorem superNil_told (H : Type) (enc : TypeId × Value → H) (W : World) (args : Array Value) (ds : List (DataW H)) (ps : List MemPlace) (h : Told H enc W [61] args ds ps) :
    Calls Try.prog 7 args W fun e W' => e = .returned (.bool true) ∧ Fr No W W' := by
  obtain ⟨v0, d0, rfl, rfl, h0⟩ := trodAll_one h.read
  obtain ⟨b0, w0⟩ := h.wide 0 _ _ rfl rfl
  obtain ⟨⟨cs⟩, rfl, hsz⟩ := okWide_struct Try.underlying61 w0
  match cs, hsz.trans (show Try.prog.cellsOf 61 = 5 by kernel_rfl) with
  | [x0, x1, x2, x3, x4], _ => exact nil_walk x0 x1 x2 x3 x4 W

theorem superNil_params : Try.f7.params.toList = [61] := by kernel_rfl
theorem superNil_readable : ∀ t ∈ Try.f7.params.toList, Try.prog.readableRec t = true ∧ t < Try.prog.types.size := by
  rw [superNil_params]
  intro t ht
  simp only [List.mem_cons, List.not_mem_nil, or_false] at ht
  rcases ht with rfl
  all_goals exact ⟨by kernel_rfl, of_decide_eq_true (by kernel_rfl)⟩

theorem superNil_spec (H : Type) (ds : List (DataW H)) (hl : ds.length = Try.f7.params.toList.length) : (Rows.superNilSpec.fn H ds).results = [.lit (.bool true)] ∧ (Rows.superNilSpec.fn H ds).args = ds ∧ (Rows.superNilSpec.fn H ds).vars = [] := by
  rw [superNil_params] at hl
  match ds, hl with
  | [_], _ => exact ⟨rfl, rfl, rfl⟩

theorem superNil_inits : Try.prog.inits.idxOf? 7 = none := by kernel_rfl
theorem superNil_res : Try.f7.resultTypes = #[4] := by kernel_rfl

set_option maxRecDepth 100000 in
theorem superNil_lifted (os : Os) (started : os.Started) (H : Type) (enc : TypeId × Value → H) :
    ReturnsInHanded {} Try.checked os 7 .any (Rows.superNilSpec.pre6 enc Try.prog Try.f7 Rows.superNilRow.domain false) (Rows.superNilSpec.post enc Try.prog Try.f7 false true false false) :=
  law_lifted 7 Try.f7 Rows.superNilSpec superNil_inits Try.func7 rfl superNil_res superNil_readable superNil_spec
    (fun H enc W args ds ps h => superNil_told H enc W args ds ps (by rw [superNil_params] at h; exact h)) os started H enc
    (ChangeSpec.witness6 (enc := enc) (C := Try.checked) false ⟨#[], #[.agg #[.int .i64 0, .int .i64 0, .int .i64 0, .int .i64 0, .int .i64 0]], []⟩ 8 (by kernel_rfl) (by kernel_rfl) (by kernel_rfl) (by kernel_rfl))

theorem superNil_named : Try.pinned.checked.prog.funcNamed Rows.superNilRow.func = some 7 := by kernel_rfl
theorem superNil_inst : Func.isInstance Try.pinned.checked.prog Try.f7 Rows.superNilRow.origin Rows.superNilRow.targs := of_decide_eq_true (by kernel_rfl)
theorem superNil_wrap : Func.isWrapper Try.pinned.checked.prog Try.f7 Rows.superNilRow.wrapper Rows.superNilRow.mainSum := by
  unfold Func.isWrapper
  first | (rw [if_pos (by decide +kernel)]; kernel_rfl) | (rw [if_neg (by decide +kernel)]; exact ⟨rfl, rfl⟩)
theorem superNil_joined : joinedFacts Try.pinned.checked.prog 7 Try.f7 Rows.superNilSpec Rows.superNilRow = true := by kernel_rfl

theorem superNil_holds : Rows.SuperNilSaid :=
  OpenClaim.holds_of_wide 7 Try.f7 rfl rfl rfl rfl rfl rfl rfl ⟨rfl, rfl, rfl, rfl, rfl⟩ rfl rfl rfl rfl rfl superNil_named Try.func7 superNil_joined
    superNil_inst superNil_wrap (fun os started H enc _ => superNil_lifted os started H enc)
#print axioms superNil_holds

end Go.Proofs.Ytpimjachhfnlfaa
