/-
  gazetteerlaw08.FlashApart returns true, for every input; its arguments read as before. No condition.
-/
import Derived.Test.YtpimjachhfnlfaaApart
import Derived.Test.YtpimjachhfnlfaaBytes
namespace Go.Proofs.Ytpimjachhfnlfaa
open Go.ChangeShapes Go.WideShapes Go.ChangeAt Go.RowKit

set_option maxRecDepth 100000 in
theorem flashApart_told (H : Type) (enc : TypeId × Value → H) (W : World) (args : Array Value) (ds : List (DataW H)) (ps : List MemPlace) (h : Told H enc W [23, 3] args ds ps) :
    Calls Try.prog 6 args W fun e W' => e = .returned (.bool true) ∧ Fr No W W' := by
  obtain ⟨v0, v1, d0, d1, p0, p1, rfl, rfl, rfl, h0, h1⟩ := trodAll_two h.read
  obtain ⟨b0, w0⟩ := h.wide 0 _ _ rfl rfl
  obtain ⟨b1, w1⟩ := h.wide 1 _ _ rfl rfl
  obtain ⟨x1, rfl, -, -, -⟩ := open_int Try.underlying3 w1 h1
  obtain ⟨a, n, c, l, rfl, hl, -, -, -, -⟩ := bytes_of_trod w0 h0
  by_cases hn : 512 < n ∨ n < 1
  · exact apart_out a n c x1 W hn
  · obtain ⟨b, o, rfl, -⟩ := hl.at (by omega)
    have hlen := hl.len
    match l, hlen, hl with
    | [], hlen, _ => simp at hlen; omega
    | x :: l, _, hl => exact apart_walk b o n c x l x1 W hl (by omega)

theorem flashApart_params : Try.f6.params.toList = [23, 3] := by kernel_rfl
theorem flashApart_readable : ∀ t ∈ Try.f6.params.toList, Try.prog.readableRec t = true ∧ t < Try.prog.types.size := by
  rw [flashApart_params]
  intro t ht
  simp only [List.mem_cons, List.not_mem_nil, or_false] at ht
  rcases ht with rfl | rfl
  all_goals exact ⟨by kernel_rfl, of_decide_eq_true (by kernel_rfl)⟩

theorem flashApart_spec (H : Type) (ds : List (DataW H)) (hl : ds.length = Try.f6.params.toList.length) : (Rows.flashApartSpec.fn H ds).results = [.lit (.bool true)] ∧ (Rows.flashApartSpec.fn H ds).args = ds ∧ (Rows.flashApartSpec.fn H ds).vars = [] := by
  rw [flashApart_params] at hl
  match ds, hl with
  | [_, _], _ => exact ⟨rfl, rfl, rfl⟩

theorem flashApart_inits : Try.prog.inits.idxOf? 6 = none := by kernel_rfl
theorem flashApart_res : Try.f6.resultTypes = #[4] := by kernel_rfl

set_option maxRecDepth 100000 in
theorem flashApart_lifted (os : Os) (started : os.Started) (H : Type) (enc : TypeId × Value → H) :
    ReturnsInHanded {} Try.checked os 6 .any (Rows.flashApartSpec.pre6 enc Try.prog Try.f6 Rows.flashApartRow.domain false) (Rows.flashApartSpec.post enc Try.prog Try.f6 false true false false) :=
  law_lifted 6 Try.f6 Rows.flashApartSpec flashApart_inits Try.func6 rfl flashApart_res flashApart_readable flashApart_spec
    (fun H enc W args ds ps h => flashApart_told H enc W args ds ps (by rw [flashApart_params] at h; exact h)) os started H enc
    (ChangeSpec.witness6 (enc := enc) (C := Try.checked) false ⟨#[], #[.slice none 0 0, .int .i64 0], []⟩ 8 (by kernel_rfl) (by kernel_rfl) (by kernel_rfl) (by kernel_rfl))

theorem flashApart_named : Try.pinned.checked.prog.funcNamed Rows.flashApartRow.func = some 6 := by kernel_rfl
theorem flashApart_inst : Func.isInstance Try.pinned.checked.prog Try.f6 Rows.flashApartRow.origin Rows.flashApartRow.targs := of_decide_eq_true (by kernel_rfl)
theorem flashApart_wrap : Func.isWrapper Try.pinned.checked.prog Try.f6 Rows.flashApartRow.wrapper Rows.flashApartRow.mainSum := by
  unfold Func.isWrapper
  first | (rw [if_pos (by decide +kernel)]; kernel_rfl) | (rw [if_neg (by decide +kernel)]; exact ⟨rfl, rfl⟩)
theorem flashApart_joined : joinedFacts Try.pinned.checked.prog 6 Try.f6 Rows.flashApartSpec Rows.flashApartRow = true := by kernel_rfl

theorem flashApart_holds : Rows.FlashApartSaid :=
  OpenClaim.holds_of_wide 6 Try.f6 rfl rfl rfl rfl rfl rfl rfl ⟨rfl, rfl, rfl, rfl, rfl⟩ rfl rfl rfl rfl rfl flashApart_named Try.func6 flashApart_joined
    flashApart_inst flashApart_wrap (fun os started H enc _ => flashApart_lifted os started H enc)
#print axioms flashApart_holds

end Go.Proofs.Ytpimjachhfnlfaa
