/-
  gazetteerlaw15.CodeClock returns true, for every input; its arguments read as before. No condition.
-/
import Derived.Test.YtpimjachhfnlfaaClock
namespace Go.Proofs.Ytpimjachhfnlfaa
open Go.ChangeShapes Go.WideShapes Go.ChangeAt Go.RowKit

set_option maxRecDepth 100000 in
theorem codeClock_told (H : Type) (enc : TypeId × Value → H) (W : World) (args : Array Value) (ds : List (DataW H)) (ps : List MemPlace) (h : Told H enc W [3, 3, 74, 74] args ds ps) :
    Calls Try.prog 12 args W fun e W' => e = .returned (.bool true) ∧ Fr No W W' := by
  obtain ⟨v0, v1, v2, v3, d0, d1, d2, d3, p0, p1, p2, p3, rfl, rfl, rfl, h0, h1, h2, h3⟩ := trodAll_four h.read
  obtain ⟨b0, w0⟩ := h.wide 0 _ _ rfl rfl
  obtain ⟨b1, w1⟩ := h.wide 1 _ _ rfl rfl
  obtain ⟨b2, w2⟩ := h.wide 2 _ _ rfl rfl
  obtain ⟨b3, w3⟩ := h.wide 3 _ _ rfl rfl
  obtain ⟨x, rfl, -, -, -⟩ := open_int Try.underlying3 w0 h0
  obtain ⟨y, rfl, -, -, -⟩ := open_int Try.underlying3 w1 h1
  obtain ⟨a1, n1, c1, l1, rfl, hl1, hz1, -, -, hs1⟩ := strs_of_trod w2 h2
  obtain ⟨a2, n2, c2, l2, rfl, hl2, hz2, -, -, hs2⟩ := strs_of_trod w3 h3
  by_cases hn : 200 < n1 ∨ 200 < n2
  · exact clock_long x y a1 a2 n1 c1 n2 c2 W hn
  · exact clock_walk x y a1 a2 n1 c1 n2 c2 l1 l2 W hl1 hl2 (by omega) (by omega) hz1 hz2 (fun s hs => hs1 s hs) (fun s hs => hs2 s hs)

theorem codeClock_params : Try.f12.params.toList = [3, 3, 74, 74] := by kernel_rfl
theorem codeClock_readable : ∀ t ∈ Try.f12.params.toList, Try.prog.readableRec t = true ∧ t < Try.prog.types.size := by
  rw [codeClock_params]
  intro t ht
  simp only [List.mem_cons, List.not_mem_nil, or_false] at ht
  rcases ht with rfl | rfl | rfl | rfl
  all_goals exact ⟨by kernel_rfl, of_decide_eq_true (by kernel_rfl)⟩

theorem codeClock_spec (H : Type) (ds : List (DataW H)) (hl : ds.length = Try.f12.params.toList.length) : (Rows.codeClockSpec.fn H ds).results = [.lit (.bool true)] ∧ (Rows.codeClockSpec.fn H ds).args = ds ∧ (Rows.codeClockSpec.fn H ds).vars = [] := by
  rw [codeClock_params] at hl
  match ds, hl with
  | [_, _, _, _], _ => exact ⟨rfl, rfl, rfl⟩

theorem codeClock_inits : Try.prog.inits.idxOf? 12 = none := by kernel_rfl
theorem codeClock_res : Try.f12.resultTypes = #[4] := by kernel_rfl

set_option maxRecDepth 100000 in
theorem codeClock_lifted (os : Os) (started : os.Started) (H : Type) (enc : TypeId × Value → H) :
    ReturnsInHanded {} Try.checked os 12 .any (Rows.codeClockSpec.pre6 enc Try.prog Try.f12 Rows.codeClockRow.domain false) (Rows.codeClockSpec.post enc Try.prog Try.f12 false true false false) :=
  law_lifted 12 Try.f12 Rows.codeClockSpec codeClock_inits Try.func12 rfl codeClock_res codeClock_readable codeClock_spec
    (fun H enc W args ds ps h => codeClock_told H enc W args ds ps (by rw [codeClock_params] at h; exact h)) os started H enc
    (ChangeSpec.witness6 (enc := enc) (C := Try.checked) false ⟨#[], #[.int .i64 0, .int .i64 0, .slice none 0 0, .slice none 0 0], []⟩ 8 (by kernel_rfl) (by kernel_rfl) (by kernel_rfl) (by kernel_rfl))

theorem codeClock_named : Try.pinned.checked.prog.funcNamed Rows.codeClockRow.func = some 12 := by kernel_rfl
theorem codeClock_inst : Func.isInstance Try.pinned.checked.prog Try.f12 Rows.codeClockRow.origin Rows.codeClockRow.targs := of_decide_eq_true (by kernel_rfl)
theorem codeClock_wrap : Func.isWrapper Try.pinned.checked.prog Try.f12 Rows.codeClockRow.wrapper Rows.codeClockRow.mainSum := by
  unfold Func.isWrapper
  first | (rw [if_pos (by decide +kernel)]; kernel_rfl) | (rw [if_neg (by decide +kernel)]; exact ⟨rfl, rfl⟩)
theorem codeClock_joined : joinedFacts Try.pinned.checked.prog 12 Try.f12 Rows.codeClockSpec Rows.codeClockRow = true := by kernel_rfl

theorem codeClock_holds : Rows.CodeClockSaid :=
  OpenClaim.holds_of_wide 12 Try.f12 rfl rfl rfl rfl rfl rfl rfl ⟨rfl, rfl, rfl, rfl, rfl⟩ rfl rfl rfl rfl rfl codeClock_named Try.func12 codeClock_joined
    codeClock_inst codeClock_wrap (fun os started H enc _ => codeClock_lifted os started H enc)
#print axioms codeClock_holds

end Go.Proofs.Ytpimjachhfnlfaa
