/-
  gazetteerlaw08.FlashSure returns true, for every input; its arguments read as before. No condition.
-/
import Derived.Test.YtpimjachhfnlfaaSure
namespace Go.Proofs.Ytpimjachhfnlfaa
open Go.ChangeShapes Go.WideShapes Go.ChangeAt Go.RowKit

set_option maxRecDepth 100000 in
theorem flashSure_told (H : Type) (enc : TypeId × Value → H) (W : World) (args : Array Value) (ds : List (DataW H)) (ps : List MemPlace) (h : Told H enc W [22, 23, 24, 24] args ds ps) :
    Calls Try.prog 3 args W fun e W' => e = .returned (.bool true) ∧ Fr No W W' := by
  obtain ⟨v0, v1, v2, v3, d0, d1, d2, d3, p0, p1, p2, p3, rfl, rfl, rfl, h0, h1, h2, h3⟩ := trodAll_four h.read
  obtain ⟨b0, w0⟩ := h.wide 0 _ _ rfl rfl
  obtain ⟨b1, w1⟩ := h.wide 1 _ _ rfl rfl
  obtain ⟨b2, w2⟩ := h.wide 2 _ _ rfl rfl
  obtain ⟨b3, w3⟩ := h.wide 3 _ _ rfl rfl
  obtain ⟨x2, rfl, -, -, x2w⟩ := open_int Try.underlying24 w2 h2
  obtain ⟨x3, rfl, -, -, x3w⟩ := open_int Try.underlying24 w3 h3
  obtain ⟨m, rfl, hm⟩ := u64_of_wf x2w
  obtain ⟨t, rfl, ht⟩ := u64_of_wf x3w
  obtain ⟨a, n, c, ls, rfl, hls, -, hn⟩ := list_of_trod w0 h0
  obtain ⟨ao, no, co, l, rfl, hl, -, -, -, hno⟩ := bytes_of_trod w1 h1
  refine sure_walk a n c ls ao no co l m t W hls hl ?_ ?_ hm ht
  · rcases hn with rfl | ⟨xs, ys, rfl, hx⟩
    · omega
    · have := len_reach (j := 0) h.reach rfl rfl Try.underlying22 bytes_slice (by decide)
      omega
  · rcases hno with rfl | ⟨xs, ys, rfl, hx⟩
    · omega
    · have := len_reach (j := 1) h.reach rfl rfl Try.underlying23 bytes_u8 (by decide)
      omega

theorem flashSure_params : Try.f3.params.toList = [22, 23, 24, 24] := by kernel_rfl
theorem flashSure_readable : ∀ t ∈ Try.f3.params.toList, Try.prog.readableRec t = true ∧ t < Try.prog.types.size := by
  rw [flashSure_params]
  intro t ht
  simp only [List.mem_cons, List.not_mem_nil, or_false] at ht
  rcases ht with rfl | rfl | rfl | rfl
  all_goals exact ⟨by kernel_rfl, of_decide_eq_true (by kernel_rfl)⟩

theorem flashSure_spec (H : Type) (ds : List (DataW H)) (hl : ds.length = Try.f3.params.toList.length) : (Rows.flashSureSpec.fn H ds).results = [.lit (.bool true)] ∧ (Rows.flashSureSpec.fn H ds).args = ds ∧ (Rows.flashSureSpec.fn H ds).vars = [] := by
  rw [flashSure_params] at hl
  match ds, hl with
  | [_, _, _, _], _ => exact ⟨rfl, rfl, rfl⟩

theorem flashSure_inits : Try.prog.inits.idxOf? 3 = none := by kernel_rfl
theorem flashSure_res : Try.f3.resultTypes = #[4] := by kernel_rfl

set_option maxRecDepth 100000 in
theorem flashSure_lifted (os : Os) (started : os.Started) (H : Type) (enc : TypeId × Value → H) :
    ReturnsInHanded {} Try.checked os 3 .any (Rows.flashSureSpec.pre6 enc Try.prog Try.f3 Rows.flashSureRow.domain false) (Rows.flashSureSpec.post enc Try.prog Try.f3 false true false false) :=
  law_lifted 3 Try.f3 Rows.flashSureSpec flashSure_inits Try.func3 rfl flashSure_res flashSure_readable flashSure_spec
    (fun H enc W args ds ps h => flashSure_told H enc W args ds ps (by rw [flashSure_params] at h; exact h)) os started H enc
    (ChangeSpec.witness6 (enc := enc) (C := Try.checked) false ⟨#[], #[.slice none 0 0, .slice none 0 0, .int .u64 0, .int .u64 0], []⟩ 8 (by kernel_rfl) (by kernel_rfl) (by kernel_rfl) (by kernel_rfl))

theorem flashSure_named : Try.pinned.checked.prog.funcNamed Rows.flashSureRow.func = some 3 := by kernel_rfl
theorem flashSure_inst : Func.isInstance Try.pinned.checked.prog Try.f3 Rows.flashSureRow.origin Rows.flashSureRow.targs := of_decide_eq_true (by kernel_rfl)
theorem flashSure_wrap : Func.isWrapper Try.pinned.checked.prog Try.f3 Rows.flashSureRow.wrapper Rows.flashSureRow.mainSum := by
  unfold Func.isWrapper
  first | (rw [if_pos (by decide +kernel)]; kernel_rfl) | (rw [if_neg (by decide +kernel)]; exact ⟨rfl, rfl⟩)
theorem flashSure_joined : joinedFacts Try.pinned.checked.prog 3 Try.f3 Rows.flashSureSpec Rows.flashSureRow = true := by kernel_rfl

theorem flashSure_holds : Rows.FlashSureSaid :=
  OpenClaim.holds_of_wide 3 Try.f3 rfl rfl rfl rfl rfl rfl rfl ⟨rfl, rfl, rfl, rfl, rfl⟩ rfl rfl rfl rfl rfl flashSure_named Try.func3 flashSure_joined
    flashSure_inst flashSure_wrap (fun os started H enc _ => flashSure_lifted os started H enc)
#print axioms flashSure_holds

end Go.Proofs.Ytpimjachhfnlfaa
