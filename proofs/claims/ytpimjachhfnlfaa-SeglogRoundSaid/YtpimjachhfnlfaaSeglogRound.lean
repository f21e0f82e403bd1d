/-
  gazetteerlaw11.SeglogRound returns true, for every input; its arguments read as before. No condition.
-/
import Derived.Test.YtpimjachhfnlfaaSRoundW
namespace Go.Proofs.Ytpimjachhfnlfaa
open Go.ChangeShapes Go.WideShapes Go.ChangeAt Go.RowKit

theorem cells_u16 : Try.prog.cellsOf 101 = 1 := by kernel_rfl

theorem u16_of_wf {z : Int} (h : (Lit.int .u16 z).wf = true) : ∃ x : Nat, z = x ∧ x < 65536 := by
  have h1 : IntKind.u16.min = 0 := rfl
  have h2 : IntKind.u16.max = 65535 := rfl
  simp only [Lit.wf, Bool.and_eq_true, decide_eq_true_eq, h1, h2] at h
  exact ⟨z.toNat, by omega, by omega⟩

set_option maxRecDepth 100000 in
theorem u16s_of_trod {H : Type} {enc : TypeId × Value → H} {W : World} {v : Value} {d : DataW H} {ps : List MemPlace} {base : Nat} (hw : Value.okWide Try.prog W .any base 103 v) (h : DataW.Trod enc Try.prog W 0 (fun _ => true) true 103 v d ps) :
    ∃ a n c, v = .slice a n c ∧ U16In W a n ∧ n ≤ maxLen := by
  obtain ⟨a0, len, cap, rfl⟩ := okWide_slice Try.underlying103 hw
  obtain ⟨fuel, hf⟩ := h
  rcases open_ints Try.underlying103 Try.underlying101 cells_u16 hf with ⟨hcs, hx⟩ | ⟨a, len', cap', zs, hcs, _, hl, hm, hz, hx, hcell, hwz⟩
  · simp [Value.cells] at hcs
    obtain ⟨rfl, rfl, rfl⟩ := hcs
    exact ⟨none, 0, 0, rfl, (fun h => by omega), Nat.zero_le _⟩
  · simp [Value.cells] at hcs
    obtain ⟨rfl, rfl, rfl⟩ := hcs
    simp only [if_true] at hz
    refine ⟨some a, len, cap, rfl, fun hn => ?_, Nat.le_trans hl hm⟩
    have cell : ∀ i, i < len → ∃ z : Nat, z < 65536 ∧ W.cell? (a.add i) = some (.int .u16 z) := by
      intro i hi
      have hiz : i < zs.length := by omega
      obtain ⟨x, hx, hlt⟩ := u16_of_wf (hwz _ (List.getElem_mem hiz))
      refine ⟨x, hlt, ?_⟩
      rw [hcell i hiz, ← hx]
      simp [List.getD, hiz]
    obtain ⟨b, o, s⟩ := a
    obtain ⟨z, _, hz0⟩ := cell 0 hn
    have hs : s = none := by simpa [Addr.add] using World.cell?_spot hz0
    subst hs
    refine ⟨b, o, rfl, fun i hi => ?_⟩
    obtain ⟨z, h1, h2⟩ := cell i hi
    rw [Addr.add_lit] at h2
    exact ⟨z, h1, h2⟩

set_option maxRecDepth 100000 in
theorem seglogRound_told (H : Type) (enc : TypeId × Value → H) (W : World) (args : Array Value) (ds : List (DataW H)) (ps : List MemPlace) (h : Told H enc W [103, 5] args ds ps) :
    Calls Try.prog 14 args W fun e W' => e = .returned (.bool true) ∧ Fr No W W' := by
  obtain ⟨v0, v1, d0, d1, p0, p1, rfl, rfl, rfl, h0, h1⟩ := trodAll_two h.read
  obtain ⟨b0, w0⟩ := h.wide 0 _ _ rfl rfl
  obtain ⟨b1, w1⟩ := h.wide 1 _ _ rfl rfl
  obtain ⟨x1, rfl, -, -, x1w⟩ := open_int Try.underlying5 w1 h1
  obtain ⟨l, rfl⟩ := u8_of_wf x1w
  obtain ⟨a, n, c, rfl, hls, hn⟩ := u16s_of_trod w0 h0
  exact round_walk a n c l.toNat W hls hn l.toNat_lt

theorem seglogRound_params : Try.f14.params.toList = [103, 5] := by kernel_rfl
theorem seglogRound_readable : ∀ t ∈ Try.f14.params.toList, Try.prog.readableRec t = true ∧ t < Try.prog.types.size := by
  rw [seglogRound_params]
  intro t ht
  simp only [List.mem_cons, List.not_mem_nil, or_false] at ht
  rcases ht with rfl | rfl
  all_goals exact ⟨by kernel_rfl, of_decide_eq_true (by kernel_rfl)⟩

theorem seglogRound_spec (H : Type) (ds : List (DataW H)) (hl : ds.length = Try.f14.params.toList.length) : (Rows.seglogRoundSpec.fn H ds).results = [.lit (.bool true)] ∧ (Rows.seglogRoundSpec.fn H ds).args = ds ∧ (Rows.seglogRoundSpec.fn H ds).vars = [] := by
  rw [seglogRound_params] at hl
  match ds, hl with
  | [_, _], _ => exact ⟨rfl, rfl, rfl⟩

theorem seglogRound_inits : Try.prog.inits.idxOf? 14 = none := by kernel_rfl
theorem seglogRound_res : Try.f14.resultTypes = #[4] := by kernel_rfl

set_option maxRecDepth 100000 in
theorem seglogRound_lifted (os : Os) (started : os.Started) (H : Type) (enc : TypeId × Value → H) :
    ReturnsInHanded {} Try.checked os 14 .any (Rows.seglogRoundSpec.pre6 enc Try.prog Try.f14 Rows.seglogRoundRow.domain false) (Rows.seglogRoundSpec.post enc Try.prog Try.f14 false true false false) :=
  law_lifted 14 Try.f14 Rows.seglogRoundSpec seglogRound_inits Try.func14 rfl seglogRound_res seglogRound_readable seglogRound_spec
    (fun H enc W args ds ps h => seglogRound_told H enc W args ds ps (by rw [seglogRound_params] at h; exact h)) os started H enc
    (ChangeSpec.witness6 (enc := enc) (C := Try.checked) false ⟨#[], #[.slice none 0 0, .int .u8 0], []⟩ 8 (by kernel_rfl) (by kernel_rfl) (by kernel_rfl) (by kernel_rfl))

theorem seglogRound_named : Try.pinned.checked.prog.funcNamed Rows.seglogRoundRow.func = some 14 := by kernel_rfl
theorem seglogRound_inst : Func.isInstance Try.pinned.checked.prog Try.f14 Rows.seglogRoundRow.origin Rows.seglogRoundRow.targs := of_decide_eq_true (by kernel_rfl)
theorem seglogRound_wrap : Func.isWrapper Try.pinned.checked.prog Try.f14 Rows.seglogRoundRow.wrapper Rows.seglogRoundRow.mainSum := by
  unfold Func.isWrapper
  first | (rw [if_pos (by decide +kernel)]; kernel_rfl) | (rw [if_neg (by decide +kernel)]; exact ⟨rfl, rfl⟩)
theorem seglogRound_joined : joinedFacts Try.pinned.checked.prog 14 Try.f14 Rows.seglogRoundSpec Rows.seglogRoundRow = true := by kernel_rfl

theorem seglogRound_holds : Rows.SeglogRoundSaid :=
  OpenClaim.holds_of_wide 14 Try.f14 rfl rfl rfl rfl rfl rfl rfl ⟨rfl, rfl, rfl, rfl, rfl⟩ rfl rfl rfl rfl rfl seglogRound_named Try.func14 seglogRound_joined
    seglogRound_inst seglogRound_wrap (fun os started H enc _ => seglogRound_lifted os started H enc)
#print axioms seglogRound_holds

end Go.Proofs.Ytpimjachhfnlfaa
