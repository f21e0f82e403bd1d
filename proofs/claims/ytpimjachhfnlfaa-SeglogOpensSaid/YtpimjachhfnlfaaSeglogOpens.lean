/-
  gazetteerlaw11.SeglogOpens returns true, for every input; its arguments read as before. No condition.
-/
import Derived.Test.YtpimjachhfnlfaaSOpensW
namespace Go.Proofs.Ytpimjachhfnlfaa
open Go.ChangeShapes Go.WideShapes Go.ChangeAt Go.RowKit

theorem cells_u64 : Try.prog.cellsOf 24 = 1 := by kernel_rfl

set_option maxRecDepth 100000 in
theorem u64s_of_trod {H : Type} {enc : TypeId × Value → H} {W : World} {v : Value} {d : DataW H} {ps : List MemPlace} {base : Nat} (hw : Value.okWide Try.prog W .any base 111 v) (h : DataW.Trod enc Try.prog W 0 (fun _ => true) true 111 v d ps) :
    ∃ a n c, v = .slice a n c ∧ U64In W a n ∧ n ≤ maxLen := by
  obtain ⟨a0, len, cap, rfl⟩ := okWide_slice Try.underlying111 hw
  obtain ⟨fuel, hf⟩ := h
  rcases open_ints Try.underlying111 Try.underlying24 cells_u64 hf with ⟨hcs, hx⟩ | ⟨a, len', cap', zs, hcs, _, hl, hm, hz, hx, hcell, hwz⟩
  · simp [Value.cells] at hcs
    obtain ⟨rfl, rfl, rfl⟩ := hcs
    exact ⟨none, 0, 0, rfl, (fun h => by omega), Nat.zero_le _⟩
  · simp [Value.cells] at hcs
    obtain ⟨rfl, rfl, rfl⟩ := hcs
    simp only [if_true] at hz
    refine ⟨some a, len, cap, rfl, fun hn => ?_, Nat.le_trans hl hm⟩
    have cell : ∀ i, i < len → ∃ z : Nat, z < 18446744073709551616 ∧ W.cell? (a.add i) = some (.int .u64 z) := by
      intro i hi
      have hiz : i < zs.length := by omega
      obtain ⟨x, hx, hlt⟩ := u64_of_wf (hwz _ (List.getElem_mem hiz))
      refine ⟨x, hlt, ?_⟩
      rw [hcell i hiz, ← hx]
      simp [List.getD, hiz]
    obtain ⟨b, o, s⟩ := a
    obtain ⟨z, _, hz0⟩ := cell 0 hn
    have hs : s = none := by simpa [Addr.add] using World.cell?_spot hz0
    subst hs
    refine ⟨b, o, rfl, fun i hi => ?_⟩
    obtain ⟨z, h1, h2⟩ := cell i hi
    rw [Addr.add_lit] at h2
    exact ⟨z, h1, h2⟩

set_option maxRecDepth 100000 in
theorem seglogOpens_told (H : Type) (enc : TypeId × Value → H) (W : World) (args : Array Value) (ds : List (DataW H)) (ps : List MemPlace) (h : Told H enc W [22, 5, 23, 111] args ds ps) :
    Calls Try.prog 15 args W fun e W' => e = .returned (.bool true) ∧ Fr No W W' := by
  obtain ⟨v0, v1, v2, v3, d0, d1, d2, d3, p0, p1, p2, p3, rfl, rfl, rfl, h0, h1, h2, h3⟩ := trodAll_four h.read
  obtain ⟨b0, w0⟩ := h.wide 0 _ _ rfl rfl
  obtain ⟨b1, w1⟩ := h.wide 1 _ _ rfl rfl
  obtain ⟨b2, w2⟩ := h.wide 2 _ _ rfl rfl
  obtain ⟨b3, w3⟩ := h.wide 3 _ _ rfl rfl
  obtain ⟨x1, rfl, -, -, x1w⟩ := open_int Try.underlying5 w1 h1
  obtain ⟨l, rfl⟩ := u8_of_wf x1w
  obtain ⟨a1, n1, c1, ls, rfl, hls, hn1, -⟩ := list_of_trod w0 h0
  obtain ⟨a2, n2, c2, lims, rfl, hb, -, hbn, hbc, -⟩ := bytes_of_trod w2 h2
  obtain ⟨a3, n3, c3, rfl, hu, hn3⟩ := u64s_of_trod w3 h3
  exact opens_walk a1 n1 c1 ls l.toNat a2 n2 c2 lims a3 n3 c3 W hls l.toNat_lt hb hu hn1 (Nat.le_trans hbn hbc) hn3

theorem seglogOpens_params : Try.f15.params.toList = [22, 5, 23, 111] := by kernel_rfl
theorem seglogOpens_readable : ∀ t ∈ Try.f15.params.toList, Try.prog.readableRec t = true ∧ t < Try.prog.types.size := by
  rw [seglogOpens_params]
  intro t ht
  simp only [List.mem_cons, List.not_mem_nil, or_false] at ht
  rcases ht with rfl | rfl | rfl | rfl
  all_goals exact ⟨by kernel_rfl, of_decide_eq_true (by kernel_rfl)⟩

theorem seglogOpens_spec (H : Type) (ds : List (DataW H)) (hl : ds.length = Try.f15.params.toList.length) : (Rows.seglogOpensSpec.fn H ds).results = [.lit (.bool true)] ∧ (Rows.seglogOpensSpec.fn H ds).args = ds ∧ (Rows.seglogOpensSpec.fn H ds).vars = [] := by
  rw [seglogOpens_params] at hl
  match ds, hl with
  | [_, _, _, _], _ => exact ⟨rfl, rfl, rfl⟩

theorem seglogOpens_inits : Try.prog.inits.idxOf? 15 = none := by kernel_rfl
theorem seglogOpens_res : Try.f15.resultTypes = #[4] := by kernel_rfl

set_option maxRecDepth 100000 in
theorem seglogOpens_lifted (os : Os) (started : os.Started) (H : Type) (enc : TypeId × Value → H) :
    ReturnsInHanded {} Try.checked os 15 .any (Rows.seglogOpensSpec.pre6 enc Try.prog Try.f15 Rows.seglogOpensRow.domain false) (Rows.seglogOpensSpec.post enc Try.prog Try.f15 false true false false) :=
  law_lifted 15 Try.f15 Rows.seglogOpensSpec seglogOpens_inits Try.func15 rfl seglogOpens_res seglogOpens_readable seglogOpens_spec
    (fun H enc W args ds ps h => seglogOpens_told H enc W args ds ps (by rw [seglogOpens_params] at h; exact h)) os started H enc
    (ChangeSpec.witness6 (enc := enc) (C := Try.checked) false ⟨#[], #[.slice none 0 0, .int .u8 0, .slice none 0 0, .slice none 0 0], []⟩ 8 (by kernel_rfl) (by kernel_rfl) (by kernel_rfl) (by kernel_rfl))

theorem seglogOpens_named : Try.pinned.checked.prog.funcNamed Rows.seglogOpensRow.func = some 15 := by kernel_rfl
theorem seglogOpens_inst : Func.isInstance Try.pinned.checked.prog Try.f15 Rows.seglogOpensRow.origin Rows.seglogOpensRow.targs := of_decide_eq_true (by kernel_rfl)
theorem seglogOpens_wrap : Func.isWrapper Try.pinned.checked.prog Try.f15 Rows.seglogOpensRow.wrapper Rows.seglogOpensRow.mainSum := by
  unfold Func.isWrapper
  first | (rw [if_pos (by decide +kernel)]; kernel_rfl) | (rw [if_neg (by decide +kernel)]; exact ⟨rfl, rfl⟩)
theorem seglogOpens_joined : joinedFacts Try.pinned.checked.prog 15 Try.f15 Rows.seglogOpensSpec Rows.seglogOpensRow = true := by kernel_rfl

theorem seglogOpens_holds : Rows.SeglogOpensSaid :=
  OpenClaim.holds_of_wide 15 Try.f15 rfl rfl rfl rfl rfl rfl rfl ⟨rfl, rfl, rfl, rfl, rfl⟩ rfl rfl rfl rfl rfl seglogOpens_named Try.func15 seglogOpens_joined
    seglogOpens_inst seglogOpens_wrap (fun os started H enc _ => seglogOpens_lifted os started H enc)
#print axioms seglogOpens_holds

end Go.Proofs.Ytpimjachhfnlfaa
