/-
  gazetteerlaw10.SuperCuts returns true, for every input; its arguments read as before. No condition.
-/
import Derived.Test.YtpimjachhfnlfaaCuts
import Derived.Test.YtpimjachhfnlfaaStructs
namespace Go.Proofs.Ytpimjachhfnlfaa
open Go.Joins Go.ChangeShapes Go.WideShapes Go.ChangeAt Go.RowKit Go.Deep

theorem fields_blk : ∃ fs, Try.prog.underlying 61 = some (.struct fs) ∧ oneCellFields Try.prog fs = true ∧ Try.prog.cellsOf 61 = fs.size ∧ fs.size = 5 ∧ ∀ j, j < 5 → ∃ f, fs[j]? = some f ∧ f.type = 3 := by
  refine ⟨_, Try.underlying61, by kernel_rfl, by kernel_rfl, by kernel_rfl, ?_⟩
  intro j hj
  match j, hj with
  | 0, _ => exact ⟨_, rfl, rfl⟩
  | 1, _ => exact ⟨_, rfl, rfl⟩
  | 2, _ => exact ⟨_, rfl, rfl⟩
  | 3, _ => exact ⟨_, rfl, rfl⟩
  | 4, _ => exact ⟨_, rfl, rfl⟩

set_option maxRecDepth 100000 in
theorem blks_of_trod {H : Type} {enc : TypeId × Value → H} {W : World} {v : Value} {d : DataW H} {ps : List MemPlace} {base : Nat} (hw : Value.okWide Try.prog W .any base 66 v) (h : DataW.Trod enc Try.prog W 0 (fun _ => true) true 66 v d ps) :
    ∃ a n c, v = .slice a n c ∧ BlkList W a n ∧ n ≤ maxLen := by
  obtain ⟨fs, hs, hone, hC, h5, hf⟩ := fields_blk
  rcases open_structs Try.underlying66 hs hone hC hw h with rfl | ⟨ad, n, c, rfl, hl, hm, hel⟩
  · exact ⟨none, 0, 0, rfl, ⟨fun h => by omega⟩, Nat.zero_le _⟩
  · refine ⟨some ad, n, c, rfl, ⟨fun hn => ?_⟩, Nat.le_trans hl hm⟩
    have cell : ∀ i, i < n → ∀ j, j < 5 → ∃ z, W.cell? (ad.add (i * 5 + j)) = some (.int .i64 z) ∧ -9223372036854775808 ≤ z ∧ z ≤ 9223372036854775807 := by
      intro i hi j hj
      obtain ⟨f, hfj, hft⟩ := hf j hj
      obtain ⟨u, y, k, hu, hy⟩ := hel i hi j f hfj
      rw [hft] at hy
      obtain ⟨z, rfl, hz⟩ := int_field Try.underlying3 hy
      rw [h5] at hu
      exact ⟨z, hu, i64_of_wf hz⟩
    obtain ⟨b, o, s⟩ := ad
    obtain ⟨z, hz, _⟩ := cell 0 hn 0 (by decide)
    have hs : s = none := by simpa [Addr.add] using World.cell?_spot hz
    subst hs
    refine ⟨b, o, rfl, fun i hi => ?_⟩
    obtain ⟨z0, h0, _⟩ := cell i hi 0 (by decide)
    obtain ⟨z1, h1, r1⟩ := cell i hi 1 (by decide)
    obtain ⟨z2, h2, r2⟩ := cell i hi 2 (by decide)
    obtain ⟨z3, h3, r3⟩ := cell i hi 3 (by decide)
    obtain ⟨z4, h4, r4⟩ := cell i hi 4 (by decide)
    rw [Addr.add_lit] at h0 h1 h2 h3 h4
    refine ⟨z0, z1, z2, z3, z4, ⟨h0, h1, h2, h3, h4⟩, ?_⟩
    rintro z (rfl | rfl | rfl | rfl)
    · exact r1
    · exact r2
    · exact r3
    · exact r4

set_option maxRecDepth 100000 in
theorem superCuts_told (H : Type) (enc : TypeId × Value → H) (W : World) (args : Array Value) (ds : List (DataW H)) (ps : List MemPlace) (h : Told H enc W [66, 5, 24, 24] args ds ps) :
    Calls Try.prog 8 args W fun e W' => e = .returned (.bool true) ∧ Fr No W W' := by
  obtain ⟨v0, v1, v2, v3, d0, d1, d2, d3, p0, p1, p2, p3, rfl, rfl, rfl, h0, h1, h2, h3⟩ := trodAll_four h.read
  obtain ⟨b0, w0⟩ := h.wide 0 _ _ rfl rfl
  obtain ⟨b1, w1⟩ := h.wide 1 _ _ rfl rfl
  obtain ⟨b2, w2⟩ := h.wide 2 _ _ rfl rfl
  obtain ⟨b3, w3⟩ := h.wide 3 _ _ rfl rfl
  obtain ⟨x1, rfl, -, -, x1w⟩ := open_int Try.underlying5 w1 h1
  obtain ⟨x2, rfl, -, -, x2w⟩ := open_int Try.underlying24 w2 h2
  obtain ⟨x3, rfl, -, -, x3w⟩ := open_int Try.underlying24 w3 h3
  obtain ⟨l, rfl⟩ := u8_of_wf x1w
  obtain ⟨m, rfl, hm⟩ := u64_of_wf x2w
  obtain ⟨t, rfl, ht⟩ := u64_of_wf x3w
  obtain ⟨a, n, c, rfl, hls, hn⟩ := blks_of_trod w0 h0
  exact cuts_walk a n c l.toNat m t W hls hn l.toNat_lt hm ht

theorem superCuts_params : Try.f8.params.toList = [66, 5, 24, 24] := by kernel_rfl
theorem superCuts_readable : ∀ t ∈ Try.f8.params.toList, Try.prog.readableRec t = true ∧ t < Try.prog.types.size := by
  rw [superCuts_params]
  intro t ht
  simp only [List.mem_cons, List.not_mem_nil, or_false] at ht
  rcases ht with rfl | rfl | rfl | rfl
  all_goals exact ⟨by kernel_rfl, of_decide_eq_true (by kernel_rfl)⟩

theorem superCuts_spec (H : Type) (ds : List (DataW H)) (hl : ds.length = Try.f8.params.toList.length) : (Rows.superCutsSpec.fn H ds).results = [.lit (.bool true)] ∧ (Rows.superCutsSpec.fn H ds).args = ds ∧ (Rows.superCutsSpec.fn H ds).vars = [] := by
  rw [superCuts_params] at hl
  match ds, hl with
  | [_, _, _, _], _ => exact ⟨rfl, rfl, rfl⟩

theorem superCuts_inits : Try.prog.inits.idxOf? 8 = none := by kernel_rfl
theorem superCuts_res : Try.f8.resultTypes = #[4] := by kernel_rfl

set_option maxRecDepth 100000 in
theorem superCuts_lifted (os : Os) (started : os.Started) (H : Type) (enc : TypeId × Value → H) :
    ReturnsInHanded {} Try.checked os 8 .any (Rows.superCutsSpec.pre6 enc Try.prog Try.f8 Rows.superCutsRow.domain false) (Rows.superCutsSpec.post enc Try.prog Try.f8 false true false false) :=
  law_lifted 8 Try.f8 Rows.superCutsSpec superCuts_inits Try.func8 rfl superCuts_res superCuts_readable superCuts_spec
    (fun H enc W args ds ps h => superCuts_told H enc W args ds ps (by rw [superCuts_params] at h; exact h)) os started H enc
    (ChangeSpec.witness6 (enc := enc) (C := Try.checked) false ⟨#[], #[.slice none 0 0, .int .u8 0, .int .u64 0, .int .u64 0], []⟩ 8 (by kernel_rfl) (by kernel_rfl) (by kernel_rfl) (by kernel_rfl))

theorem superCuts_named : Try.pinned.checked.prog.funcNamed Rows.superCutsRow.func = some 8 := by kernel_rfl
theorem superCuts_inst : Func.isInstance Try.pinned.checked.prog Try.f8 Rows.superCutsRow.origin Rows.superCutsRow.targs := of_decide_eq_true (by kernel_rfl)
theorem superCuts_wrap : Func.isWrapper Try.pinned.checked.prog Try.f8 Rows.superCutsRow.wrapper Rows.superCutsRow.mainSum := by
  unfold Func.isWrapper
  first | (rw [if_pos (by decide +kernel)]; kernel_rfl) | (rw [if_neg (by decide +kernel)]; exact ⟨rfl, rfl⟩)
theorem superCuts_joined : joinedFacts Try.pinned.checked.prog 8 Try.f8 Rows.superCutsSpec Rows.superCutsRow = true := by kernel_rfl

theorem superCuts_holds : Rows.SuperCutsSaid :=
  OpenClaim.holds_of_wide 8 Try.f8 rfl rfl rfl rfl rfl rfl rfl ⟨rfl, rfl, rfl, rfl, rfl⟩ rfl rfl rfl rfl rfl superCuts_named Try.func8 superCuts_joined
    superCuts_inst superCuts_wrap (fun os started H enc _ => superCuts_lifted os started H enc)
#print axioms superCuts_holds

end Go.Proofs.Ytpimjachhfnlfaa
