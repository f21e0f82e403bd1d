/-
  gazetteerlaw08.FlashActs returns true, for every input; its arguments read as before. No condition.
-/
import Derived.Test.YtpimjachhfnlfaaFActs
import Derived.Test.YtpimjachhfnlfaaStructs
namespace Go.Proofs.Ytpimjachhfnlfaa
open Go.Joins Go.ChangeShapes Go.WideShapes Go.ChangeAt Go.RowKit Go.Deep

theorem fields_act : ∃ fs, Try.prog.underlying 45 = some (.struct fs) ∧ oneCellFields Try.prog fs = true ∧ Try.prog.cellsOf 45 = fs.size ∧ fs.size = 5 ∧
    (∃ f, fs[0]? = some f ∧ f.type = 3) ∧ (∃ f, fs[1]? = some f ∧ f.type = 3) ∧ (∃ f, fs[2]? = some f ∧ f.type = 23) ∧ (∃ f, fs[3]? = some f ∧ f.type = 24) ∧ (∃ f, fs[4]? = some f ∧ f.type = 24) :=
  ⟨_, Try.underlying45, by kernel_rfl, by kernel_rfl, by kernel_rfl, ⟨_, rfl, rfl⟩, ⟨_, rfl, rfl⟩, ⟨_, rfl, rfl⟩, ⟨_, rfl, rfl⟩, ⟨_, rfl, rfl⟩⟩

set_option maxRecDepth 100000 in
theorem acts_of_trod {H : Type} {enc : TypeId × Value → H} {W : World} {v : Value} {d : DataW H} {ps : List MemPlace} {base : Nat} (hw : Value.okWide Try.prog W .any base 41 v) (h : DataW.Trod enc Try.prog W 0 (fun _ => true) true 41 v d ps) :
    ∃ a n c, v = .slice a n c ∧ ActList W a n ∧ n ≤ maxLen := by
  obtain ⟨fs, hs, hone, hC, h5, ⟨f0, g0, t0⟩, ⟨f1, g1, t1⟩, ⟨f2, g2, t2⟩, ⟨f3, g3, t3⟩, ⟨f4, g4, t4⟩⟩ := fields_act
  rcases open_structs Try.underlying41 hs hone hC hw h with rfl | ⟨ad, n, c, rfl, hl, hm, hel⟩
  · exact ⟨none, 0, 0, rfl, ⟨fun h => by omega⟩, Nat.zero_le _⟩
  · refine ⟨some ad, n, c, rfl, ⟨fun hn => ?_⟩, Nat.le_trans hl hm⟩
    rw [h5] at hel
    obtain ⟨b, o, s⟩ := ad
    obtain ⟨u, _, _, hu, _⟩ := hel 0 hn 0 f0 g0
    have hs : s = none := by simpa [Addr.add] using World.cell?_spot hu
    subst hs
    refine ⟨b, o, rfl, fun i hi => ?_⟩
    obtain ⟨u0, y0, n0, c0, r0⟩ := hel i hi 0 f0 g0
    obtain ⟨u1, y1, n1, c1, r1⟩ := hel i hi 1 f1 g1
    obtain ⟨u2, y2, n2, c2, r2⟩ := hel i hi 2 f2 g2
    obtain ⟨u3, y3, n3, c3, r3⟩ := hel i hi 3 f3 g3
    obtain ⟨u4, y4, n4, c4, r4⟩ := hel i hi 4 f4 g4
    rw [t0] at r0
    rw [t1] at r1
    rw [t2] at r2
    rw [t3] at r3
    rw [t4] at r4
    obtain ⟨z0, rfl, -⟩ := int_field Try.underlying3 r0
    obtain ⟨z1, rfl, w1⟩ := int_field Try.underlying3 r1
    obtain ⟨z3, rfl, w3⟩ := int_field Try.underlying24 r3
    obtain ⟨z4, rfl, w4⟩ := int_field Try.underlying24 r4
    obtain ⟨k, rfl, hk⟩ := u64_of_wf w3
    obtain ⟨t, rfl, ht⟩ := u64_of_wf w4
    obtain ⟨u, l, hcs, hbs⟩ := bytes_of_cells r2
    cases hcs
    obtain ⟨da, dc, rfl, hb, hnil, -, -⟩ := hbs.ex
    rw [Addr.add_lit] at c0 c1 c2 c3 c4
    have w1' := i64_of_wf w1
    exact ⟨z0, z1, da, l.length, dc, l, k, t, ⟨c0, c1, c2, c3, c4⟩, hb, (fun e => by have := hnil e; exact ⟨by rw [this.1]; rfl, this.2⟩), hk, ht, w1'.1, w1'.2⟩

set_option maxRecDepth 100000 in
theorem flashActs_told (H : Type) (enc : TypeId × Value → H) (W : World) (args : Array Value) (ds : List (DataW H)) (ps : List MemPlace) (h : Told H enc W [3, 41] args ds ps) :
    Calls Try.prog 5 args W fun e W' => e = .returned (.bool true) ∧ Fr No W W' := by
  obtain ⟨v0, v1, d0, d1, p0, p1, rfl, rfl, rfl, h0, h1⟩ := trodAll_two h.read
  obtain ⟨b0, w0⟩ := h.wide 0 _ _ rfl rfl
  obtain ⟨b1, w1⟩ := h.wide 1 _ _ rfl rfl
  obtain ⟨z, rfl, -, -, -⟩ := open_int Try.underlying3 w0 h0
  obtain ⟨a, n, c, rfl, hls, hn⟩ := acts_of_trod w1 h1
  by_cases hz : z < 1 ∨ 60 < z
  · exact acts_bad z _ W hz
  · obtain ⟨s, rfl⟩ := Int.eq_ofNat_of_zero_le (show 0 ≤ z by omega)
    exact acts_walk s a n c W (by omega) (by omega) hls hn

theorem flashActs_params : Try.f5.params.toList = [3, 41] := by kernel_rfl
theorem flashActs_readable : ∀ t ∈ Try.f5.params.toList, Try.prog.readableRec t = true ∧ t < Try.prog.types.size := by
  rw [flashActs_params]
  intro t ht
  simp only [List.mem_cons, List.not_mem_nil, or_false] at ht
  rcases ht with rfl | rfl
  all_goals exact ⟨by kernel_rfl, of_decide_eq_true (by kernel_rfl)⟩

theorem flashActs_spec (H : Type) (ds : List (DataW H)) (hl : ds.length = Try.f5.params.toList.length) : (Rows.flashActsSpec.fn H ds).results = [.lit (.bool true)] ∧ (Rows.flashActsSpec.fn H ds).args = ds ∧ (Rows.flashActsSpec.fn H ds).vars = [] := by
  rw [flashActs_params] at hl
  match ds, hl with
  | [_, _], _ => exact ⟨rfl, rfl, rfl⟩

theorem flashActs_inits : Try.prog.inits.idxOf? 5 = none := by kernel_rfl
theorem flashActs_res : Try.f5.resultTypes = #[4] := by kernel_rfl

set_option maxRecDepth 100000 in
theorem flashActs_lifted (os : Os) (started : os.Started) (H : Type) (enc : TypeId × Value → H) :
    ReturnsInHanded {} Try.checked os 5 .any (Rows.flashActsSpec.pre6 enc Try.prog Try.f5 Rows.flashActsRow.domain false) (Rows.flashActsSpec.post enc Try.prog Try.f5 false true false false) :=
  law_lifted 5 Try.f5 Rows.flashActsSpec flashActs_inits Try.func5 rfl flashActs_res flashActs_readable flashActs_spec
    (fun H enc W args ds ps h => flashActs_told H enc W args ds ps (by rw [flashActs_params] at h; exact h)) os started H enc
    (ChangeSpec.witness6 (enc := enc) (C := Try.checked) false ⟨#[], #[.int .i64 0, .slice none 0 0], []⟩ 8 (by kernel_rfl) (by kernel_rfl) (by kernel_rfl) (by kernel_rfl))

theorem flashActs_named : Try.pinned.checked.prog.funcNamed Rows.flashActsRow.func = some 5 := by kernel_rfl
theorem flashActs_inst : Func.isInstance Try.pinned.checked.prog Try.f5 Rows.flashActsRow.origin Rows.flashActsRow.targs := of_decide_eq_true (by kernel_rfl)
theorem flashActs_wrap : Func.isWrapper Try.pinned.checked.prog Try.f5 Rows.flashActsRow.wrapper Rows.flashActsRow.mainSum := by
  unfold Func.isWrapper
  first | (rw [if_pos (by decide +kernel)]; kernel_rfl) | (rw [if_neg (by decide +kernel)]; exact ⟨rfl, rfl⟩)
theorem flashActs_joined : joinedFacts Try.pinned.checked.prog 5 Try.f5 Rows.flashActsSpec Rows.flashActsRow = true := by kernel_rfl

theorem flashActs_holds : Rows.FlashActsSaid :=
  OpenClaim.holds_of_wide 5 Try.f5 rfl rfl rfl rfl rfl rfl rfl ⟨rfl, rfl, rfl, rfl, rfl⟩ rfl rfl rfl rfl rfl flashActs_named Try.func5 flashActs_joined
    flashActs_inst flashActs_wrap (fun os started H enc _ => flashActs_lifted os started H enc)
#print axioms flashActs_holds

end Go.Proofs.Ytpimjachhfnlfaa
