/-
  The device's Copy. No condition but that fewer than 2^40 writes are open.
-/
import Derived.Test.YtpimjachhfnlfaaUnsure
namespace Go.Proofs.Ytpimjachhfnlfaa
open Go.RowKit

theorem unsure_at {w : World} {p bs : Nat} {uv : Value} {us : List UW} {m : Dv} (h : DevAt w p bs uv us m) (hsz : us.length < 1099511627776) :
    Calls Try.prog 35 #[.pointer (some ⟨p, 0, none⟩)] w fun e w' => ∃ v, e = .returned v ∧ Writes w' w.heap.size v m.unsure ∧ Fr No w w' := by
  rcases h.shape with ⟨rfl, rfl⟩ | ⟨ub, c, rfl, hr⟩
  · refine (unsure_empty h).mono fun e w' hh => ?_
    obtain ⟨rfl, rfl⟩ := hh
    exact ⟨_, rfl, ⟨[], h.eq, World.ownsRow_nil _ _ _ _, (fun u hu => by cases hu), (fun k hk => by cases hk)⟩, Fr.refl _ _⟩
  · exact unsure_full h hsz

theorem Writes.lo {w : World} {a b : Nat} {v : Value} {l : List (Nat × List UInt8)} (h : Writes w a v l) (hb : b ≤ a) : Writes w b v l := by
  obtain ⟨us, h1, h2, h3, h4⟩ := h
  exact ⟨us, h1, h2, fun u hu => ⟨(h3 u hu).1, (h3 u hu).2.1, Nat.le_trans hb (h3 u hu).2.2⟩, fun k hk => Nat.le_trans hb (h4 k hk)⟩

theorem Writes.shape {w : World} {a : Nat} {v : Value} {l : List (Nat × List UInt8)} (h : Writes w a v l) : ∃ ao n c, v = .slice ao n c := by
  obtain ⟨us, _, h2, _⟩ := h
  rcases h2.2 with ⟨h, _⟩ | ⟨g, cap, cur, h, _⟩
  · exact ⟨_, _, _, h⟩
  · exact ⟨_, _, _, h⟩

theorem sec_one (m : Dv) : ∀ u ∈ m.sure.flatMap Sec.cells, u.oneCell' = true := by
  intro u hu
  obtain ⟨s, _, hu⟩ := List.mem_flatMap.1 hu
  rcases List.mem_append.1 hu with hu | hu
  · exact bvs_one _ u hu
  · obtain rfl := List.mem_singleton.1 hu; rfl

theorem copy_nil (w : World) : Calls Try.prog 31 #[.pointer none] w fun e w' => e = .returned (.pointer none) ∧ w' = w := by
  go_enter Try.func31, Try.ntmps31
  go_wp2
  go_ret
  exact ⟨rfl, rfl⟩

/-- A device that does the same: but for the room beside. -/
def copyPost (w : World) (m : Dv) (e : Ending) (w' : World) : Prop :=
  ∃ p2 c sp, e = .returned (.pointer (some ⟨p2, 0, none⟩)) ∧ Dev w' (fun k => w.heap.size ≤ k ∧ k < w'.heap.size) p2 { m with cap := c, spare := sp } ∧ Fr No w w'

theorem copy_end {w w' : World} {m : Dv} {g c : Nat} {v : Value} (hw : m.Wf) (hr : Row w' g 132 (m.sure.flatMap Sec.cells)) (hg : w.heap.size ≤ g) (hv : Writes w' w.heap.size v m.unsure) (f : Fr No w w') :
    copyPost w m (.returned (.pointer (some ⟨w'.heap.size, 0, none⟩))) (w'.alloc (.cells #[.slice (some ⟨g, 0, none⟩) m.sure.length c, v, .int .i64 m.limit, .bool m.down] 127)) := by
  obtain ⟨cur, hcur, ht⟩ := hr
  obtain ⟨us, h1, h2, h3, h4⟩ := hv
  refine ⟨_, c, cur.toList.drop (m.sure.flatMap Sec.cells).length, rfl, ⟨g, v, us, ⟨?_, ?_, h2.alloc _, h1, fun u hu => ⟨(h3 u hu).1.fr0 (Fr.alloc _ _), (h3 u hu).2.1⟩, ⟨hw.few, hw.size, hw.wsize, hw.wpos, hw.lim⟩⟩, ?_⟩, f.step (Fr.alloc _ _)⟩
  · exact heap_alloc_new _ _
  · rw [Below.heap_alloc _ _ _ (lt_of_some hcur), hcur]
    congr 2
    apply Array.ext'
    have : (m.sure.flatMap Sec.cells) ++ cur.toList.drop (m.sure.flatMap Sec.cells).length = cur.toList := by
      conv => lhs; lhs; rw [← ht]
      exact List.take_append_drop _ _
    simpa using this.symm
  · refine ⟨⟨f.size, by simp⟩, ⟨hg, by have := lt_of_some hcur; simp; omega⟩, (fun k hk => ⟨h4 k hk, by have := (h2.lt k hk).2; simp; omega⟩), (fun u hu => ⟨(h3 u hu).2.2, by have := (h3 u hu).1.lt; simp; omega⟩), fun k hk => hk.2⟩

set_option maxRecDepth 100000 in
set_option maxHeartbeats 1000000 in
theorem copy_at {w : World} {p bs : Nat} {uv : Value} {us : List UW} {m : Dv} (h : DevAt w p bs uv us m) (hsz : us.length < 1099511627776) :
    Calls Try.prog 31 #[.pointer (some ⟨p, 0, none⟩)] w fun e w' => copyPost w m e w' := by
  have c0 := h.c0
  have c2 := h.c2
  have c3 := h.c3
  have HA := hid (fun W (f : Fr No w W) => unsure_at (h.fr f id id (fun _ _ => id) (fun _ _ => id)) hsz)
  have HB := hid (fun W (f : Fr No w W) => clones_any ⟨bs, 0, none⟩ (m.sure.flatMap Sec.cells) m.sure.length m.cap W (length_flatMap_fixed _ _ 513 (sec_cells_len h.wf)) (sec_one m) h.wf.few (fun j u hj => f.cell (show w.cell? ((⟨bs, 0, none⟩ : Addr).add j) = some u by
    rw [Addr.add_lit, Nat.zero_add, cell_of_row w bs j _ _ _ h.rows, List.getElem?_toArray, List.getElem?_append_left (List.getElem?_eq_some_iff.1 hj).1]; exact hj) id))
  have HW := hid h.wf
  have HC0 := hid c0
  have HC2 := hid c2
  have HC3 := hid c3
  have HF0 := hid (Fr.drew (S := No) w)
  clear h
  go_enter Try.func31, Try.ntmps31
  go_wp2_with fail
  go_region_law (first
    | (go_simp; go_at_call 80; refine (HB.out _ (by first | exact HFu.out | exact HF0.out)).mono ?_; rintro e w2 ⟨g2, k2, rfl, hr2, hg2, hf2⟩; have HFc := hid ((show Fr No w _ by first | exact HFu.out | exact HF0.out).step hf2); have HR2 := hid hr2; have HG2 := hid hg2; have HF2 := hid hf2; have d0 := HFc.out.cell HC0.out id; have d2 := HFc.out.cell HC2.out id; have d3 := HFc.out.cell HC3.out id; clear hr2 hg2 hf2)
    | (go_simp; go_at_call 35; refine (HA.out _ (by first | exact HFc.out | exact HF0.out)).mono ?_; rintro e w3 ⟨v3, rfl, hv3, hf3⟩; obtain ⟨ao3, n3, c3', rfl⟩ := hv3.shape; have HFu := hid ((show Fr No w _ by first | exact HFc.out | exact HF0.out).step hf3); have HV3 := hid hv3; have HF3 := hid hf3; have e0 := HFu.out.cell HC0.out id; have e2 := HFu.out.cell HC2.out id; have e3 := HFu.out.cell HC3.out id; clear hv3 hf3))
  all_goals
    go_wp2_with fail
    go_ret
    first
      | exact copy_end HW.out (HR2.out.fr0 HF3.out) (Nat.le_trans HF0.out.size HG2.out) (HV3.out.lo HFc.out.size) HFu.out
      | exact copy_end HW.out HR2.out (Nat.le_trans HFu.out.size HG2.out) ((HV3.out.fr0 HF2.out).lo HF0.out.size) HFc.out

theorem copy_any {S : Nat → Prop} {p : Nat} {m : Dv} (w : World) (hd : Dev w S p m) (few : m.unsure.length < 1099511627776) :
    Calls Try.prog 31 #[.pointer (some ⟨p, 0, none⟩)] w fun e w' => copyPost w m e w' := by
  obtain ⟨bs, uv, us, h, -⟩ := hd
  exact copy_at h (by have := h.eq; rw [this] at few; simpa using few)

theorem unsure_any {S : Nat → Prop} {p : Nat} {m : Dv} (w : World) (hd : Dev w S p m) (few : m.unsure.length < 1099511627776) :
    Calls Try.prog 35 #[.pointer (some ⟨p, 0, none⟩)] w fun e w' => ∃ v, e = .returned v ∧ Writes w' w.heap.size v m.unsure ∧ Fr No w w' := by
  obtain ⟨bs, uv, us, h, -⟩ := hd
  exact unsure_at h (by have := h.eq; rw [this] at few; simpa using few)

end Go.Proofs.Ytpimjachhfnlfaa
