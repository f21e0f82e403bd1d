/-
  The document's device: New. No condition but that few sectors are asked for.
-/
import Derived.Test.YtpimjachhfnlfaaRDev
namespace Go.Proofs.Ytpimjachhfnlfaa
open Go.RowKit

def zeroRS (g c : Nat) : RS := ⟨List.replicate 512 0, false, g, c⟩

set_option maxRecDepth 100000 in
set_option maxHeartbeats 1000000 in
theorem rnew_any (n : Nat) (w : World) (h1 : 1 ≤ n) (h2 : n ≤ 4096) :
    Calls Try.prog 26 #[.int .i64 n] w fun e w' => ∃ q, e = .returned (.pointer (some ⟨q, 0, none⟩)) ∧ RDev w' (fun k => w.heap.size ≤ k ∧ k < w'.heap.size) q (Dv.zero n) ∧ Fr No w w' := by
  obtain ⟨ir, hir, hr0, hr1, hr2⟩ := info_parts info_rsec
  have a1 : (1 : Int) ≤ (n : Int) := by omega
  go_enter Try.func26, Try.ntmps26
  go_wp2_with fail
  generalize hQ : w.heap.size = q
  have HQ := hid hQ
  have H0 : Hid ((w.alloc (.cells #[.slice none 0 0, .slice none 0 0, .int .i64 0, .bool false] 50)).heap[q]? = some (.cells #[.slice none 0 0, .slice none 0 0, .int .i64 0, .bool false] 50 (0, 0))) := by rw [← hQ]; exact heap_alloc_new w _
  have F0 := hid (Fr.alloc (S := No) w (.cells #[.slice none 0 0, .slice none 0 0, .int .i64 0, .bool false] 50))
  clear hQ
  go_loopw [4] (fun i wr => ∃ (j : Nat) (sv : Value) (ss : List RS), j ≤ n ∧ i = .int .i64 j ∧ Hid (ss.length = j) ∧ Hid (wr.heap[q]? = some (.cells #[sv, .slice none 0 0, .int .i64 0, .bool false] 50 (0, 0))) ∧ Hid (wr.ownsRow 0 134 2 sv j (ss.flatMap RS.cells)) ∧ Hid (∀ s ∈ ss, (Row wr s.g 5 (bvs s.data) ∧ 512 ≤ s.c ∧ s.data = List.replicate 512 0 ∧ s.torn = false) ∧ w.heap.size ≤ s.g) ∧ Hid (∀ k, sv.ownBlock = some k → w.heap.size ≤ k) ∧ Hid (Fr No w wr)) (fun i _ => n - (intOf i).toNat)
  case atStart => exact ⟨0, .slice none 0 0, [], Nat.zero_le _, rfl, rfl, H0.out, World.ownsRow_nil _ _ _ _, (fun s hs => by cases hs), (fun k hk => by cases hk), F0.out⟩
  case round =>
    obtain ⟨j, sv, ss, hj, rfl, hlen, hh, hown, hss, hsv, hf⟩ := hrel
    by_cases hlt : j < n
    · have c0 : wr.drew.cell? ⟨q, 0, none⟩ = some sv := by rw [World.cell?_drew, cell_of_row wr q 0 _ _ _ hh.out]; rfl
      have HC0 := hid c0
      have HF1 := hid (Fr.drew (S := No) wr)
      go_wp2_with fail
      go_region_law (first
        | (refine step_append_at rfl (.tmp 16) (.tmp 19) 47 rfl 134 ir _ 2 32 Try.underlying47 hir hr0 hr1 hr2 rfl (by decide) sv j (ss.flatMap RS.cells) rfl (owns_fr hown.out (HFX.out.step (Fr.alloc w2 _)) (fun _ _ => id)) ⟨w2.heap.size, 0, none⟩ 1 1 [.slice (some ⟨g2, 0, none⟩) 512 512, .bool false] rfl rfl (by intro i u hi; match i, hi with | 0, hi => simp at hi; subst hi; simp [Addr.add] | 1, hi => simp at hi; subst hi; simp [Addr.add]) (by intro u hu; simp at hu; rcases hu with rfl | rfl <;> rfl) (by decide) (by unfold maxLen; omega) (by omega) ?_; intro g3 c3 w3 ho3 hg3 hf3; have f34 : Fr No wr (w2.alloc (.cells #[.slice (some ⟨g2, 0, none⟩) 512 512, .bool false] 134)) := HFX.out.step (Fr.alloc w2 _); have hh3 := hf3.out.heap (f34.heap0 hh.out) (fun e => owns_ne hown.out hh.out (by decide) _ e rfl); have d1 := hh3; have d2 := cell_of_row w3 q 0 _ _ _ hh3; have d3 := frozen_of_row w3 q 0 _ _ hh3; have HH3 := hid hh3; clear hh3 d1 f34)
        | (go_simp; go_at_call 24; refine (zero_any _).mono ?_; rintro e w2 ⟨g2, rfl, hr2, hg2, hf2⟩; have e2 := hf2.cell HC0.out id; have e3 := (fun (o : Obj) => (hf2.step (Fr.alloc w2 o)).cell HC0.out id); have HFX := hid (HF1.out.step hf2); have HR2 := hid hr2; clear hr2 hf2))
      all_goals
        clear e2 e3 d2 d3
        go_wp2_with fail
        have hh4 : (w3.setCell ⟨q, 0, none⟩ (.slice (some ⟨g3, 0, none⟩) (j + 1) c3)).heap[q]? = some (.cells #[.slice (some ⟨g3, 0, none⟩) (j + 1) c3, .slice none 0 0, .int .i64 0, .bool false] 50 (0, 0)) := by
          rw [heap_setCell_same _ _ _ _ _ _ HH3.out]; simp
        have f4 : Fr (· = q) w3 (w3.setCell ⟨q, 0, none⟩ (.slice (some ⟨g3, 0, none⟩) (j + 1) c3)) := Fr.set1 _ _ _ _
        have f02 : Fr No w (w2.alloc (.cells #[.slice (some ⟨g2, 0, none⟩) 512 512, .bool false] 134)) := (hf.out.step HFX.out).step (Fr.alloc w2 _)
        have f03 : Fr No w w3 := f02.trans hf3.out (fun i hi => .inr (hsv.out i hi))
        have f04 : Fr No w (w3.setCell ⟨q, 0, none⟩ (.slice (some ⟨g3, 0, none⟩) (j + 1) c3)) := f03.trans f4 (fun i hi => .inr (by rw [hi, ← HQ.out]; exact Nat.le_refl _))
        have hq2 : Row w2 g2 5 (bvs (List.replicate 512 0)) := ⟨_, HR2.out, List.take_of_length_le (by simp)⟩
        have ho2 : (w2.alloc (.cells #[.slice (some ⟨g2, 0, none⟩) 512 512, .bool false] 134)).ownsRow 0 134 2 sv j (ss.flatMap RS.cells) := owns_fr hown.out (HFX.out.step (Fr.alloc w2 _)) (fun _ _ => id)
        have keep : ∀ g xs, Row (w2.alloc (.cells #[.slice (some ⟨g2, 0, none⟩) 512 512, .bool false] 134)) g 5 xs → Row (w3.setCell ⟨q, 0, none⟩ (.slice (some ⟨g3, 0, none⟩) (j + 1) c3)) g 5 xs := by
          intro g xs hr
          have h1 := hr.fr hf3.out (fun e => by
            obtain ⟨cur, hc, _⟩ := hr
            exact owns_ne ho2 hc (by decide) g e rfl)
          exact h1.fr f4 (h1.ne HH3.out (by decide))
        have KEEP := hid keep
        have HH4 := hid hh4
        have F4 := hid f4
        have F04 := hid f04
        have Q2 := hid hq2
        have HG2 : Hid (w.heap.size ≤ g2) := by
          have h1 := hf.out.size
          have h2 : wr.heap.size ≤ g2 := by simpa using hg2
          show w.heap.size ≤ g2
          omega
        have HZ2 : Hid (w.heap.size ≤ w2.heap.size + 1) := by have := f02.size; show _ ≤ _; simpa using this
        clear keep hh4 f4 f02 f03 f04 hq2 ho2 hg2
        go_roundw
        case rel =>
          refine ⟨j + 1, _, ss ++ [zeroRS g2 512], hlt, by go_num, ?_, HH4.out, ?_, ?_, ?_, F04.out⟩
          · show _ = _
            rw [List.length_append, hlen.out]; rfl
          · have := owns_fr ho3.out F4.out (fun k hk e => owns_ne ho3.out HH3.out (by decide) k hk e)
            show World.ownsRow _ _ _ _ _ _ _
            simpa [RS.cells, zeroRS] using this
          · intro s hs
            rcases List.mem_append.1 hs with hs | hs
            · have h1 := hss.out s hs
              exact ⟨⟨KEEP.out _ _ ((h1.1.1.fr0 HFX.out).fr0 (Fr.alloc _ _)), h1.1.2⟩, h1.2⟩
            · obtain rfl := List.mem_singleton.1 hs
              exact ⟨⟨KEEP.out _ _ (Q2.out.fr0 (Fr.alloc _ _)), Nat.le_refl _, rfl, rfl⟩, HG2.out⟩
          · intro k hk
            cases hk
            rcases hg3.out with h1 | h1
            · exact hsv.out _ h1
            · have h2 : w2.heap.size + 1 ≤ g3 := by simpa using h1
              have := HZ2.out
              show w.heap.size ≤ g3
              omega
        case measure => simp [intOf]; omega
    · obtain rfl : j = n := by omega
      go_wp2_with fail
      go_ret
      have hl := hlen.out
      refine ⟨q, rfl, ⟨sv, .slice none 0 0, ss, [], ⟨hh.out, ?_, ?_, ?_, ?_, World.ownsRow_nil _ _ _ _, rfl, (fun u hu => by cases hu), ?_⟩, ⟨?_, ?_⟩, ?_, (fun k hk => by cases hk), ?_, (fun u hu => by cases hu), fun k hk => hk.2⟩, hf.out⟩
      · rw [hl]; exact hown.out
      · rw [hl, new_zero_len]
      · intro i h1 h2
        have hz : (Dv.zero j).sure[i] = zeroSec := by simp [Dv.zero]
        rw [hz]
        have h3 := (hss.out _ (List.getElem_mem h1)).1
        exact ⟨h3.2.2.2, fun _ => h3.2.2.1⟩
      · intro s hs
        have h3 := (hss.out s hs).1
        exact ⟨h3.1, h3.2.1, by rw [h3.2.2.1]; exact List.length_replicate⟩
      · refine ⟨by simp [Dv.zero]; omega, ?_, (fun u hu => by cases hu), (fun u hu => by cases hu), by simp [Dv.zero]⟩
        intro s hs
        rw [List.eq_of_mem_replicate hs]; exact List.length_replicate
      · rw [← HQ.out]; exact Nat.le_refl _
      · exact lt_of_some hh.out
      · exact fun k hk => ⟨hsv.out k hk, owns_lt hown.out k hk⟩
      · exact fun s hs => ⟨(hss.out s hs).2, (hss.out s hs).1.1.lt⟩

end Go.Proofs.Ytpimjachhfnlfaa
