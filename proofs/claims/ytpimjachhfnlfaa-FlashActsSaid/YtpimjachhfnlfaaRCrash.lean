/-
  The document's device: Crash. No condition but that fewer than 2^40 writes are open.
-/
import Derived.Test.YtpimjachhfnlfaaRSync
import Derived.Test.YtpimjachhfnlfaaSureLaw
namespace Go.Proofs.Ytpimjachhfnlfaa
open Go.RowKit

set_option maxRecDepth 100000 in
set_option maxHeartbeats 4000000 in
theorem rcrash_at {w : World} {q : Nat} {sv uv : Value} {ss : List RS} {us : List UW} {m : Dv} (mask torn : Nat) (h : RDevAt w q sv uv ss us m) (few : us.length ≤ 1099511627776) :
    Calls Try.prog 30 #[.pointer (some ⟨q, 0, none⟩), .int .u64 mask, .int .u64 torn] w fun e w' => e = .returned (.tuple #[]) ∧ ∃ ss', RDevAt w' q sv (.slice none 0 0) ss' [] (m.crash mask torn) ∧ Fr (fun i => i = q ∨ sv.ownBlock = some i) w w' ∧ (∀ s ∈ ss', (∃ s0 ∈ ss, s.g = s0.g) ∨ (∃ u ∈ us, s.g = u.g) ∨ w.heap.size ≤ s.g) := by
  obtain ⟨⟨ao, ac, hv⟩, uo, uc, hu⟩ := h.slices
  have HH := hid h
  have HV := hid hv
  have HU := hid hu
  obtain ⟨n, hn⟩ : ∃ n, n = us.length := ⟨_, rfl⟩
  rw [← hn] at few
  have HN := hid hn
  clear h hv hu hn
  go_enter Try.func30, Try.ntmps30
  go_wp2_with fail
  go_loopw [6] (fun i wr => ∃ (j : Nat) (ss1 : List RS), j ≤ n ∧ i = .int .i64 j ∧ Hid (ss1.length = ss.length) ∧ Hid (RDevAt wr q sv uv ss1 us { m with sure := crashFrom mask torn 0 m.sure ((us.take j).map UW.pair) }) ∧ Hid (Fr (fun i => sv.ownBlock = some i) w wr) ∧ Hid (∀ s ∈ ss1, (∃ s0 ∈ ss, s.g = s0.g) ∨ (∃ u ∈ us, s.g = u.g) ∨ w.heap.size ≤ s.g)) (fun i _ => n - (intOf i).toNat)
  case atStart => exact ⟨0, ss, Nat.zero_le _, rfl, rfl, HH.out, Fr.refl _ _, fun s hs => .inl ⟨s, hs, rfl⟩⟩
  case round =>
    obtain ⟨j, ss1, hj, rfl, hsl, hdv, hf, hor⟩ := hrel
    have c1 := hdv.out.c1
    rw [HU.out, ← HN.out] at c1
    by_cases hlt : j < n
    · have hj' : Hid (j < us.length) := by have := HN.out; show j < us.length; omega
      obtain ⟨ug, ucc, huv, hur, -, -⟩ := owns_place hdv.out.list (by have := hj'.out; omega)
      have e0 := huv.symm.trans HU.out
      injection e0 with e1 e2 e3
      subst e1 e3
      have hw := uw_at j hj'.out
      have c2 := hur.cell _ _ hw.1
      have c3 := hur.cell _ _ hw.2
      have hp := hid (HH.out.wf.wpos (us[j]'hj'.out).pair (by rw [HH.out.eq]; exact List.mem_map_of_mem (List.getElem_mem hj'.out)))
      have hws := hid (HH.out.wf.wsize (us[j]'hj'.out).pair (by rw [HH.out.eq]; exact List.mem_map_of_mem (List.getElem_mem hj'.out)))
      have hdat := hid (hdv.out.data _ (List.getElem_mem hj'.out))
      have hst : crashFrom mask torn 0 m.sure ((us.take (j + 1)).map UW.pair) = crashOne mask torn (crashFrom mask torn 0 m.sure ((us.take j).map UW.pair)) j (us[j]'hj'.out).pair := by
        rw [take_succ_at us j hj'.out, List.map_append, List.map_cons, List.map_nil, crashFrom_snoc]
        congr 1
        simp
        have := hj'.out
        omega
      have hmem := hid (List.getElem_mem hj'.out)
      obtain ⟨u, hu⟩ : ∃ u, u = us[j]'hj'.out := ⟨_, rfl⟩
      rw [← hu] at c2 c3 hp hws hdat hst hmem
      have hpos : Hid (u.pos < m.sure.length) := hp.out
      have hslen : Hid ((crashFrom mask torn 0 m.sure ((us.take j).map UW.pair)).length = m.sure.length) := by show _ = _; rw [crashFrom_len]
      obtain ⟨sg, scc, hsv, hsr, -, -⟩ := owns_place hdv.out.sure (by have h1 := hdv.out.len; have h2 := hslen.out; have h3 := hpos.out; simp only at h1; omega)
      have hsl2 : ss1.length = m.sure.length := by have h1 := hdv.out.len; have h2 := hslen.out; simp only at h1; omega
      have c0 := hdv.out.c0
      rw [hsv] at c0
      have hrl : u.pos < ss1.length := by have := hpos.out; omega
      have hrs := rs_at u.pos hrl
      obtain ⟨r0, hr0⟩ : ∃ r, r = ss1[u.pos]'hrl := ⟨_, rfl⟩
      rw [← hr0] at hrs
      have s0 := hsr.cell _ _ hrs.1
      have s1 := hsr.cell _ _ hrs.2
      obtain ⟨cur, hcur, -⟩ := hsr
      have f0 := frozen_of_row wr sg (u.pos * 2) _ _ hcur
      have f1 := frozen_of_row wr sg (u.pos * 2 + 1) _ _ hcur
      have b1 : (u.pos : Int) < (ss1.length : Int) := by have := hpos.out; omega
      have b2 : (0 : Int) ≤ (u.pos : Int) := by omega
      have HSV := hid hsv
      have HSL := hid hsl2
      have HCUR := hid hcur
      have FA := hid (Fr.alloc (S := No) wr (.cells #[.int .i64 u.pos, .slice (some ⟨u.g, 0, none⟩) 512 u.c] 57))
      have q1 := bit_tmod torn (j % 64)
      have q2 := bit_tmod mask (j % 64)
      clear hr0
      clear hu hw hrs hcur hur huv e2 hsv hsl2 hrl
      by_cases ht1 : torn.testBit (j % 64) = true
      · rw [ht1] at q1
        have HST : Hid (crashFrom mask torn 0 m.sure ((us.take (j + 1)).map UW.pair) = (crashFrom mask torn 0 m.sure ((us.take j).map UW.pair)).set u.pos ⟨u.data, true⟩) := by
          show _ = _
          rw [hst]
          unfold crashOne
          rw [if_pos (show bitAt torn j = true from ht1)]
          rfl
        clear hst ht1 q2
        have C0 := hid ((FA.out.step (Fr.drew _)).cell c0 id)
        have S0 := hid ((FA.out.step (Fr.drew _)).cell s0 id)
        have S1 := hid ((FA.out.step (Fr.drew _)).cell s1 id)
        have HCW := hid ((FA.out.step (Fr.drew _)).heap0 HCUR.out)
        have P0 := hid (show (wr.alloc (.cells #[.int .i64 u.pos, .slice (some ⟨u.g, 0, none⟩) 512 u.c] 57)).drew.cell? ⟨wr.heap.size, 0, none⟩ = some (.int .i64 u.pos) from World.cell?_alloc_new wr _ _ 0)
        have FAD : Hid (Fr No wr (wr.alloc (.cells #[.int .i64 u.pos, .slice (some ⟨u.g, 0, none⟩) 512 u.c] 57)).drew) := FA.out.step (Fr.drew _)
        have k0 := C0.out
        clear c0 s0 s1 f0 f1
        go_wp2_with fail
        go_region_law (first
          | (go_simp; go_at_call 24; refine (zero_any _).mono ?_; rintro e w2 ⟨g2, rfl, hr2, hg2, hf2⟩; have d0 := hf2.cell C0.out id; have d1 := hf2.cell P0.out id; have d2 := hf2.cell S0.out id; have d3 := hf2.cell S1.out id; have hh2 := hf2.heap0 HCW.out; have d4 := frozen_of_row w2 sg (u.pos * 2) _ _ hh2; have d5 := frozen_of_row w2 sg (u.pos * 2 + 1) _ _ hh2; have HR2 := hid hr2; have HG2 := hid hg2; have HF2 := hid hf2; clear hr2 hg2 hf2 hh2))
        all_goals
          clear d0 d1 d2 d3 d4 d5
          have hr2 : Row w2 g2 5 (bvs (List.replicate 512 0)) := ⟨_, HR2.out, List.take_of_length_le (by simp)⟩
          have hset := ((hdv.out.cast HSV.out).fr0 (FAD.out.step HF2.out)).settle u.pos (by show u.pos < (crashFrom _ _ _ _ _).length; rw [hslen.out]; exact hpos.out) ⟨List.replicate 512 0, true, g2, 512⟩ ⟨u.data, true⟩ hr2 (Nat.le_refl _) List.length_replicate ⟨rfl, fun h => by cases h⟩ hws.out
          have HD5 := hid hset.1
          have F5 : Hid (Fr (fun i => sv.ownBlock = some i) wr ((w2.setCell ⟨sg, u.pos * 2, none⟩ (.slice (some ⟨g2, 0, none⟩) 512 512)).setCell ⟨sg, u.pos * 2 + 1, none⟩ (.bool true))) := by
            refine Fr.step ((FAD.out.step HF2.out).any) (hset.2.mono fun i _ e => ?_)
            rw [HSV.out, e]; rfl
          have HG3 : Hid (w.heap.size ≤ g2) := by
            have h1 := hf.out.size
            have h2 := HG2.out
            have h3 : wr.heap.size + 1 ≤ g2 := by simpa using h2
            show w.heap.size ≤ g2
            omega
          clear hset hr2
          go_wp2_with fail
          go_roundw
          case rel =>
            refine ⟨j + 1, ss1.set u.pos ⟨List.replicate 512 0, true, g2, 512⟩, hlt, by go_num, ?_, ?_, hf.out.step F5.out, ?_⟩
            · show _ = _
              rw [List.length_set]; exact hsl.out
            · have h5 := HD5.out
              show RDevAt _ _ _ _ _ _ _
              rw [HST.out, HSV.out]
              exact h5
            · intro s hs
              rcases List.mem_or_eq_of_mem_set hs with hs | rfl
              · exact hor.out s hs
              · exact .inr (.inr HG3.out)
          case measure => simp [intOf]; omega
      · have ht1 : torn.testBit (j % 64) = false := by simpa using ht1
        rw [ht1] at q1
        by_cases hm1 : mask.testBit (j % 64) = true
        · rw [hm1] at q2
          have HST : Hid (crashFrom mask torn 0 m.sure ((us.take (j + 1)).map UW.pair) = (crashFrom mask torn 0 m.sure ((us.take j).map UW.pair)).set u.pos ⟨u.data, false⟩) := by
            show _ = _
            rw [hst]
            unfold crashOne
            rw [if_neg (by rw [show bitAt torn j = false from ht1]; simp), if_pos (show bitAt mask j = true from hm1)]
            rfl
          have k0 := FA.out.cell c0 id
          have k1 := FA.out.cell s0 id
          have k2 := FA.out.cell s1 id
          have k3 := frozen_of_row _ sg (u.pos * 2) _ _ (FA.out.heap0 HCUR.out)
          have k4 := frozen_of_row _ sg (u.pos * 2 + 1) _ _ (FA.out.heap0 HCUR.out)
          clear hst ht1 hm1 c0 s0 s1 f0 f1
          go_wp2_with fail
          go_region
          all_goals
            have hset := ((hdv.out.cast HSV.out).fr0 FA.out).settle u.pos (by show u.pos < (crashFrom _ _ _ _ _).length; rw [hslen.out]; exact hpos.out) ⟨u.data, false, u.g, u.c⟩ ⟨u.data, false⟩ (hdat.out.1.fr0 FA.out) hdat.out.2 hws.out ⟨rfl, fun _ => rfl⟩ hws.out
            have HD5 := hid (hset.1.fr0 (Fr.drew (S := No) _))
            have F5 : Hid (Fr (fun i => sv.ownBlock = some i) wr ((((wr.alloc (.cells #[.int .i64 u.pos, .slice (some ⟨u.g, 0, none⟩) 512 u.c] 57)).setCell ⟨sg, u.pos * 2, none⟩ (.slice (some ⟨u.g, 0, none⟩) 512 u.c)).setCell ⟨sg, u.pos * 2 + 1, none⟩ (.bool false)).drew)) := by
              refine Fr.step (FA.out.any.step (hset.2.mono fun i _ e => ?_)) (Fr.drew _)
              rw [HSV.out, e]; rfl
            clear hset k0 k1 k2 k3 k4
            go_wp2_with fail
            go_roundw
            case rel =>
              refine ⟨j + 1, ss1.set u.pos ⟨u.data, false, u.g, u.c⟩, hlt, by go_num, ?_, ?_, hf.out.step F5.out, ?_⟩
              · show _ = _
                rw [List.length_set]; exact hsl.out
              · have h5 := HD5.out
                show RDevAt _ _ _ _ _ _ _
                rw [HST.out, HSV.out]
                exact h5
              · intro s hs
                rcases List.mem_or_eq_of_mem_set hs with hs | rfl
                · exact hor.out s hs
                · exact .inr (.inl ⟨u, hmem.out, rfl⟩)
            case measure => simp [intOf]; omega
        · have hm1 : mask.testBit (j % 64) = false := by simpa using hm1
          rw [hm1] at q2
          have HST : Hid (crashFrom mask torn 0 m.sure ((us.take (j + 1)).map UW.pair) = crashFrom mask torn 0 m.sure ((us.take j).map UW.pair)) := by
            show _ = _
            rw [hst]
            unfold crashOne
            rw [if_neg (by rw [show bitAt torn j = false from ht1]; simp), if_neg (by rw [show bitAt mask j = false from hm1]; simp)]
          clear hst ht1 hm1
          go_wp2_with fail
          go_roundw
          case rel =>
            refine ⟨j + 1, ss1, hlt, by go_num, hsl.out, ?_, hf.out.step FA.out.any, hor.out⟩
            show RDevAt _ _ _ _ _ _ _
            rw [HST.out]
            exact hdv.out.fr0 FA.out
          case measure => simp [intOf]; omega
    · have hjn : j = n := by omega
      have hT : us.take j = us := List.take_of_length_le (by have := HN.out; omega)
      rw [hT] at hdv
      clear hT hjn
      have g1 := hdv.out.free 1
      have c2' := hdv.out.c2
      have g2 := hdv.out.free 2
      have c3' := hdv.out.c3
      have g3 := hdv.out.free 3
      go_wp2_with fail
      go_end0
      have f3 : Fr (· = q) wr (((wr.setCell ⟨q, 1, none⟩ (.slice none 0 0)).setCell ⟨q, 2, none⟩ (.int .i64 0)).setCell ⟨q, 3, none⟩ (.bool false)) := ((Fr.set1 _ _ _ _).step (Fr.set1 _ _ _ _)).step (Fr.set1 _ _ _ _)
      have hun := hdv.out.unlist f3 0 false (by omega) (by rw [heap_setCell_same _ _ _ _ _ _ (heap_setCell_same _ _ _ _ _ _ (heap_setCell_same _ _ _ _ _ _ hdv.out.head))]; simp)
      refine ⟨rfl, ss1, ?_, ?_, hor.out⟩
      · unfold Dv.crash
        rw [HH.out.eq]
        exact hun
      · exact (hf.out.mono (fun i _ e => .inr e)).step (f3.mono (fun i _ e => .inl e))

end Go.Proofs.Ytpimjachhfnlfaa
