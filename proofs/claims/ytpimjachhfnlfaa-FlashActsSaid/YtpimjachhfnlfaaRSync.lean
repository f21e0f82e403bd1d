/-
  The document's device: Sync. No condition but that fewer than 2^40 writes are open.
-/
import Derived.Test.YtpimjachhfnlfaaRWrite
namespace Go.Proofs.Ytpimjachhfnlfaa
open Go.RowKit

/-- A cell of a row of one's own is written. -/
theorem owns_set {w : World} {base e size n c g : Nat} {xs : List Value} (h : w.ownsRow base e size (.slice (some ⟨g, 0, none⟩) n c) n xs) (i : Nat) (v : Value) :
    (w.setCell ⟨g, i, none⟩ v).ownsRow base e size (.slice (some ⟨g, 0, none⟩) n c) n (xs.set i v) := by
  refine ⟨by rw [List.length_set]; exact h.1, ?_⟩
  rcases h.2 with ⟨h0, _⟩ | ⟨g', cap, cur, hv, hb, hg, hn, hm, hs, ht⟩
  · cases h0
  · cases hv
    refine .inr ⟨g, c, cur.setIfInBounds i v, rfl, hb, ?_, hn, hm, by simpa using hs, ?_⟩
    · rw [heap_setCell_same _ _ _ _ _ _ hg]
    · rw [Array.toList_setIfInBounds, List.take_set, ht]

/-- The cells of the sectors, one of them written. -/
theorem rs_set (ss : List RS) (k : Nat) (s : RS) (hk : k < ss.length) : ((ss.flatMap RS.cells).set (k * 2) (.slice (some ⟨s.g, 0, none⟩) 512 s.c)).set (k * 2 + 1) (.bool s.torn) = (ss.set k s).flatMap RS.cells := by
  have hc : ∀ x ∈ ss, (RS.cells x).length = 2 := fun _ _ => rfl
  have hc2 : ∀ x ∈ ss.set k s, (RS.cells x).length = 2 := fun _ _ => rfl
  apply List.ext_getElem?
  intro i
  have e : i = (i / 2) * 2 + i % 2 := by omega
  have h2 : i % 2 < 2 := Nat.mod_lt _ (by decide)
  have h3 := getElem?_flatMap_fixed ss RS.cells 2 hc (i / 2) (i % 2) h2
  have h4 := getElem?_flatMap_fixed (ss.set k s) RS.cells 2 hc2 (i / 2) (i % 2) h2
  rw [← e] at h3 h4
  have hl : (ss.flatMap RS.cells).length = ss.length * 2 := length_flatMap_fixed _ _ 2 hc
  rw [h4, List.getElem?_set, List.getElem?_set, List.length_set, List.getElem?_set, hl]
  by_cases hi : k = i / 2
  · rw [if_pos hi]
    have hk2 : k < ss.length := hk
    rw [if_pos hk2]
    rcases Nat.mod_two_eq_zero_or_one i with h0 | h0
    · rw [if_neg (by omega), if_pos (by omega), if_pos (by omega), h0]; rfl
    · rw [if_pos (by omega), if_pos (by omega), h0]; rfl
  · rw [if_neg hi, if_neg (by omega), if_neg (by omega), h3]

/-- A sector is written in the document's device. -/
theorem RDevAt.settle {w : World} {q sg sc : Nat} {uv : Value} {ss : List RS} {us : List UW} {m : Dv} (h : RDevAt w q (.slice (some ⟨sg, 0, none⟩) ss.length sc) uv ss us m) (k : Nat) (hk : k < m.sure.length) (s : RS) (t : Sec) (hs : Row w s.g 5 (bvs s.data)) (hc : 512 ≤ s.c) (hl : s.data.length = 512) (ht : s.tells t) (htl : t.data.length = 512) :
    RDevAt ((w.setCell ⟨sg, k * 2, none⟩ (.slice (some ⟨s.g, 0, none⟩) 512 s.c)).setCell ⟨sg, k * 2 + 1, none⟩ (.bool s.torn)) q (.slice (some ⟨sg, 0, none⟩) ss.length sc) uv (ss.set k s) us { m with sure := m.sure.set k t } ∧
    Fr (· = sg) w ((w.setCell ⟨sg, k * 2, none⟩ (.slice (some ⟨s.g, 0, none⟩) 512 s.c)).setCell ⟨sg, k * 2 + 1, none⟩ (.bool s.torn)) := by
  have hlen := h.len
  have f : Fr (· = sg) w ((w.setCell ⟨sg, k * 2, none⟩ (.slice (some ⟨s.g, 0, none⟩) 512 s.c)).setCell ⟨sg, k * 2 + 1, none⟩ (.bool s.torn)) := (Fr.set1 _ _ _ _).step (Fr.set1 _ _ _ _)
  have hrow := row_of_owns h.sure
  obtain ⟨cur, hcur, -⟩ := hrow
  have ho := owns_set (owns_set h.sure (k * 2) (.slice (some ⟨s.g, 0, none⟩) 512 s.c)) (k * 2 + 1) (.bool s.torn)
  rw [rs_set ss k s (by omega)] at ho
  refine ⟨⟨f.heap h.head (fun e => h.q_ne.1 sg rfl e.symm), by rw [List.length_set]; exact ho, by simpa using h.len, ?_, ?_, owns_fr h.list f (fun i hi => owns_ne h.list hcur (by decide) i hi), h.eq, fun u hu => ⟨(h.data u hu).1.fr f ((h.data u hu).1.ne hcur (by decide)), (h.data u hu).2⟩, ?_⟩, f⟩
  · intro i h1 h2
    rw [List.length_set] at h1 h2
    rw [List.getElem_set, List.getElem_set]
    by_cases e : k = i
    · rw [if_pos e, if_pos e]; exact ht
    · rw [if_neg e, if_neg e]; exact h.tells i h1 h2
  · intro x hx
    rcases List.mem_or_eq_of_mem_set hx with hx | rfl
    · exact ⟨(h.sdata x hx).1.fr f ((h.sdata x hx).1.ne hcur (by decide)), (h.sdata x hx).2⟩
    · exact ⟨hs.fr f (hs.ne hcur (by decide)), hc, hl⟩
  · refine ⟨by simpa using h.wf.few, ?_, h.wf.wsize, fun u hu => by simpa using h.wf.wpos u hu, h.wf.lim⟩
    intro x hx
    rcases List.mem_or_eq_of_mem_set hx with hx | rfl
    · exact h.wf.size x hx
    · exact htl

theorem RDevAt.cast {w : World} {q : Nat} {sv sv' uv : Value} {ss : List RS} {us : List UW} {m : Dv} (h : RDevAt w q sv uv ss us m) (e : sv = sv') : RDevAt w q sv' uv ss us m := e ▸ h

/-- The list is empty: the device behind Sync. -/
theorem RDevAt.unlist {w w' : World} {q : Nat} {sv uv : Value} {ss : List RS} {us : List UW} {m : Dv} (h : RDevAt w q sv uv ss us m) (f : Fr (· = q) w w') (l : Nat) (d : Bool) (hl : l ≤ 9223372036854775807)
    (hh : w'.heap[q]? = some (.cells #[sv, .slice none 0 0, .int .i64 l, .bool d] 50 (0, 0))) : RDevAt w' q sv (.slice none 0 0) ss [] { m with unsure := [], limit := l, down := d } :=
  ⟨hh, owns_fr h.sure f h.q_ne.1, h.len, h.tells, fun s hs => ⟨(h.sdata s hs).1.fr f (h.q_ne.2.2.1 s hs), (h.sdata s hs).2⟩, World.ownsRow_nil _ _ _ _, rfl, (fun u hu => by cases hu), ⟨h.wf.few, h.wf.size, (fun u hu => by cases hu), (fun u hu => by cases hu), hl⟩⟩

theorem rsync_down {w : World} {q : Nat} {sv uv : Value} {ss : List RS} {us : List UW} {m : Dv} (h : RDevAt w q sv uv ss us m) (hd : m.down = true) :
    Calls Try.prog 28 #[.pointer (some ⟨q, 0, none⟩)] w fun e w' => e = .returned (.int .i64 8) ∧ w' = w := by
  have h3 := h.c3
  rw [hd] at h3
  clear h hd
  go_enter Try.func28, Try.ntmps28
  go_wp2
  go_ret
  exact ⟨rfl, rfl⟩

theorem rsync_cut {w : World} {q : Nat} {sv uv : Value} {ss : List RS} {us : List UW} {m : Dv} (h : RDevAt w q sv uv ss us m) (hd : m.down = false) (hl : m.limit = 1) :
    Calls Try.prog 28 #[.pointer (some ⟨q, 0, none⟩)] w fun e w' => e = .returned (.int .i64 8) ∧ RDevAt w' q sv uv ss us m.spent ∧ Fr (· = q) w w' := by
  have h3 := h.c3
  have hP := fun w' (e : w' = w) => rspend_at (e ▸ h) hd
  rw [show decide (m.limit ≠ 1) = false by simp [hl]] at hP
  have HP := hid hP
  rw [hd] at h3
  clear h hd hl hP
  go_enter Try.func28, Try.ntmps28
  go_wp2_with (go_at_call 79; refine (HP.out _ rfl).mono ?_; rintro e w' ⟨rfl, hd', hf'⟩)
  go_ret
  exact ⟨rfl, hd', hf'⟩

set_option maxRecDepth 100000 in
set_option maxHeartbeats 2000000 in
theorem rsync_ok {w : World} {q : Nat} {sv uv : Value} {ss : List RS} {us : List UW} {m : Dv} (h : RDevAt w q sv uv ss us m) (hd : m.down = false) (hl : m.limit ≠ 1) (few : us.length ≤ 1099511627776) :
    Calls Try.prog 28 #[.pointer (some ⟨q, 0, none⟩)] w fun e w' => e = .returned (.int .i64 0) ∧ ∃ ss', RDevAt w' q sv (.slice none 0 0) ss' [] { m.spent with sure := settleAll m.sure m.unsure, unsure := [] } ∧ Fr (fun i => i = q ∨ sv.ownBlock = some i) w w' ∧ (∀ s ∈ ss', (∃ s0 ∈ ss, s.g = s0.g) ∨ ∃ u ∈ us, s.g = u.g) := by
  have hP := fun w' (e : w' = w) => rspend_at (e ▸ h) hd
  rw [show decide (m.limit ≠ 1) = true by simp [hl]] at hP
  have HP := hid hP
  have h3 := h.c3
  rw [hd] at h3
  obtain ⟨⟨ao, ac, hv⟩, uo, uc, hu⟩ := h.slices
  have HH := hid h
  have HV := hid hv
  have HU := hid hu
  obtain ⟨n, hn⟩ : ∃ n, n = us.length := ⟨_, rfl⟩
  rw [← hn] at few
  have HN := hid hn
  clear h hP hl hv hu hn
  go_enter Try.func28, Try.ntmps28
  go_wp2_with fail
  refine (HP.out _ rfl).mono ?_
  rintro e w1 ⟨rfl, hd1, hf1⟩
  have D1 := hid hd1
  have F1 := hid hf1
  clear hd1 hf1
  go_wp2_with fail
  go_loopw [3] (fun i wr => ∃ (j : Nat) (ss1 : List RS), j ≤ n ∧ i = .int .i64 j ∧ Hid (ss1.length = ss.length) ∧ Hid (RDevAt wr q sv uv ss1 us { m.spent with sure := settleAll m.spent.sure ((us.take j).map UW.pair) }) ∧ Hid (Fr (fun i => sv.ownBlock = some i) w1 wr) ∧ Hid (∀ s ∈ ss1, (∃ s0 ∈ ss, s.g = s0.g) ∨ ∃ u ∈ us, s.g = u.g)) (fun i _ => n - (intOf i).toNat)
  case atStart => exact ⟨0, ss, Nat.zero_le _, rfl, rfl, D1.out, Fr.refl _ _, fun s hs => .inl ⟨s, hs, rfl⟩⟩
  case round =>
    obtain ⟨j, ss1, hj, rfl, hsl, hdv, hf, hor⟩ := hrel
    have c1 := hdv.out.c1
    rw [HU.out, ← HN.out] at c1
    by_cases hlt : j < n
    · have hj' : Hid (j < us.length) := by have := HN.out; show j < us.length; omega
      obtain ⟨ug, ucc, huv, hur, -, -⟩ := owns_place hdv.out.list (by have := hj'.out; omega)
      have e0 := huv.symm.trans HU.out
      injection e0 with e1 e2 e3
      subst e1 e3
      have hw := uw_at j hj'.out
      have c2 := hur.cell _ _ hw.1
      have c3 := hur.cell _ _ hw.2
      have hp := hid (HH.out.wf.wpos (us[j]'hj'.out).pair (by rw [HH.out.eq]; exact List.mem_map_of_mem (List.getElem_mem hj'.out)))
      have hws := hid (HH.out.wf.wsize (us[j]'hj'.out).pair (by rw [HH.out.eq]; exact List.mem_map_of_mem (List.getElem_mem hj'.out)))
      have hdat := hid (hdv.out.data _ (List.getElem_mem hj'.out))
      have hst : Hid (settleAll m.spent.sure ((us.take (j + 1)).map UW.pair) = (settleAll m.spent.sure ((us.take j).map UW.pair)).set (us[j]'hj'.out).pos ⟨(us[j]'hj'.out).data, false⟩) := by
        show _ = _
        rw [take_succ_at us j hj'.out, List.map_append, List.map_cons, List.map_nil, settleAll_snoc]
        rfl
      have hmem := hid (List.getElem_mem hj'.out)
      obtain ⟨u, hu⟩ : ∃ u, u = us[j]'hj'.out := ⟨_, rfl⟩
      rw [← hu] at c2 c3 hp hws hdat hst hmem
      have hpos : Hid (u.pos < m.sure.length) := hp.out
      have hslen : Hid ((settleAll m.spent.sure ((us.take j).map UW.pair)).length = m.sure.length) := by show _ = _; rw [settleAll_len, spent_sure]
      obtain ⟨sg, scc, hsv, hsr, -, -⟩ := owns_place hdv.out.sure (by have h1 := hdv.out.len; have h2 := hslen.out; have h3 := hpos.out; simp only at h1; omega)
      have hsl2 : ss1.length = m.sure.length := by have h1 := hdv.out.len; have h2 := hslen.out; simp only at h1; omega
      have c0 := hdv.out.c0
      rw [hsv] at c0
      have hrl : u.pos < ss1.length := by have := hpos.out; omega
      have hrs := rs_at u.pos hrl
      obtain ⟨r0, hr0⟩ : ∃ r, r = ss1[u.pos]'hrl := ⟨_, rfl⟩
      rw [← hr0] at hrs
      have s0 := hsr.cell _ _ hrs.1
      have s1 := hsr.cell _ _ hrs.2
      obtain ⟨cur, hcur, -⟩ := hsr
      have f0 := frozen_of_row wr sg (u.pos * 2) _ _ hcur
      have f1 := frozen_of_row wr sg (u.pos * 2 + 1) _ _ hcur
      have b1 : (u.pos : Int) < (ss1.length : Int) := by have := hpos.out; omega
      have HSV := hid hsv
      have HSL := hid hsl2
      clear hr0
      clear hu hw hrs hcur hur huv e2 hsv hsl2 hrl
      go_wp2_with fail
      go_region
      have hset := (hdv.out.cast HSV.out).settle u.pos (by show u.pos < (settleAll _ _).length; rw [hslen.out]; exact hpos.out) ⟨u.data, false, u.g, u.c⟩ ⟨u.data, false⟩ hdat.out.1 hdat.out.2 hws.out ⟨rfl, fun _ => rfl⟩ hws.out
      have HD5 := hid (hset.1.fr0 (Fr.drew (S := No) _))
      have F5 : Hid (Fr (fun i => sv.ownBlock = some i) wr (((wr.setCell ⟨sg, u.pos * 2, none⟩ (.slice (some ⟨u.g, 0, none⟩) 512 u.c)).setCell ⟨sg, u.pos * 2 + 1, none⟩ (.bool false)).drew)) := by
        refine Fr.step (hset.2.mono fun i _ e => ?_) (Fr.drew _)
        rw [HSV.out, e]; rfl
      clear hset s0 s1 f0 f1 c0 c2 c3
      go_wp2_with fail
      go_roundw
      case rel =>
        refine ⟨j + 1, ss1.set u.pos ⟨u.data, false, u.g, u.c⟩, hlt, by go_num, ?_, ?_, hf.out.step F5.out, ?_⟩
        · show _ = _
          rw [List.length_set]; exact hsl.out
        · have h5 := HD5.out
          show RDevAt _ _ _ _ _ _ _
          rw [hst.out, HSV.out]
          exact h5
        · intro s hs
          rcases List.mem_or_eq_of_mem_set hs with hs | rfl
          · exact hor.out s hs
          · exact .inr ⟨u, hmem.out, rfl⟩
      case measure => simp [intOf]; omega
    · have hjn : j = n := by omega
      have ht : us.take j = us := List.take_of_length_le (by have := HN.out; omega)
      rw [ht] at hdv
      clear ht hjn
      have g1 := hdv.out.free 1
      go_wp2_with fail
      go_ret
      have hun := hdv.out.unlist (Fr.set1 wr q 1 (.slice none 0 0)) m.spent.limit m.spent.down hdv.out.wf.lim (by rw [heap_setCell_same _ _ _ _ _ _ hdv.out.head]; simp)
      refine ⟨rfl, ss1, ?_, ?_, hor.out⟩
      · rw [HH.out.eq, ← spent_sure m]
        exact hun
      · exact ((F1.out.mono (fun i _ e => .inl e)).step (hf.out.mono (fun i _ e => .inr e))).step ((Fr.set1 _ _ _ _).mono (fun i _ e => .inl e))

end Go.Proofs.Ytpimjachhfnlfaa
