/-
  The device's Unsure and Copy; slices.Clone of sectors. No condition but that fewer than 2^40 writes are open.
-/
import Derived.Test.YtpimjachhfnlfaaLive
namespace Go.Proofs.Ytpimjachhfnlfaa
open Go.RowKit

theorem eql_nil_sec (w : World) (a : Option Addr) (n c n' c' : Nat) : (binOp .eql 125 (.slice a n c) (.slice none n' c')).run Try.prog w = .ok (.bool a.isNone) w :=
  Lib.run_eql_slice_nil w 125 132 a n c n' c' Try.underlying125

set_option maxRecDepth 100000 in
theorem clones_any (a : Addr) (xs : List Value) (n c : Nat) (w : World) (hn : xs.length = n * 513) (h1 : ∀ u ∈ xs, u.oneCell' = true) (hl : n ≤ 4096) (hc : ∀ j u, xs[j]? = some u → w.cell? (a.add j) = some u) :
    Calls Try.prog 80 #[.slice (some a) n c] w fun e w' => ∃ g c', e = .returned (.slice (some ⟨g, 0, none⟩) n c') ∧ Row w' g 132 xs ∧ w.heap.size ≤ g ∧ Fr No w w' := by
  obtain ⟨i, hi, hz0, hz1, hz2⟩ := info_parts info_sec
  generalize hZ : zeroSecA = Z at hz0
  have hzs : Z.size = 513 := by rw [← hZ, zeroSecA_eq]; show zeroSec.cells.length = 513; exact zeroSec_len 512 _
  clear hZ
  have HC := hid hc
  have HN := hid hn
  have H1 := hid h1
  have HZ := hid hzs
  clear hc hn h1 hzs
  have he := eql_nil_sec
  have HO := hid (World.ownsRow_made (base := 0) (e := 132) (size := 513) w #[] 0 (Nat.zero_le _) (by decide) rfl)
  go_enter Try.func80, Try.ntmps80
  go_wp2_with (at_builtin; go_must (refine wpList_append_copy _ rfl (.tmp 5) (.tmp 6) 125 rfl 132 i (.agg Z) 513 513 Try.underlying125 hi hz0 hz1 hz2 HZ.out (by decide) w.heap.size rfl HO.out (some a) n c xs rfl (fun e => by cases e) HN.out ?c1 H1.out (by unfold maxLen; omega) (by omega) ?_))
  case c1 =>
    intro ad had j u hu
    cases had
    have := HC.out j u hu
    rw [World.cell?_alloc_lt _ _ _ (block_lt_of_cell this)]
    exact this
  intro g c' w1 hr hc' hg hf
  have HR := hid hr
  have HF := hid (show Fr No w w1 from (Fr.alloc w _).step hf.out)
  have HG : Hid (w.heap.size ≤ g) := by
    show w.heap.size ≤ g
    rcases hg with hg | hg
    · exact Nat.le_of_eq hg.symm
    · have : w.heap.size + 1 ≤ g := hg
      omega
  clear hr hf hg
  go_wp2_with fail
  go_ret
  exact ⟨g, c', rfl, HR.out.out, HG.out, HF.out⟩

theorem unsure_nil (w : World) : Calls Try.prog 35 #[.pointer none] w fun e w' => e = .returned (.slice none 0 0) ∧ w' = w := by
  go_enter Try.func35, Try.ntmps35
  go_wp2
  go_ret
  exact ⟨rfl, rfl⟩

/-- A list of writes in new memory. -/
def Writes (w : World) (lo : Nat) (v : Value) (l : List (Nat × List UInt8)) : Prop :=
  ∃ us : List UW, l = us.map UW.pair ∧ w.ownsRow 0 57 2 v us.length (us.flatMap UW.cells) ∧ (∀ u ∈ us, Row w u.g 5 (bvs u.data) ∧ 512 ≤ u.c ∧ lo ≤ u.g) ∧ ∀ k, v.ownBlock = some k → lo ≤ k

theorem Writes.fr0 {w w' : World} {lo : Nat} {v : Value} {l : List (Nat × List UInt8)} (h : Writes w lo v l) (f : Fr No w w') : Writes w' lo v l := by
  obtain ⟨us, h1, h2, h3, h4⟩ := h
  exact ⟨us, h1, owns_fr h2 f (fun _ _ => id), fun u hu => ⟨(h3 u hu).1.fr0 f, (h3 u hu).2⟩, h4⟩

set_option maxRecDepth 100000 in
theorem unsure_empty {w : World} {p bs : Nat} {m : Dv} (h : DevAt w p bs (.slice none 0 0) [] m) :
    Calls Try.prog 35 #[.pointer (some ⟨p, 0, none⟩)] w fun e w' => e = .returned (.slice none 0 0) ∧ w' = w := by
  have c1 := h.c1
  clear h
  go_enter Try.func35, Try.ntmps35
  go_wp2
  refine wp_loop_rounds 1 ?_
  rw [rounds_succ]
  go_wp2_with fail
  go_ret
  exact ⟨rfl, rfl⟩

set_option maxRecDepth 100000 in
set_option maxHeartbeats 1000000 in
theorem unsure_full {w : World} {p bs ub cu : Nat} {us : List UW} {m : Dv} (h : DevAt w p bs (.slice (some ⟨ub, 0, none⟩) us.length cu) us m) (hsz : us.length < 1099511627776) :
    Calls Try.prog 35 #[.pointer (some ⟨p, 0, none⟩)] w fun e w' => ∃ v, e = .returned v ∧ Writes w' w.heap.size v m.unsure ∧ Fr No w w' := by
  obtain ⟨iw, hiw, hw0, hw1, hw2⟩ := info_parts info_write
  have c1 := h.c1
  have HD := hid h
  clear h
  obtain ⟨n, hn⟩ : ∃ n, n = us.length := ⟨_, rfl⟩
  have HN := hid hn
  rw [← hn] at hsz c1
  clear hn
  go_enter Try.func35, Try.ntmps35
  go_wp2
  go_loopw [3, 13] (fun v i wr => ∃ (j : Nat) (vs : List UW), j ≤ n ∧ i = .int .i64 j ∧ Hid (vs.length = j) ∧ Hid (vs.map UW.pair = (us.take j).map UW.pair) ∧ Hid (wr.ownsRow 0 57 2 v j (vs.flatMap UW.cells)) ∧ Hid (∀ u ∈ vs, Row wr u.g 5 (bvs u.data) ∧ 512 ≤ u.c ∧ w.heap.size ≤ u.g) ∧ Hid (∀ k, v.ownBlock = some k → w.heap.size ≤ k) ∧ Hid (Fr No w wr)) (fun _ i _ => n - (intOf i).toNat)
  case atStart => exact ⟨0, [], Nat.zero_le _, rfl, rfl, rfl, World.ownsRow_nil _ _ _ _, (fun u hu => by cases hu), (fun k hk => by cases hk), Fr.refl _ _⟩
  case round =>
    obtain ⟨j, vs, hj, rfl, hvl, hvp, hown, hvd, hvb, hf⟩ := hrel
    by_cases hlt : j < n
    · have hj' : Hid (j < us.length) := by have := HN.out; show j < us.length; omega
      have hrow := row_of_owns HD.out.list
      have hw := uw_at j hj'.out
      have c0 := hf.out.cell (hrow.cell _ _ hw.1) id
      have c2 := hf.out.cell (hrow.cell _ _ hw.2) id
      have hdat := hid (HD.out.data _ (List.getElem_mem hj'.out))
      have hl := hid (HD.out.wf.wsize (us[j]'hj'.out).pair (by rw [HD.out.eq]; exact List.mem_map_of_mem (List.getElem_mem hj'.out)))
      clear hw hrow
      have e0 : (wr.alloc (.cells #[.int .i64 (us[j]'hj'.out).pos, .slice (some ⟨(us[j]'hj'.out).g, 0, none⟩) 512 (us[j]'hj'.out).c] 57)).drew.cell? ⟨wr.heap.size, 0, none⟩ = some (.int .i64 (us[j]'hj'.out).pos) := World.cell?_alloc_new wr _ _ 0
      have HE := hid e0
      have HF := hid (show Fr No wr (wr.alloc (.cells #[.int .i64 (us[j]'hj'.out).pos, .slice (some ⟨(us[j]'hj'.out).g, 0, none⟩) 512 (us[j]'hj'.out).c] 57)).drew from (Fr.alloc _ _).step (Fr.drew _))
      have HDD := hid (fun i u (hi : (bvs (us[j]'hj'.out).data)[i]? = some u) => show (wr.alloc (.cells #[.int .i64 (us[j]'hj'.out).pos, .slice (some ⟨(us[j]'hj'.out).g, 0, none⟩) 512 (us[j]'hj'.out).c] 57)).drew.cell? ((⟨(us[j]'hj'.out).g, 0, none⟩ : Addr).add i) = some u by rw [Addr.add_lit, Nat.zero_add]; exact ((hdat.out.1.fr0 hf.out).fr0 HF.out).cell i u hi)
      clear e0
      go_wp2_with fail
      go_region_law (first
        | (refine step_append_at rfl (.tmp 17) (.tmp 24) 48 rfl 57 iw _ 2 32 Try.underlying48 hiw hw0 hw1 hw2 rfl (by decide) u3 j (vs.flatMap UW.cells) rfl (owns_fr hown.out (HFX.out.step (Fr.alloc w2 _)) (fun _ _ => id)) ⟨w2.heap.size, 0, none⟩ 1 1 [.int .i64 (us[j]'hj'.out).pos, .slice (some ⟨g2, 0, none⟩) 512 c2'] rfl rfl (by intro i u hi; match i, hi with | 0, hi => simp at hi; subst hi; simp [Addr.add] | 1, hi => simp at hi; subst hi; simp [Addr.add]) (by intro u hu; simp at hu; rcases hu with rfl | rfl <;> rfl) (by decide) (by unfold maxLen; omega) (by omega) ?_; intro g3 c3 w3 ho3 hg3 hf3)
        | (go_simp; go_at_call 78; refine (cloneb_any ⟨(us[j]'hj'.out).g, 0, none⟩ (us[j]'hj'.out).data 512 _ _ hl.out (by decide) HDD.out).mono ?_; rintro e w2 ⟨g2, c2', rfl, hr2, hc2', hg2, hf2⟩; have e2 := hf2.cell HE.out id; have HFX := hid (HF.out.step hf2); have HR2 := hid hr2; clear hr2 hf2))
      all_goals
        have ho2 : (w2.alloc (.cells #[.int .i64 (us[j]'hj'.out).pos, .slice (some ⟨g2, 0, none⟩) 512 c2'] 57)).ownsRow 0 57 2 u3 j (vs.flatMap UW.cells) := owns_fr hown.out (HFX.out.step (Fr.alloc w2 _)) (fun _ _ => id)
        have hne : ∀ g (xs : List Value), Row (w2.alloc (.cells #[.int .i64 (us[j]'hj'.out).pos, .slice (some ⟨g2, 0, none⟩) 512 c2'] 57)) g 5 xs → Row w3 g 5 xs := by
          intro g xs hr
          refine hr.fr hf3.out (fun e => ?_)
          obtain ⟨cur, hc, _⟩ := hr
          exact owns_ne ho2 hc (by decide) g e rfl
        have HNE := hid hne
        have F3 := hid ((((hf.out.step HFX.out).step (Fr.alloc w2 _)).trans hf3.out (fun i hi => .inr (hvb.out i hi)) : Fr No w w3))
        have HG2 : Hid (w.heap.size ≤ g2) := by
          have h1 := hf.out.size
          have h2 : wr.heap.size + 1 ≤ g2 := by simpa using hg2
          show w.heap.size ≤ g2
          omega
        have HS2 : Hid (w.heap.size ≤ w2.heap.size) := Nat.le_trans hf.out.size HFX.out.size
        have HC2 := hid hc2'.1
        clear ho2 hne hg2 hc2'
        go_wp2_with fail
        go_roundw
        case rel =>
          refine ⟨j + 1, vs ++ [⟨(us[j]'hj'.out).pos, (us[j]'hj'.out).data, g2, c2'⟩], hlt, by go_num, ?_, ?_, ?_, ?_, ?_, F3.out⟩
          · show _ = _
            rw [List.length_append, hvl.out]; rfl
          · show _ = _
            rw [take_succ_at us j hj'.out, List.map_append, List.map_append, hvp.out]
            rfl
          · have := ho3.out
            show World.ownsRow _ _ _ _ _ _ _
            simpa [UW.cells] using this
          · intro u hu
            rcases List.mem_append.1 hu with hu | hu
            · have h1 := hvd.out u hu
              exact ⟨HNE.out _ _ ((h1.1.fr0 HFX.out).fr0 (Fr.alloc _ _)), h1.2⟩
            · obtain rfl := List.mem_singleton.1 hu
              exact ⟨HNE.out _ _ (HR2.out.fr0 (Fr.alloc _ _)), HC2.out, HG2.out⟩
          · intro k hk
            cases hk
            rcases hg3.out with h1 | h1
            · exact hvb.out _ h1
            · have h2 : w2.heap.size + 1 ≤ g3 := by simpa using h1
              have := HS2.out
              show w.heap.size ≤ g3
              omega
        case measure => simp [intOf]; omega
    · have e : us.take j = us := List.take_of_length_le (by have := HN.out; omega)
      rw [e] at hvp
      clear e
      go_wp2_with fail
      go_ret
      refine ⟨u3, rfl, ⟨vs, ?_, ?_, hvd.out, hvb.out⟩, hf.out⟩
      · rw [HD.out.eq]; exact hvp.out.symm
      · rw [hvl.out]; exact hown.out
end Go.Proofs.Ytpimjachhfnlfaa
