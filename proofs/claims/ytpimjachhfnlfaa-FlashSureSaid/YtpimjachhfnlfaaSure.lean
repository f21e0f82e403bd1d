/-
  FlashSure, walked. No condition.
-/
import Derived.Test.YtpimjachhfnlfaaSureLaw
namespace Go.Proofs.Ytpimjachhfnlfaa
open Go.RowKit

theorem info_bytes : (Try.prog.info? 23).map (fun i => (i.zero, i.size, i.bytes)) = some (some (.slice none 0 0), 1, 24) := by kernel_rfl
theorem info_bool : (Try.prog.info? 4).map (fun i => (i.zero, i.size, i.bytes)) = some (some (.bool false), 1, 1) := by kernel_rfl

/-- make of one-cell elements: the row. -/
theorem row_of_made {w : World} {g e n c : Nat} {z : Value} (hown : w.ownsRow 0 e 1 (.slice (some ⟨g, 0, none⟩) n c) n (madeCells #[z] n).toList) (hc : c = n) : w.heap[g]? = some (.cells (List.replicate n z).toArray e (0, 0)) := by
  rcases hown.2 with ⟨h, _⟩ | ⟨g', cap, cur, hv, _, hgg, _, _, hcs, ht⟩
  · cases h
  · cases hv
    rw [hgg]
    subst hc
    have e1 : cur.toList.take (c * 1) = cur.toList := List.take_of_length_le (by rw [Array.length_toList]; omega)
    have e2 := made_zero [z] c (by show 0 < 1; decide)
    simp only [List.length_cons, List.length_nil, Nat.zero_add, Nat.mul_one] at e2
    have e3 : (madeCells #[z] c).toList = List.replicate c z := by
      have : #[z] = [z].toArray := rfl
      rw [this, e2]
      exact List.flatten_replicate_singleton
    rw [e1, e3] at ht
    rw [← ht]

theorem BsList.at {w0 w : World} {a : Option Addr} {n : Nat} {ls : List (List UInt8)} (h : BsList w0 w a n ls) (hn : 0 < n) :
    ∃ b o, a = some ⟨b, o, none⟩ ∧ b < w.heap.size ∧ ∀ j (hj : j < ls.length), ∃ u, w.cell? ⟨b, o + j, none⟩ = some u ∧ Bs w0 w u ls[j] := by
  cases a with
  | none => have := h.nil rfl; omega
  | some ad =>
    obtain ⟨b, o, s⟩ := ad
    obtain ⟨u, hu, _⟩ := h.elem _ rfl 0 (by rw [h.len]; exact hn)
    have hs : s = none := by simpa [Addr.add] using World.cell?_spot hu
    subst hs
    refine ⟨b, o, rfl, ?_, fun j hj => ?_⟩
    · have := block_lt_of_cell hu
      rwa [add_block] at this
    · obtain ⟨u, h1, h2⟩ := h.elem _ rfl j hj
      rw [Addr.add_lit] at h1
      exact ⟨u, h1, h2⟩

set_option maxRecDepth 100000 in
set_option maxHeartbeats 4000000 in
theorem sure_walk (a : Option Addr) (n c : Nat) (ls : List (List UInt8)) (ao : Option Addr) (no co : Nat) (ov : List UInt8) (mask torn : Nat) (w : World) (hls : BsList w w a n ls) (hov : BytesIn w ao no ov) (hn : n ≤ 1152921504606846976) (hno : no ≤ 1152921504606846976) (hm : mask < 18446744073709551616) (ht : torn < 18446744073709551616) :
    Calls Try.prog 3 #[.slice a n c, .slice ao no co, .int .u64 mask, .int .u64 torn] w fun e w' => e = .returned (.bool true) ∧ Fr No w w' := by
  obtain ⟨iu, hiu, hu0, hu1, hu2⟩ := info_parts info_u8
  obtain ⟨ib, hib, hb0, hb1, hb2⟩ := info_parts info_bytes
  obtain ⟨ic, hic, hc0, hc1, hc2⟩ := info_parts info_bool
  have HL := hid hls
  have HO := hid hov
  clear hls hov
  go_enter Try.func3, Try.ntmps3
  go_wp2_with fail
  refine (own_new 8 w _ (Fr.refl _ _) (by decide) (by decide)).mono ?_
  rintro e w1 ⟨p, rfl, hd, hf⟩
  have H1 := hid hd
  clear hd hf
  go_wp2_with fail
  refine (answers_any _).mono ?_
  rintro e w2 ⟨rfl, hf⟩
  have H2 := hid (H1.out.next hf)
  clear hf
  go_wp2_with (at_make; go_must (refine wpList_make_full _ rfl _ _ 22 rfl 0 23 ib (.slice none 0 0) 1 Try.underlying22 hib hb0 hb1 _ _ _ _ 8 rfl rfl rfl rfl ?b1 ?b2 (Nat.zero_le _) ?_))
  case b1 => rw [hb2]; decide
  case b2 => decide
  intro w3 hown hg3
  have hf3 : Fr No w2 w3 := Fr.grown hg3 (fun k hk => by cases hk)
  have hrow := row_of_made hown rfl
  have hgw : w.heap.size ≤ w2.heap.size := H2.out.fr.size
  obtain ⟨gw, hgw'⟩ : ∃ gw, gw = w2.heap.size := ⟨_, rfl⟩
  rw [← hgw'] at hrow hgw ⊢
  have hW : Want w w3 gw (wants ls 0) := by
    refine ⟨List.replicate 8 (.slice none 0 0), hrow, by simp [wants_len], ?_⟩
    intro j u l hu hl
    have hj : j < (wants ls 0).length := (List.getElem?_eq_some_iff.1 hl).1
    rw [List.getElem?_eq_getElem hj, wants_zero] at hl
    cases hl
    rw [List.eq_of_mem_replicate (List.mem_of_getElem? hu)]
    exact Bs.nil _ _
  have HW3 := hid hW
  have H3 := hid (H2.out.next hf3)
  have HGW := hid hgw
  clear hown hg3 hf3 hrow hW hgw' hgw
  go_wp2_with fail
  go_loopw [12] (fun i wr => ∃ k : Nat, k ≤ n ∧ k ≤ 8 ∧ i = .int .i64 k ∧ Hid (Own w wr p (dv8 (firsts ls k))) ∧ Hid (Want w wr gw (wants ls k))) (fun i _ => 8 - (intOf i).toNat)
  case atStart => exact ⟨0, Nat.zero_le _, Nat.zero_le _, rfl, H3.out, HW3.out⟩
  case round =>
    obtain ⟨k, hk, hk8, rfl, hd, hw⟩ := hrel
    by_cases hgo : k < n ∧ k < 8
    · obtain ⟨hlt, hlt8⟩ := hgo
      · obtain ⟨b, o, rfl, hbs, hcell⟩ := HL.out.at (by omega)
        have hkl : Hid (k < ls.length) := by have := HL.out.len; show k < ls.length; omega
        obtain ⟨u, c0, hbu⟩ := hcell k hkl.out
        have c1 := hd.out.fr.cell c0 id
        have HB := hid hbu
        obtain ⟨au, cu, rfl, hbi, hnilu, hcu, hkeep⟩ := hbu.ex
        clear hcell hkeep hbi
        obtain ⟨l, hl⟩ : ∃ l, l = ls[k]'hkl.out := ⟨_, rfl⟩
        rw [← hl] at c0 c1 HB hnilu hcu
        have HLL := hid hl
        clear hl
        have hbr : b < wr.heap.size := Nat.lt_of_lt_of_le hbs hd.out.fr.size
        have HNU := hid hnilu
        clear hbu hnilu
        by_cases h512 : l.length ≤ 512
        · have q1 : (l.length : Int) ≤ 512 := by omega
          have H512 := hid h512
          have HBS := hid hbs
          have HC0 := hid c0
          have HBI : Hid (BytesIn (wr.alloc (.cells #[] 5)) au l.length l) := by
            exact (HB.out.slice.1.fr0 hd.out.fr).fr0 (Fr.alloc _ _)
          have HO5 := hid (World.ownsRow_made (base := 0) (e := 5) (size := 1) wr #[] 0 (Nat.zero_le _) (by decide) rfl)
          clear c0 h512 hbs
          go_wp2_with (at_builtin; go_must (refine wpList_append_copy _ rfl (.tmp 49) (.tmp 53) 23 rfl 5 iu (.int .u8 0) 1 1 Try.underlying23 hiu hu0 hu1 hu2 rfl (by decide) wr.heap.size rfl HO5.out au l.length cu (bvs l) rfl (fun e => by have := HNU.out e; rw [this.1, this.2]; exact ⟨rfl, rfl⟩) (by rw [bvs_len, Nat.mul_one]) HBI.out.cell (bvs_one l) (by unfold maxLen; omega) (by omega) ?_))
          intro g c' w6 hr6 hc6 _ hf6
          have hf6' : Fr No wr w6 := (Fr.alloc wr _).step hf6.out
          have H6 := hid (hd.out.next hf6')
          have HW6 := hid (hw.out.next hf6')
          have HB6 := hid (Row.bytes hr6.out rfl)
          clear hr6 hf6 hf6' hbr
          go_wp2_with fail
          refine (own_write k _ _ _ l H6.out (dv8_live _) (by rw [dv8_len]; exact hlt8) (by show (firsts ls k).length < _; rw [firsts_len]; omega) H512.out HB6.out).mono ?_
          rintro e w7 ⟨rfl, hd7, hf7⟩
          have H7 := hid (show Own w w7 p (dv8 (firsts ls (k + 1))) by rw [← dv8_add ls k hkl.out, ← HLL.out]; exact hd7)
          have hw7 := HW6.out.wr hf7
          have HW7 := hid hw7
          obtain ⟨⟨u0, d0, -⟩, d1⟩ := hw7.cell k (by rw [wants_len]; exact hlt8)
          have c7 := H7.out.fr.cell HC0.out id
          clear hd7 hf7 hw7 H6 HW6
          go_wp2_with fail
          have hset := HW7.out.set HGW.out k (.slice au l.length cu) l (HB.out.next H7.out.fr)
          go_roundw
          case rel =>
            refine ⟨k + 1, hlt, hlt8, by go_num, ?_, ?_⟩
            · obtain ⟨cur, hcur, -⟩ := HW7.out
              exact H7.out.other (Fr.set1 _ _ _ _) hcur (by decide) (by decide) (by decide) (by decide) HGW.out
            · show Want _ _ _ _
              rw [wants_succ ls k hkl.out hlt8, ← HLL.out]
              exact hset.1
          case measure => simp [intOf]; omega
        · have q1 : (512 : Int) < (l.length : Int) := by omega
          go_wp2_with fail
          go_ret
          exact ⟨rfl, hd.out.fr⟩
    · have hS := hid (agree_first ls k hk8)
      rcases (show (k < n ∧ ¬ k < 8) ∨ ¬ k < n by omega) with ⟨hlt, hlt8⟩ | hlt
      all_goals
        go_wp2_with fail
        refine (own_sync hd.out (dv8_live _) (by show (firsts ls k).length ≤ _; rw [firsts_len]; omega)).mono ?_
        rintro e w4 ⟨rfl, hd4, hf4⟩
        have H4 := hid (show Own w w4 p (dvS (settleAll (Dv.zero 8).sure (firsts ls k)) []) from hd4)
        have HW4 := hid (hw.out.wr hf4)
        obtain ⟨S0, hS0⟩ : ∃ S0, S0 = settleAll (Dv.zero 8).sure (firsts ls k) := ⟨_, rfl⟩
        obtain ⟨wl0, hwl0⟩ : ∃ wl0, wl0 = wants ls k := ⟨_, rfl⟩
        rw [← hS0] at H4 hS
        rw [← hwl0] at HW4 hS
        clear hd4 hf4 hd hw hS0 hwl0 hlt hk hk8
        go_wp2_with (at_make; go_must (refine wpList_make_full _ rfl _ _ 32 rfl 0 4 ic (.bool false) 1 Try.underlying32 hic hc0 hc1 _ _ _ _ 8 rfl rfl rfl rfl (by rw [hc2]; decide) (by decide) (Nat.zero_le _) ?_))
        intro w5 hown hg5
        have hf5 : Fr No w4 w5 := Fr.grown hg5 (fun k hk => by cases hk)
        have hrow := row_of_made hown rfl
        obtain ⟨gb, hgb⟩ : ∃ gb, gb = w4.heap.size := ⟨_, rfl⟩
        rw [← hgb] at hrow ⊢
        have HB5 : Hid (Bools w5 gb (List.replicate 8 false)) := by show Bools _ _ _; unfold Bools; rw [List.map_replicate]; exact hrow
        have HGB : Hid (w.heap.size ≤ gb) := by rw [hgb]; exact H4.out.fr.size
        have H5 := hid (H4.out.next hf5)
        have HW5 := hid (HW4.out.next hf5)
        clear hown hg5 hf5 hrow hgb H4 HW4
        go_wp2_with fail
        go_loopw [14] (fun i wr => ∃ (k2 : Nat) (wl : List (List UInt8)) (bl : List Bool) (U : List (Nat × List UInt8)), k2 ≤ no ∧ k2 ≤ 64 ∧ i = .int .i64 k2 ∧ Hid (Own w wr p (dvS S0 U)) ∧ Hid (U.length = k2) ∧ Hid (Want w wr gw wl) ∧ Hid (Bools wr gb bl) ∧ Hid (Agree (crashFrom mask torn 0 S0 U) wl bl)) (fun i _ => 64 - (intOf i).toNat)
        case atStart => exact ⟨0, wl0, _, [], Nat.zero_le _, Nat.zero_le _, rfl, H5.out, rfl, HW5.out, HB5.out, hS.out⟩
        case round =>
          obtain ⟨k2, wl, bl, U, hk2, hk64, rfl, hd, hU, hw, hb, hag⟩ := hrel
          by_cases hgo2 : k2 < no ∧ k2 < 64
          · obtain ⟨hlt, hlt64⟩ := hgo2
            obtain ⟨b2, o2, rfl, hcell⟩ := HO.out.at (by omega)
            have hkl : Hid (k2 < ov.length) := by have := HO.out.len; show k2 < ov.length; omega
            have c0 := hcell k2 (bv (ov[k2]'hkl.out)) (by simp [bvs, hkl.out])
            obtain ⟨x, hx⟩ : ∃ x, x = ov[k2]'hkl.out := ⟨_, rfl⟩
            rw [← hx] at c0
            unfold bv at c0
            have c1 := hd.out.fr.cell c0 id
            have hbr : b2 < wr.heap.size := by have := block_lt_of_cell c1; exact this
            have x1 : (0 : Int) ≤ (x.toNat : Int) := by omega
            have x2 : (x.toNat : Int) < 256 := by have := x.toNat_lt; omega
            obtain ⟨y, hy⟩ : ∃ y : Nat, (x.toNat : Int) % 8 = (y : Int) := ⟨x.toNat % 8, by omega⟩
            have hy8 : y < 8 := by omega
            have HC0 := hid c0
            have HX := hid hx
            clear hcell c0 hx
            go_wp2_with fail
            refine (own_write y _ 2 _ [x, 1] (hd.out.next (Fr.alloc wr (.cells #[.int .u8 x.toNat, .int .u8 1] 5))) (dvS_live _ _) (by have h8 := hag.out.ls; rw [crashFrom_len] at h8; show y < S0.length; omega) (by show U.length < _; rw [hU.out]; omega) (by decide) (BytesIn.lit wr [x, 1] 2 rfl #[.int .u8 x.toNat, .int .u8 1] rfl)).mono ?_
            rintro e w7 ⟨rfl, hd7, hf7⟩
            have H7 := hid (show Own w w7 p (dvS S0 (U ++ [(y, pad [x, 1])])) from hd7)
            have HW7 := hid ((hw.out.next (Fr.alloc wr _)).wr hf7)
            have HB7 := hid ((hb.out.next (Fr.alloc wr _)).wr hf7)
            have c7 := H7.out.fr.cell HC0.out id
            have hbr7 : b2 < w7.heap.size := block_lt_of_cell c7
            clear hd7 hf7 hbr c1
            have q1 := bit_tmod torn k2
            have q2 := bit_tmod mask k2
            have hC : crashFrom mask torn 0 S0 (U ++ [(y, pad [x, 1])]) = crashOne mask torn (crashFrom mask torn 0 S0 U) k2 (y, pad [x, 1]) := by
              rw [crashFrom_snoc, hU.out, Nat.zero_add]
            have hlwl : y < wl.length := by have := hag.out.lw; omega
            have hlbl : y < bl.length := by have := hag.out.lb; omega
            obtain ⟨e1, e2⟩ := HB7.out.cell y hlbl
            obtain ⟨v0, hv0⟩ : ∃ v0, v0 = Value.bool (bl[y]'hlbl) := ⟨_, rfl⟩
            rw [← hv0] at e1
            clear hv0
            by_cases ht1 : torn.testBit k2 = true
            · rw [ht1] at q1
              have hC2 := hid (show crashFrom mask torn 0 S0 (U ++ [(y, pad [x, 1])]) = (crashFrom mask torn 0 S0 U).set y ⟨pad [x, 1], true⟩ by rw [hC]; simp [crashOne, bitAt_lt hlt64, ht1])
              have hs1 := hid (store_bool H7.out HW7.out HB7.out HGB.out y true)
              have hs2 := hid (store_slice hs1.out.1 hs1.out.2.1 hs1.out.2.2 HGW.out y (.slice none 0 0) [] (Bs.nil _ _))
              obtain ⟨⟨u0, d0, -⟩, d1⟩ := hs1.out.2.1.cell y hlwl
              clear hC ht1 q2 hlwl hlbl
              go_wp2_with fail
              go_roundw
              case rel =>
                refine ⟨k2 + 1, _, _, U ++ [(y, pad [x, 1])], hlt, hlt64, by go_num, hs2.out.1, ?_, hs2.out.2.1, hs2.out.2.2, ?_⟩
                · show _ = _; rw [List.length_append, hU.out]; rfl
                · show Agree _ _ _; rw [hC2.out]; exact hag.out.torn y hy8 _
              case measure => simp [intOf]; omega
            · have ht1 : torn.testBit k2 = false := by simpa using ht1
              rw [ht1] at q1
              by_cases hm1 : mask.testBit k2 = true
              · rw [hm1] at q2
                have hC2 := hid (show crashFrom mask torn 0 S0 (U ++ [(y, pad [x, 1])]) = (crashFrom mask torn 0 S0 U).set y ⟨pad [x, 1], false⟩ by rw [hC]; simp [crashOne, bitAt_lt hlt64, ht1, hm1])
                have hs1 := hid (store_bool H7.out HW7.out HB7.out HGB.out y false)
                obtain ⟨⟨u0, d0, -⟩, d1⟩ := hs1.out.2.1.cell y hlwl
                have hgws : gw < w7.heap.size := HW7.out.lt
                have c8 := hs1.out.1.fr.cell HC0.out id
                clear hC ht1 hm1 hlwl hlbl
                have hs2 := hid (store_slice (hs1.out.1.next (Fr.alloc _ (.cells #[.int .u8 x.toNat, .int .u8 1] 5))) (hs1.out.2.1.next (Fr.alloc _ _)) (hs1.out.2.2.next (Fr.alloc _ _)) HGW.out y (.slice (some ⟨w7.heap.size, 0, none⟩) 2 2) [x, 1] (Bs.row (l := [x, 1]) ⟨_, by rw [show w7.heap.size = (w7.setCell ⟨gb, y, none⟩ (.bool false)).heap.size by simp]; exact heap_alloc_new _ _, rfl⟩ (Nat.le_refl _)))
                have hcomm := hid (World.setCell_alloc_past (w := w7.setCell ⟨gb, y, none⟩ (.bool false)) (.cells #[.int .u8 x.toNat, .int .u8 1] 5) gw y (.slice (some ⟨w7.heap.size, 0, none⟩) 2 2) (by simpa using hgws))
                go_wp2_with fail
                go_roundw
                case rel =>
                  rw [hcomm.out] at hs2
                  refine ⟨k2 + 1, _, _, U ++ [(y, pad [x, 1])], hlt, hlt64, by go_num, hs2.out.1, ?_, hs2.out.2.1, hs2.out.2.2, ?_⟩
                  · show _ = _; rw [List.length_append, hU.out]; rfl
                  · show Agree _ _ _; rw [hC2.out]; exact hag.out.done y hy8 _
                case measure => simp [intOf]; omega
              · have hm1 : mask.testBit k2 = false := by simpa using hm1
                rw [hm1] at q2
                have hC2 := hid (show crashFrom mask torn 0 S0 (U ++ [(y, pad [x, 1])]) = crashFrom mask torn 0 S0 U by rw [hC]; simp [crashOne, bitAt_lt hlt64, ht1, hm1])
                clear hC ht1 hm1 hlwl hlbl
                go_wp2_with fail
                go_roundw
                case rel =>
                  refine ⟨k2 + 1, _, _, U ++ [(y, pad [x, 1])], hlt, hlt64, by go_num, H7.out, ?_, HW7.out, HB7.out, ?_⟩
                  · show _ = _; rw [List.length_append, hU.out]; rfl
                  · show Agree _ _ _; rw [hC2.out]; exact hag.out
                case measure => simp [intOf]; omega
          · rcases (show (k2 < no ∧ ¬ k2 < 64) ∨ ¬ k2 < no by omega) with ⟨hlt, hlt64⟩ | hlt
            all_goals
              go_wp2_with fail
              refine (own_crash mask torn hd.out (by show U.length ≤ _; rw [hU.out]; omega) hm ht).mono ?_
              rintro e w8 ⟨rfl, hd8, hf8⟩
              have H8 := hid (show Own w w8 p (dvS (crashFrom mask torn 0 S0 U) []) from hd8)
              have HW8 := hid (hw.out.wr hf8)
              have HB8 := hid (hb.out.wr hf8)
              obtain ⟨S1, hS1⟩ : ∃ S1, S1 = crashFrom mask torn 0 S0 U := ⟨_, rfl⟩
              rw [← hS1] at H8 hag
              clear hd8 hf8 hd hw hb hS1
              go_wp2_with fail
              go_loopw [16] (fun i wr => ∃ j : Nat, j ≤ 8 ∧ i = .int .i64 j ∧ Hid (Own w wr p (dvS S1 [])) ∧ Hid (Want w wr gw wl) ∧ Hid (Bools wr gb bl)) (fun i _ => 8 - (intOf i).toNat)
              case atStart => exact ⟨0, Nat.zero_le _, rfl, H8.out, HW8.out, HB8.out⟩
              case round =>
                obtain ⟨j, hj, rfl, hd, hw, hb⟩ := hrel
                by_cases hj8 : j < 8
                · have hlb : j < bl.length := by have := hag.out.lb; omega
                  have hlw : j < wl.length := by have := hag.out.lw; omega
                  have hls : j < (dvS S1 []).sure.length := by have := hag.out.ls; show j < S1.length; omega
                  have e1 := (hb.out.cell j hlb).1
                  obtain ⟨bb, hbb⟩ : ∃ bb, bb = bl[j]'hlb := ⟨_, rfl⟩
                  rw [← hbb] at e1
                  have hbj : bl[j]? = some bb := by rw [List.getElem?_eq_getElem hlb, hbb]
                  clear hbb
                  cases bb with
                  | true =>
                    obtain ⟨d, hd1⟩ := hag.out.broken j hbj
                    have hseen := dvS_torn hd1
                    have HT := hid (own_torn j hd.out (dvS_live _ _) hls (by show 0 ≤ _; decide) hseen)
                    clear hseen hbj hlb hlw hls
                    go_wp2_with fail
                    refine HT.out.mono ?_
                    rintro e w' ⟨rfl, rfl⟩
                    go_wp2_with fail
                    go_roundw
                    case rel => exact ⟨j + 1, hj8, by go_num, hd.out, hw.out, hb.out⟩
                    case measure => simp [intOf]; omega
                  | false =>
                    have hwj : wl[j]? = some (wl[j]'hlw) := List.getElem?_eq_getElem hlw
                    have hd1 := hag.out.whole j _ hbj hwj
                    obtain ⟨⟨u, d0, hu⟩, -⟩ := hw.out.cell j hlw
                    obtain ⟨l, hl⟩ : ∃ l, l = wl[j]'hlw := ⟨_, rfl⟩
                    rw [← hl] at hd1 hu
                    clear hwj hl
                    have hseen := dvS_seen hd1
                    have HT := hid (own_read j (pad l) hd.out (dvS_live _ _) hls (by show 0 ≤ _; decide) hseen)
                    have hpl : Hid ((pad l).length = 512) := seen_len (m := dvS S1 []) (by obtain ⟨S, hdd, -⟩ := hd.out; exact hdd.wf) hseen
                    have hll : Hid (l.length ≤ 512) := by have := hpl.out; simp [pad] at this; show l.length ≤ 512; omega
                    have HU := hid hu
                    obtain ⟨au, cu, rfl, -, hnilu, -, -⟩ := hu.ex
                    have HNU := hid hnilu
                    have hgb := lt_of_some hb.out
                    have hgws := hw.out.lt
                    have HE1 := hid e1
                    have HD0 := hid d0
                    clear hseen hbj hlb hlw hls hd1 hu hnilu
                    go_wp2_with fail
                    refine HT.out.mono ?_
                    rintro e w9 ⟨g9, c9, rfl, hr9, hc9, -, hf9⟩
                    have e9 := hf9.cell HE1.out id
                    have HF9 := hid hf9
                    have HR9 := hid hr9
                    clear hf9 hr9
                    go_wp2_with fail
                    refine (zero_any _).mono ?_
                    rintro e w10 ⟨g10, rfl, hr10, hg10, hf10⟩
                    have HF10 := hid (show Fr No wr w10 from HF9.out.step hf10)
                    have HR10 := hid (HR9.out.fr0 hf10)
                    have d10 := HF10.out.cell HD0.out id
                    have HG10 : Hid (wr.heap.size ≤ g10) := Nat.le_trans HF9.out.size hg10
                    have HGG : Hid (g9 ≠ g10) := by have := HR9.out.lt; show g9 ≠ g10; omega
                    obtain ⟨hb2, hn2⟩ := (HU.out.next HF10.out).slice
                    obtain ⟨Z, hZ⟩ : ∃ Z, Z = bvs (List.replicate 512 0) := ⟨_, rfl⟩
                    rw [← hZ] at hr10
                    have HZ := hid hZ
                    have HRZ := hid hr10
                    obtain ⟨B, hB⟩ : ∃ B, B = bvs l := ⟨_, rfl⟩
                    have HS := hb2.cell
                    have HO2 := hid (bvs_one l)
                    have hfit : Hid (0 + B.length ≤ Z.length) := by show _ ≤ _; rw [hB, hZ, bvs_len, bvs_len, List.length_replicate]; have := hll.out; omega
                    have hn3 : Hid (B.length = Nat.min l.length 512) := by show _ = _; rw [hB, bvs_len]; exact (Nat.min_eq_left hll.out).symm
                    rw [← hB] at HS HO2
                    have HS2 := hid HS
                    have HB2 := hid hB
                    have HNN := hid (show au = none → l.length = 0 from fun h => by rw [(hn2 h).1]; rfl)
                    clear HS hB hZ hr10 hf10 hg10 hb2 hn2 HE1 e9
                    go_wp2_with (with_reducible refine wpList_copy_fr rfl (.tmp 146) (.tmp 150) 23 23 rfl 5 Try.underlying23 (by kernel_rfl) g10 0 512 512 au l.length cu rfl rfl Z 5 HRZ.out B hn3.out HNN.out HS2.out hfit.out HO2.out ?_)
                    intro w11 hr11 hf11
                    have HF11 := hid (show Fr No wr w11 from HF10.out.trans hf11.out (fun i hi => .inr (by rw [hi]; exact HG10.out)))
                    have HX := hid (show Row w11 g10 5 (bvs (pad l)) from ⟨_, hr11.out, by rw [HZ.out, HB2.out, splice_pad]; exact List.take_of_length_le (by simp)⟩)
                    have HY := hid (HR10.out.fr hf11.out HGG.out)
                    clear hr11 hf11
                    go_wp2_with fail
                    refine (same_any _ _ (HY.out.bytes hpl.out) (HX.out.bytes hpl.out) (by decide)).mono ?_
                    rintro e w' ⟨⟨b3, rfl, hb3⟩, k3, rfl⟩
                    obtain rfl : b3 = true := hb3.2 rfl
                    have HF12 := hid (HF11.out.step (Fr.drewN w11 k3))
                    clear hb3
                    go_wp2_with fail
                    go_roundw
                    case rel => exact ⟨j + 1, hj8, by go_num, hd.out.next HF12.out, hw.out.next HF12.out, hb.out.next HF12.out⟩
                    case measure => simp [intOf]; omega
                · go_wp2_with fail
                  go_ret
                  exact ⟨rfl, hd.out.fr⟩
end Go.Proofs.Ytpimjachhfnlfaa
