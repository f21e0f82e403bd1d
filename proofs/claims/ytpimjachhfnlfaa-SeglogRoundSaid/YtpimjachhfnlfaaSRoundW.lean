/-
  SeglogRound, walked. No condition but that the sizes can be read.
-/
import Derived.Test.YtpimjachhfnlfaaSRound
namespace Go.Proofs.Ytpimjachhfnlfaa
open Go.RowKit

/-- A slice of uint16 that can be read. -/
def U16In (w : World) (a : Option Addr) (n : Nat) : Prop := 0 < n → ∃ b o, a = some ⟨b, o, none⟩ ∧ ∀ i, i < n → ∃ z : Nat, z < 65536 ∧ w.cell? ⟨b, o + i, none⟩ = some (.int .u16 z)

set_option maxRecDepth 100000 in
theorem lawparts_any (n : Nat) (w : World) (hn : n ≤ 1152921504606846976) : Calls Try.prog 64 #[.int .i64 n] w fun e w' => e = .returned (.int .i64 (partsN n : Nat)) ∧ w' = w := by
  by_cases h : n ≤ 496
  · have hp : partsN n = 1 := by unfold partsN; omega
    rw [hp]
    have h1 : (n : Int) ≤ 496 := by omega
    clear hp h
    go_enter Try.func64, Try.ntmps64
    go_wp2_with fail
    go_ret
    exact ⟨rfl, rfl⟩
  · have hp : Hid (((partsN n : Nat) : Int) = ((n : Int) + 495) / 496) := by show _ = _; unfold partsN; omega
    have h1 : ¬ (n : Int) ≤ 496 := by omega
    clear h
    go_enter Try.func64, Try.ntmps64
    go_wp2_with fail
    go_ret
    rw [hp.out]
    exact ⟨rfl, rfl⟩

theorem row_set {w : World} {g : Nat} {l : List UInt8} (h : w.heap[g]? = some (.cells (bvs l).toArray 5 (0, 0))) (t x : Nat) :
    (w.setCell ⟨g, t, none⟩ (.int .u8 ((x : Int) % 256))).heap[g]? = some (.cells (bvs (l.set t (UInt8.ofNat x))).toArray 5 (0, 0)) := by
  rw [heap_setCell_same _ _ _ _ _ _ h, ← bv_ofNat]
  simp [bvs, List.map_set]

/-- How many records the log's list has. -/
def listLen (w : World) (q : Nat) : Nat := match w.cell? ⟨q, 6, none⟩ with | some (.slice _ n _) => n | _ => 0

theorem OwnL.listLen {w0 w : World} {q p : Nat} {m : Dv} {L : Lg} (h : OwnL w0 w q p m L) : listLen w q = L.list.length := by
  obtain ⟨hd, ⟨lv, hl, hk⟩, hn, hs⟩ := h
  have c6 := hl.c6
  obtain ⟨ao, c, rfl⟩ := hl.shape
  unfold Go.Proofs.Ytpimjachhfnlfaa.listLen
  rw [c6]

set_option maxRecDepth 100000 in
set_option maxHeartbeats 4000000 in
theorem round_walk (a : Option Addr) (n c times : Nat) (w : World) (h : U16In w a n) (hn : n ≤ maxLen) (ht : times < 256) :
    Calls Try.prog 14 #[.slice a n c, .int .u8 times] w fun e w' => e = .returned (.bool true) ∧ Fr No w w' := by
  have HU := hid h
  unfold maxLen at hn
  clear h
  go_enter Try.func14, Try.ntmps14
  go_wp2_with fail
  refine (own_new 12 w w (Fr.refl _ _) (by decide) (by decide)).mono ?_
  rintro e w1 ⟨p, rfl, ho1, hf1⟩
  have O1 := hid ho1
  clear ho1 hf1
  go_wp2_with fail
  refine (lopen_new 12 O1.out (by decide) (by decide)).mono ?_
  rintro e w2 ⟨q, rfl, ho2, hf2⟩
  have O2 := hid ho2
  clear ho2 hf2 O1
  go_wp2_with fail
  refine (answers11_any w2).mono ?_
  rintro e w3 ⟨rfl, hf3⟩
  have O3 := hid (O2.out.next hf3)
  have I3 : Hid (RInv 12 (Dv.first 12) Lg.new 0) := RInv.start (by decide)
  clear hf3 O2
  by_cases h0 : n = 0
  · subst h0
    go_wp2_with fail
    refine (answers11_any w3).mono ?_
    rintro e w4 ⟨rfl, hf4⟩
    have F4 := hid (O3.out.fr.step hf4)
    clear hf4
    go_wp2_with fail
    go_ret
    exact ⟨rfl, F4.out⟩
  · obtain ⟨sb, so, rfl, hsz⟩ := HU.out (by omega)
    have HSZ := hid hsz
    clear hsz HU
    have hnn : ((n : Int) == 0) = false := by rw [beq_eq_false_iff_ne]; omega
    obtain ⟨T, hT⟩ : ∃ T : Nat, T = times % 60 + 10 := ⟨_, rfl⟩
    have hT1 : (times : Int) % 60 + 10 = (T : Int) := by omega
    have hT2 : T ≤ 69 := by omega
    clear hT
    go_wp2_with fail
    go_loopw [9] (fun i wr => ∃ (j : Nat) (m : Dv) (L : Lg), j ≤ T ∧ i = .int .i64 j ∧ Hid (OwnL w wr q p m L) ∧ Hid (RInv 12 m L j)) (fun i _ => T - (intOf i).toNat)
    case atStart => exact ⟨0, _, _, Nat.zero_le _, rfl, O3.out, I3.out⟩
    case round =>
      obtain ⟨j, m, L, hj, rfl, ho, hi⟩ := hrel
      by_cases hlt : j < T
      · obtain ⟨r, hr⟩ : ∃ r : Nat, r = j % n := ⟨_, rfl⟩
        have hrem : (j : Int) % (n : Int) = (r : Int) := by rw [hr]; simp
        have hrn : r < n := by rw [hr]; exact Nat.mod_lt _ (by omega)
        obtain ⟨z, hz, hcell0⟩ := HSZ.out r hrn
        have hcell := ho.out.fr.cell hcell0 id
        obtain ⟨s, hs⟩ : ∃ s : Nat, s = z % 1900 := ⟨_, rfl⟩
        have hs1 : (z : Int) % 1900 = (s : Int) := by rw [hs]; simp
        have hs2 : s < 1900 := by rw [hs]; exact Nat.mod_lt _ (by decide)
        obtain ⟨iu, hiu, hu0, hu1, hu2⟩ := info_parts info_u8
        have HJ := hid hlt
        have hj70 : j < 69 := by omega
        clear hr hs hcell0
        go_wp2_with (at_make; go_must (refine wpList_make_full _ rfl _ _ 23 rfl 0 5 iu (.int .u8 0) 1 Try.underlying23 hiu hu0 hu1 _ _ _ _ s rfl rfl hs1 hs1 ?b1 ?b2 (Nat.zero_le _) ?_))
        case b1 => rw [hu2]; omega
        case b2 => unfold maxLen; omega
        intro w4 hown hg4
        have hrow : w4.heap[wr.heap.size]? = some (.cells (bvs (List.replicate s 0)).toArray 5 (0, 0)) := by
          rcases hown.2 with ⟨h, _⟩ | ⟨g, cap, cur, hv, _, hgg, _, _, hcs, ht⟩
          · cases h
          · cases hv
            rw [hgg]
            have e1 : cur.toList.take (s * 1) = cur.toList := List.take_of_length_le (by rw [Array.length_toList]; omega)
            rw [e1, made_u8 s] at ht
            rw [← ht]
        have HR4 := hid hrow
        have f4 : Fr No wr w4 := Fr.grown hg4 (fun k hk => by cases hk)
        have HNX : Hid (∀ W, Fr (· = wr.heap.size) w4 W → OwnL w W q p m L) := fun W f => ho.out.next (f4.trans f (fun i hi => .inr (by rw [hi]; exact Nat.le_refl _)))
        have HG : Hid (w.heap.size ≤ wr.heap.size) := ho.out.fr.size
        clear hown hg4 hrow f4 hcell
        generalize wr.heap.size = g at *
        go_wp2_with fail
        go_loopw [11] (fun i wr => ∃ (t : Nat) (l : List UInt8), t ≤ s ∧ i = .int .i64 t ∧ Hid (l.length = s) ∧ Hid (wr.heap[g]? = some (.cells (bvs l).toArray 5 (0, 0))) ∧ Hid (Fr (· = g) w4 wr)) (fun i _ => s - (intOf i).toNat)
        case atStart => exact ⟨0, _, Nat.zero_le _, rfl, List.length_replicate, HR4.out, Fr.refl _ _⟩
        case round =>
          obtain ⟨t, l, ht, rfl, hll, hrow, hf⟩ := hrel
          by_cases hlt2 : t < s
          · have HT := hid hlt2
            have d0 : wr.cell? ⟨g, t, none⟩ = some (bv (l[t]'(by have := hll.out; omega))) := by
              rw [cell_of_row _ g t _ _ _ hrow.out]
              have h5 : t < l.length := by have := hll.out; omega
              simp only [bvs, List.getElem?_toArray, List.getElem?_map, List.getElem?_eq_getElem h5, Option.map_some]
            have d1 := frozen_of_row _ g t _ _ hrow.out
            unfold bv at d0
            go_wp2_with fail
            go_roundw
            case rel => exact ⟨t + 1, l.set t (UInt8.ofNat (j + t)), HT.out, by go_num, by show _ = _; rw [List.length_set]; exact hll.out, by have e := row_set hrow.out t (j + t); rw [show ((j + t : Nat) : Int) = (j : Int) + (t : Int) by omega] at e; exact e, hf.out.step (Fr.set1 _ _ _ _)⟩
            case measure => simp [intOf]; omega
          · have O5 := hid (HNX.out _ hf.out)
            have R5 := hid (show Row wr g 5 (bvs l) from ⟨_, hrow.out, List.take_of_length_le (by simp)⟩)
            have HLL := hid hll.out
            clear hll hrow hf HNX HR4
            go_wp2_with fail
            go_loopw [] (fun wr => ∃ (m : Dv) (L : Lg), Hid (OwnL w wr q p m L) ∧ Hid (RInv 12 m L j) ∧ Hid (Row wr g 5 (bvs l))) (fun wr => listLen wr q)
            case atStart => exact ⟨_, _, O5.out, hi.out, R5.out⟩
            case round =>
              obtain ⟨m, L, ho, hi, hr⟩ := hrel
              have HRM := hid (room_any ho.out)
              have hp4 : partsN s ≤ 4 := by unfold partsN; omega
              have HP := hid (fun W => lawparts_any s W (by omega))
              obtain ⟨pn, hpn⟩ : ∃ pn, pn = partsN s := ⟨_, rfl⟩
              have HPN := hid hpn
              rw [← hpn] at HP hp4
              obtain ⟨rm, hrm⟩ : ∃ rm, rm = L.room m := ⟨_, rfl⟩
              have HRR := hid hrm
              rw [← hrm] at HRM
              clear hpn hrm
              by_cases hroom : rm < (pn : Int)
              · have h1 : Hid (1 ≤ L.list.length) := hi.out.drops (n := pn) (by omega) (by rw [← HRR.out]; exact hroom)
                go_wp2_with fail
                refine HRM.out.mono ?_
                rintro e w5 ⟨rfl, k5, rfl⟩
                have O6 := hid (ho.out.next (Fr.drewN _ k5))
                have R6 := hid (hr.out.fr0 (Fr.drewN _ k5))
                have ML : Hid (listLen wr q = L.list.length) := ho.out.listLen
                generalize wr.drewN k5 = w6 at *
                go_wp2_with fail
                refine (HP.out _).mono ?_
                rintro e w7 ⟨rfl, rfl⟩
                go_wp2_with fail
                refine (first_any O6.out).mono ?_
                rintro e w8 ⟨rfl, rfl⟩
                have hfw : IntKind.i64.wrap ((L.blk.first : Int) + 1) = (L.blk.first : Int) + 1 := IntWalk.i64_in _ (by have := O6.out.small.first; omega)
                go_wp2_with fail
                refine (round_drop O6.out hi.out h1.out).mono ?_
                rintro e w9 ⟨rfl, m', L', ho', hi', hl', hf'⟩
                have O7 := hid ho'
                have I7 := hid hi'
                have R7 := hid (R6.out.lw hf')
                have L7 := hid hl'
                clear ho' hi' hl' hf' hfw
                go_wp2_with fail
                go_roundw
                case rel => exact ⟨_, _, O7.out, I7.out, R7.out⟩
                case measure => rw [ML.out, O7.out.listLen]; have := L7.out; omega
              · have hroom2 : Hid ((partsN s : Nat) ≤ L.room m) := by show _ ≤ _; rw [← HRR.out, ← HPN.out]; omega
                go_wp2_with fail
                refine HRM.out.mono ?_
                rintro e w5 ⟨rfl, k5, rfl⟩
                have O6 := hid (ho.out.next (Fr.drewN _ k5))
                have R6 := hid (hr.out.fr0 (Fr.drewN _ k5))
                generalize wr.drewN k5 = w6 at *
                go_wp2_with fail
                refine (HP.out _).mono ?_
                rintro e w7 ⟨rfl, rfl⟩
                go_wp2_with fail
                refine (round_append g s s l O6.out hi.out hs2 hroom2.out (Nat.le_refl _) R6.out HLL.out (by omega)).mono ?_
                rintro e w8 ⟨rfl, m', L', ho', hi', hr', hf', hk'⟩
                have O7 := hid ho'
                have I7 := hid hi'
                have R7 := hid hr'
                have K7 := hid hk'
                clear ho' hi' hr' hf' hk'
                go_wp2_with fail
                refine (round_read (b := l) j O7.out I7.out K7.out).mono ?_
                rintro e w9 ⟨hf9, a9, n9, c9, rfl, hb9⟩
                have O9 := hid (O7.out.next hf9)
                have R9 := hid ((R7.out.fr0 hf9).bytes HLL.out)
                have B9 := hid hb9
                have N9 := hid (hb9.len.symm.trans HLL.out)
                clear hf9 hb9
                go_wp2_with fail
                refine (same_any _ _ B9.out R9.out (by rw [N9.out]; omega)).mono ?_
                rintro e w10 ⟨⟨bb, rfl, hbb⟩, k10, rfl⟩
                obtain rfl : bb = true := hbb.2 rfl
                have O10 := hid (O9.out.next (Fr.drewN _ k10))
                generalize w9.drewN k10 = w11 at *
                clear hbb
                go_wp2_with fail
                go_roundw
                case rel => exact ⟨j + 1, _, _, HJ.out, by go_num, O10.out, I7.out⟩
                case measure => have := HJ.out; simp [intOf]; omega
      · obtain ⟨rm, hrm⟩ : ∃ rm, rm = L.room m := ⟨_, rfl⟩
        have hb := hi.out.room_ge
        rw [← hrm] at hb
        have hb1 : (0 : Int) ≤ rm := hb.1
        have hb2 : rm ≤ 10 := by have := hb.2; omega
        have HRM := hid (fun W (h : OwnL w W q p m L) => room_any h)
        rw [← hrm] at HRM
        clear hrm hb
        go_wp2_with fail
        refine (HRM.out _ ho.out).mono ?_
        rintro e w5 ⟨rfl, k5, rfl⟩
        have O6 := hid (ho.out.next (Fr.drewN _ k5))
        generalize wr.drewN k5 = w6 at *
        go_wp2_with fail
        refine (HRM.out _ O6.out).mono ?_
        rintro e w7 ⟨rfl, k7, rfl⟩
        have F7 := hid (O6.out.fr.step (Fr.drewN _ k7))
        generalize w6.drewN k7 = w8 at *
        go_wp2_with fail
        go_ret
        exact ⟨rfl, F7.out⟩

end Go.Proofs.Ytpimjachhfnlfaa
