/-
  super.Load: the block that counts. No condition but that the device is up, and has two sectors.
-/
import Derived.Test.YtpimjachhfnlfaaSRead
namespace Go.Proofs.Ytpimjachhfnlfaa
open Go.RowKit

def better : Option Blk → Option Blk → Option Blk
  | none, o => o
  | some a, none => some a
  | some a, some b => if a.gen < b.gen then some b else some a

def bestAt (m : Dv) : Nat → Option Blk
  | 0 => none
  | k + 1 => better (bestAt m k) (blkAt m k)

def loadM (m : Dv) : Option Blk := bestAt m 2

theorem sread_any {w0 w : World} {p : Nat} {m : Dv} (at_ : Nat) (h : Own w0 w p m) (hl : m.down = false) (hk : at_ < m.sure.length) (few : m.unsure.length ≤ 1099511627776) :
    Calls Try.prog 82 #[.pointer (some ⟨p, 0, none⟩), .int .i64 at_] w fun e w' => sreadPost w (blkAt m at_) e w' := by
  cases hs : m.seen at_ with
  | none => exact sread_torn at_ h hl hk few hs
  | some l =>
    have hll : l.length = 512 := by
      obtain ⟨S, hd, _, _⟩ := h
      exact seen_len hd.wf hs
    have := sread_some at_ h hl hk few l hs hll
    unfold blkAt
    rw [hs]
    exact this

theorem load_nil (w : World) : Calls Try.prog 36 #[.pointer none] w fun e w' => e = .returned (.tuple #[zeroBlk.val, .int .i64 1]) ∧ Fr No w w' := by
  go_enter Try.func36, Try.ntmps36
  go_wp2_with (go_at_call 33; refine (len_nil _).mono ?_; rintro e w' ⟨rfl, rfl⟩)
  exact bodyPost_ret (v := .tuple #[zeroBlk.val, .int .i64 1]) (by simp [results, Try.results36, go_sem, zeroBlk, Blk.val, intv]) rfl ⟨rfl, Fr.alloc _ _⟩

def loadCode (o : Option Blk) : Int := if o.isSome then 0 else 11

set_option maxRecDepth 100000 in
set_option maxHeartbeats 2000000 in
theorem load_any {w0 w : World} {p : Nat} {m : Dv} (h : Own w0 w p m) (hl : m.down = false) (hk : 2 ≤ m.sure.length) (few : m.unsure.length ≤ 1099511627776) :
    Calls Try.prog 36 #[.pointer (some ⟨p, 0, none⟩)] w fun e w' => e = .returned (.tuple #[((loadM m).getD zeroBlk).val, .int .i64 (loadCode (loadM m))]) ∧ Fr No w w' := by
  have HO := hid h
  have HL := hid hl
  have hlen : (2 : Int) ≤ (m.sure.length : Int) := by omega
  have hup := hl
  have HH := hid (two_heaps w #[.int .i64 0, .int .i64 0, .int .i64 0, .int .i64 0, .int .i64 0] #[.int .i64 0, .int .i64 0, .int .i64 0, .int .i64 0, .int .i64 0] 61 61)
  have HO1 := hid (h.next (Fr.alloc w (.cells #[.int .i64 0, .int .i64 0, .int .i64 0, .int .i64 0, .int .i64 0] 61)))
  have HO2 := hid (h.next HH.out.2.2)
  clear h hl
  obtain ⟨oo, hoo⟩ : ∃ oo, oo = loadM m := ⟨_, rfl⟩
  have HOO := hid hoo
  rw [← hoo]
  clear hoo
  go_enter Try.func36, Try.ntmps36
  go_wp2_with (go_at_call 33; obtain ⟨S, hd, -, -⟩ := HO1.out; refine (len_any _ hd).mono ?_; rintro e w' ⟨rfl, rfl⟩; clear hd)
  go_wp2_with (go_at_call 32; obtain ⟨S, hd, -, -⟩ := HO1.out; refine (down_any _ hd).mono ?_; rintro e w' ⟨rfl, rfl⟩; clear hd; rw [hup])
  generalize hW : ((w.alloc (.cells #[.int .i64 0, .int .i64 0, .int .i64 0, .int .i64 0, .int .i64 0] 61)).alloc (.cells #[.int .i64 0, .int .i64 0, .int .i64 0, .int .i64 0, .int .i64 0] 61)) = w2
  rw [hW] at HH HO2
  obtain ⟨B2, A2, F2⟩ := HH.out
  have B2 := hid B2
  have A2 := hid A2
  have F2 := hid F2
  clear HH HO1 hW
  obtain ⟨g4, hg4⟩ : ∃ g4, g4 = w.heap.size + 1 := ⟨_, rfl⟩
  rw [← hg4] at B2
  have HG4 := hid hg4
  have HG0 : Hid (w0.heap.size ≤ g4) := by
    have := HO.out.fr.size
    show w0.heap.size ≤ g4
    omega
  rw [← hg4]
  clear hg4
  go_loopw [5, 19] (fun f i wr => ∃ (j : Nat) (b : Blk), j ≤ 2 ∧ i = .int .i64 j ∧ f = .bool (bestAt m j).isSome ∧ Hid (b = (bestAt m j).getD zeroBlk) ∧ Hid (wr.heap[g4]? = some (.cells #[.int .i64 b.gen, .int .i64 b.epoch, .int .i64 b.first, .int .i64 b.from_, .int .i64 b.count] 61 (0, 0))) ∧ Hid (Fr (· = g4) w2 wr) ∧ Hid (Own w0 wr p m)) (fun _ i _ => 2 - (intOf i).toNat)
  case atStart => exact ⟨0, zeroBlk, Nat.zero_le _, rfl, rfl, rfl, B2.out, Fr.refl _ _, HO2.out⟩
  case round =>
    obtain ⟨j, b, hj, rfl, rfl, hb, hr, hf, ho⟩ := hrel
    by_cases hlt : j < 2
    · go_wp2_with fail
      refine (sread_any j ho.out HL.out (by omega) few).mono ?_
      rintro e w3 ⟨b3, ok, rfl, hok, hf3⟩
      have HOK := hid hok
      have R3 := hid ((Fr.alloc (S := No) w3 (.cells #[.int .i64 b3.gen, .int .i64 b3.epoch, .int .i64 b3.first, .int .i64 b3.from_, .int .i64 b3.count] 61)).heap0 (hf3.heap0 hr.out))
      have F3 := hid ((hf.out.then0 hf3).then0 (Fr.alloc w3 (.cells #[.int .i64 b3.gen, .int .i64 b3.epoch, .int .i64 b3.first, .int .i64 b3.from_, .int .i64 b3.count] 61)))
      have O3 := hid ((ho.out.next hf3).next (Fr.alloc w3 (.cells #[.int .i64 b3.gen, .int .i64 b3.epoch, .int .i64 b3.first, .int .i64 b3.from_, .int .i64 b3.count] 61)))
      obtain ⟨k0, k1, k2, k3, k4⟩ := five_cells R3.out
      obtain ⟨f0, f1, f2, f3, f4⟩ := five_free R3.out
      clear hr hf ho hok hf3
      unfold Blk.val intv
      cases ok with
      | false =>
        have hn : bestAt m (j + 1) = bestAt m j := by
          show better (bestAt m j) (blkAt m j) = _
          rw [show blkAt m j = none from HOK.out]
          cases bestAt m j <;> rfl
        have HN := hid hn
        clear hn
        go_wp2_with fail
        go_roundw
        case rel => exact ⟨j + 1, b, by omega, by go_num, by rw [HN.out], by rw [HN.out]; exact hb, R3, F3, O3⟩
        case measure => simp [intOf]; omega
      | true =>
        have HZ := hid (five R3.out (.int .i64 b3.gen) (.int .i64 b3.epoch) (.int .i64 b3.first) (.int .i64 b3.from_) (.int .i64 b3.count))
        obtain ⟨o, ho⟩ : ∃ o, o = bestAt m j := ⟨_, rfl⟩
        have hn : bestAt m (j + 1) = better o (some b3) := by
          show better (bestAt m j) (blkAt m j) = _
          rw [show blkAt m j = some b3 from HOK.out, ho]
        have HN := hid hn
        rw [← ho] at hb ⊢
        clear hn ho
        cases o with
        | none =>
          have O4 := hid (O3.out.other (HZ.out).2 R3.out (by decide) (by decide) (by decide) (by decide) HG0.out)
          have F4 := hid (F3.out.step (HZ.out).2)
          have R4 := hid (HZ.out).1
          go_wp2_with fail
          go_roundw
          case rel => exact ⟨j + 1, b3, by omega, by go_num, by rw [HN.out]; rfl, by rw [HN.out]; rfl, R4, F4, O4⟩
          case measure => simp [intOf]; omega
        | some a =>
          obtain rfl : b = a := hb.out
          by_cases hgt : (b.gen : Int) < (b3.gen : Int)
          · have O4 := hid (O3.out.other (HZ.out).2 R3.out (by decide) (by decide) (by decide) (by decide) HG0.out)
            have F4 := hid (F3.out.step (HZ.out).2)
            have R4 := hid (HZ.out).1
            have hgn : better (some b) (some b3) = some b3 := if_pos (by omega)
            have HGN := hid hgn
            clear hgn
            go_wp2_with fail
            go_roundw
            case rel => exact ⟨j + 1, b3, by omega, by go_num, by rw [HN.out, HGN.out]; rfl, by rw [HN.out, HGN.out]; rfl, R4, F4, O4⟩
            case measure => simp [intOf]; omega
          · have hgn : better (some b) (some b3) = some b := if_neg (by omega)
            have HGN := hid hgn
            clear hgn
            go_wp2_with fail
            go_roundw
            case rel => exact ⟨j + 1, b, by omega, by go_num, by rw [HN.out, HGN.out]; rfl, by rw [HN.out, HGN.out]; rfl, R3, F3, O3⟩
            case measure => simp [intOf]; omega
    · obtain rfl : j = 2 := by omega
      have hA := hf.out.heap A2.out (show w.heap.size ≠ g4 by have := HG4.out; omega)
      have HFW := hid (F2.out.trans hf.out (fun k hk => .inr (by rw [hk, HG4.out]; omega)))
      obtain ⟨k0, k1, k2, k3, k4⟩ := five_cells hr.out
      obtain ⟨n0, n1, n2, n3, n4⟩ := five_cells hA
      obtain ⟨f0, f1, f2, f3, f4⟩ := five_free hA
      have hb' : b = oo.getD zeroBlk := by rw [HOO.out]; exact hb.out
      rw [show bestAt m 2 = oo from HOO.out.symm]
      clear HOO
      cases oo with
      | none =>
        have HZ := hid (five hA (.int .i64 0) (.int .i64 0) (.int .i64 0) (.int .i64 0) (.int .i64 0))
        clear hA hb hb'
        go_wp2_with fail
        obtain ⟨Z, ZF⟩ := HZ.out
        revert Z ZF
        generalize (((((wr.setCell ⟨w.heap.size, 0, none⟩ (.int .i64 0)).setCell ⟨w.heap.size, 1, none⟩ (.int .i64 0)).setCell ⟨w.heap.size, 2, none⟩ (.int .i64 0)).setCell ⟨w.heap.size, 3, none⟩ (.int .i64 0)).setCell ⟨w.heap.size, 4, none⟩ (.int .i64 0)) = W
        intro Z ZF
        obtain ⟨q0, q1, q2, q3, q4⟩ := five_cells Z
        exact bodyPost_ret (v := .tuple #[zeroBlk.val, .int .i64 11]) (by simp [results, Try.results36, go_sem, q0, q1, q2, q3, q4, zeroBlk, Blk.val, intv]) rfl ⟨rfl, HFW.out.trans ZF (fun k hk => .inr (by rw [hk]; exact Nat.le_refl _))⟩
      | some a =>
        obtain rfl : b = a := hb'
        have HZ := hid (five hA (.int .i64 b.gen) (.int .i64 b.epoch) (.int .i64 b.first) (.int .i64 b.from_) (.int .i64 b.count))
        clear hA hb
        go_wp2_with fail
        obtain ⟨Z, ZF⟩ := HZ.out
        revert Z ZF
        generalize (((((wr.setCell ⟨w.heap.size, 0, none⟩ (.int .i64 b.gen)).setCell ⟨w.heap.size, 1, none⟩ (.int .i64 b.epoch)).setCell ⟨w.heap.size, 2, none⟩ (.int .i64 b.first)).setCell ⟨w.heap.size, 3, none⟩ (.int .i64 b.from_)).setCell ⟨w.heap.size, 4, none⟩ (.int .i64 b.count)) = W
        intro Z ZF
        obtain ⟨q0, q1, q2, q3, q4⟩ := five_cells Z
        exact bodyPost_ret (v := .tuple #[b.val, .int .i64 0]) (by simp [results, Try.results36, go_sem, q0, q1, q2, q3, q4, Blk.val, intv]) rfl ⟨rfl, HFW.out.trans ZF (fun k hk => .inr (by rw [hk]; exact Nat.le_refl _))⟩

end Go.Proofs.Ytpimjachhfnlfaa
