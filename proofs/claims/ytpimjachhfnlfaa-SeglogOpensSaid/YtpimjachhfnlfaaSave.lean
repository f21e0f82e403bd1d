/-
  super.Save: what it writes, and what it answers. No condition but that the device is up, the numbers fit, and the block is the next one.
-/
import Derived.Test.YtpimjachhfnlfaaLoad
import Derived.Test.YtpimjachhfnlfaaArgs
namespace Go.Proofs.Ytpimjachhfnlfaa
open Go.RowKit

set_option maxRecDepth 100000 in
theorem save_nil (x0 x1 x2 x3 x4 : Value) (w : World) : Calls Try.prog 38 #[.pointer none, .agg #[x0, x1, x2, x3, x4]] w fun e w' => e = .returned (.int .i64 1) ∧ Fr No w w' := by
  go_enter Try.func38, Try.ntmps38
  go_wp2_with fail
  refine (load_nil _).mono ?_
  rintro e w1 ⟨rfl, hf⟩
  have F1 := hid ((Fr.alloc (S := No) w (.cells #[x0, x1, x2, x3, x4] 61)).step hf)
  clear hf
  unfold zeroBlk Blk.val intv
  go_wp2_with fail
  go_ret
  exact ⟨rfl, F1.out.step (Fr.alloc _ _)⟩

theorem Fr.wrs {S : Nat → Prop} {a b c : World} (h : Fr (Wr S a) a b) (k : Fr (Wr S b) b c) : Fr (Wr S a) a c := by
  refine h.trans k (fun i hi => ?_)
  by_cases hlt : i < a.heap.size
  · refine .inl ?_
    by_cases hS : Wr S a i
    · exact hS
    · obtain ⟨cur, e, f, hc, ht⟩ := hi.2
      rw [h.block i hlt hS] at hc
      exact ⟨hi.1, cur, e, f, hc, ht⟩
  · exact .inr (by omega)

theorem sync_few (m : Dv) : m.sync.1.unsure.length ≤ m.unsure.length := by
  unfold Dv.sync Dv.spent
  split
  · exact Nat.le_refl _
  · split
    · split <;> exact Nat.le_refl _
    · exact Nat.zero_le _

theorem write_few (m : Dv) (k : Int) (b : List UInt8) : (m.write k b).1.unsure.length ≤ m.unsure.length + 1 := by
  have hs : m.spent.unsure = m.unsure := by unfold Dv.spent; split <;> rfl
  unfold Dv.write
  split
  · exact Nat.le_succ _
  · split
    · exact Nat.le_succ _
    · split
      · rw [hs]; exact Nat.le_succ _
      · simp

theorem superHd_fit : superHd.Fit := ⟨by decide, by decide, by decide, by decide, by decide⟩

structure Blk.Fit (b : Blk) : Prop where
  gen : b.gen < 2 ^ (8 * 7)
  epoch : b.epoch < 2 ^ (8 * 7)
  first : b.first < 2 ^ (8 * 7)
  from_ : b.from_ < 2 ^ (8 * 7)
  count : b.count < 2 ^ (8 * 7)

/-- The first j numbers' bytes. -/
def bbytes (b : Blk) (j : Nat) : List UInt8 := (b.list.take j).flatMap fun x => be 7 x

theorem bbytes_len (b : Blk) {j : Nat} (h : j ≤ 5) : (bbytes b j).length = 7 * j := by
  match j, h with
  | 0, _ => rfl
  | 1, _ => rfl
  | 2, _ => rfl
  | 3, _ => rfl
  | 4, _ => rfl
  | 5, _ => rfl

def blkSec (b : Blk) : List UInt8 := sealB superHd (bbytes b 5)

theorem blkSec_len (b : Blk) : (blkSec b).length = 512 := sealB_len _ _ (by rw [bbytes_len b (by decide)]; decide)

def Dv.saved (m : Dv) (b : Blk) : Dv × Int :=
  if m.sync.2 ≠ 0 then m.sync else if (m.sync.1.write ((b.gen % 2 : Nat) : Int) (blkSec b)).2 ≠ 0 then m.sync.1.write ((b.gen % 2 : Nat) : Int) (blkSec b) else (m.sync.1.write ((b.gen % 2 : Nat) : Int) (blkSec b)).1.sync

def nextGen (o : Option Blk) (g : Nat) : Prop := match o with | none => g = 0 | some a => g = a.gen + 1

theorem list_fit {b : Blk} (h : b.Fit) {j : Nat} (hj : j < 5) : ∃ x, b.list[j]? = some x ∧ x < 2 ^ (8 * 7) := by
  match j, hj with
  | 0, _ => exact ⟨_, rfl, h.gen⟩
  | 1, _ => exact ⟨_, rfl, h.epoch⟩
  | 2, _ => exact ⟨_, rfl, h.first⟩
  | 3, _ => exact ⟨_, rfl, h.from_⟩
  | 4, _ => exact ⟨_, rfl, h.count⟩

theorem bbytes_succ (b : Blk) {j x : Nat} (h : b.list[j]? = some x) : bbytes b (j + 1) = bbytes b j ++ be 7 x := by
  unfold bbytes
  rw [List.take_add_one, h, List.flatMap_append]
  simp

set_option maxRecDepth 100000 in
set_option maxHeartbeats 2000000 in
theorem save_any {w0 w : World} {p : Nat} {m : Dv} (b : Blk) (h : Own w0 w p m) (hl : m.down = false) (hk : 2 ≤ m.sure.length) (few : m.unsure.length < 1099511627775) (hfit : b.Fit) (hg : nextGen (loadM m) b.gen) :
    Calls Try.prog 38 #[.pointer (some ⟨p, 0, none⟩), b.val] w fun e w' => e = .returned (.int .i64 (m.saved b).2) ∧ Own w0 w' p (m.saved b).1 ∧ Fr (Wr (New w0) w) w w' := by
  have HO := hid h
  have HF := hid hfit
  have HG := hid hg
  have A0 : Hid ((w.alloc (.cells #[.int .i64 b.gen, .int .i64 b.epoch, .int .i64 b.first, .int .i64 b.from_, .int .i64 b.count] 61)).heap[w.heap.size]? = some (.cells #[.int .i64 b.gen, .int .i64 b.epoch, .int .i64 b.first, .int .i64 b.from_, .int .i64 b.count] 61 (0, 0))) := heap_alloc_new w _
  have F0 := hid (Fr.alloc (S := No) w (.cells #[.int .i64 b.gen, .int .i64 b.epoch, .int .i64 b.first, .int .i64 b.from_, .int .i64 b.count] 61))
  clear h hfit hg
  obtain ⟨r, hr⟩ : ∃ r, r = m.saved b := ⟨_, rfl⟩
  have HR := hid hr
  rw [← hr]
  clear hr
  go_enter Try.func38, Try.ntmps38
  unfold Blk.val intv
  go_wp2_with fail
  refine (load_any (HO.out.next F0.out) hl hk (by omega)).mono ?_
  rintro e w1 ⟨rfl, hf1⟩
  obtain ⟨o, ho⟩ : ∃ o, o = loadM m := ⟨_, rfl⟩
  have HOO := hid ho
  have HGN : Hid (nextGen o b.gen) := by show nextGen o b.gen; rw [ho]; exact HG.out
  rw [← ho]
  clear ho HG
  have A1 := hid (hf1.heap0 A0.out)
  have F1 := hid (F0.out.step hf1)
  obtain ⟨ob, hob⟩ : ∃ ob, ob = o.getD zeroBlk := ⟨_, rfl⟩
  rw [← hob]
  have HOB := hid hob
  clear hf1 hob
  unfold Blk.val intv loadCode
  have A2 := hid ((Fr.alloc (S := No) w1 (.cells #[.int .i64 ob.gen, .int .i64 ob.epoch, .int .i64 ob.first, .int .i64 ob.from_, .int .i64 ob.count] 61)).heap0 A1.out)
  have F2 := hid (F1.out.step (Fr.alloc w1 (.cells #[.int .i64 ob.gen, .int .i64 ob.epoch, .int .i64 ob.first, .int .i64 ob.from_, .int .i64 ob.count] 61)))
  have B2 := hid (heap_alloc_new w1 (.cells #[.int .i64 ob.gen, .int .i64 ob.epoch, .int .i64 ob.first, .int .i64 ob.from_, .int .i64 ob.count] 61))
  obtain ⟨code, hcode⟩ : ∃ code : Int, code = (if o.isSome = true then 0 else 11) := ⟨_, rfl⟩
  have HC := hid hcode
  rw [← hcode]
  have hc2 : (code = 0 ∧ Hid (b.gen = ob.gen + 1)) ∨ (code = 11 ∧ Hid (b.gen = 0)) := by
    rw [hcode, HOB.out]
    have hgn := HGN.out
    cases o with
    | none => exact .inr ⟨rfl, hgn⟩
    | some a => exact .inl ⟨rfl, hgn⟩
  clear hcode
  obtain ⟨ptr0, ptr1, ptr2, ptr3, ptr4⟩ := ptrs_at w.heap.size
  have PT := hid (ptrs_at w.heap.size)
  clear ptr0 ptr1 ptr2 ptr3 ptr4
  rcases hc2 with ⟨rfl, HBG⟩ | ⟨rfl, HBG⟩
  all_goals
    go_wp2_with fail
    refine (numbers_any _ _).mono ?_
    rintro e w3 ⟨rfl, hf3⟩
    have A3 := hid (hf3.heap0 A2.out)
    have F3 := hid (F2.out.step hf3)
    have B3 := hid (hf3.heap0 B2.out)
    clear hf3
    obtain ⟨i0, i1, i2, i3, i4⟩ := PT.out
    unfold ptrs at i0 i1 i2 i3 i4 ⊢
    go_wp2_with fail
    go_loopw [7, 27] (fun v i wr => ∃ (j n c : Nat) (a : Option Addr), j ≤ 5 ∧ i = .int .i64 j ∧ v = .slice a n c ∧ n = 7 * j ∧ Hid (BytesIn wr a n (bbytes b j)) ∧ Hid (a = none → c = 0) ∧ Hid (Fr No w3 wr)) (fun _ i _ => 5 - (intOf i).toNat)
    case atStart => exact ⟨0, 0, 0, none, Nat.zero_le _, rfl, rfl, rfl, BytesIn.nothing _, fun _ => rfl, Fr.refl _ _⟩
    case round =>
      obtain ⟨j, n, c, a, hj, rfl, rfl, hn, hb, hnil, hf⟩ := hrel
      by_cases hlt : j < 5
      · obtain ⟨x, hx, hx7⟩ := list_fit HF.out hlt
        have c0 : wr.cell? ⟨w.heap.size, j, none⟩ = some (.int .i64 x) := by
          rw [cell_of_row wr w.heap.size j _ _ _ (hf.out.heap0 A3.out)]
          match j, hlt, hx with
          | 0, _, hx => cases hx; rfl
          | 1, _, hx => cases hx; rfl
          | 2, _, hx => cases hx; rfl
          | 3, _, hx => cases hx; rfl
          | 4, _, hx => cases hx; rfl
        have HX := hid hx
        have HX7 := hid hx7
        have hft := fits_true hx7
        have hput := hid (put_num a n c (bbytes b j) x 7 wr hb.out (by omega) (by decide) (by decide) hx7)
        have HS := hid (bbytes_succ b hx)
        clear hx hx7 hb hnil
        obtain ⟨j1, hj1⟩ : ∃ j1, j1 = j + 1 := ⟨_, rfl⟩
        rw [← hj1] at HS
        have HJ := hid hj1
        clear hj1
        have HN := hid hn
        clear hn
        have hjs : j = 0 ∨ j = 1 ∨ j = 2 ∨ j = 3 ∨ j = 4 := by omega
        rcases hjs with rfl | rfl | rfl | rfl | rfl
        all_goals
          go_wp2_with (go_at_call 84; refine (fits_num x 7 (by decide) (by decide) _).mono ?_; rintro e w' ⟨rfl, rfl⟩)
          go_wp2_with fail
          refine hput.out.mono ?_
          rintro e w5 ⟨g5, c5, rfl, ho5, hg5, hf5⟩
          have HB5 : Hid (BytesIn w5 (some ⟨g5, 0, none⟩) (n + 7) (bbytes b j1)) := by
            show BytesIn _ _ _ _
            rw [HS.out]
            exact (row_of_owns ho5).bytes (by have := ho5.1; rwa [bvs_len, Nat.mul_one] at this)
          have HF5 := hid (hf.out.step hf5)
          clear ho5 hg5 hf5
          go_wp2_with fail
          go_roundw
          case rel => exact ⟨j1, n + 7, c5, some ⟨g5, 0, none⟩, by have := HJ.out; omega, by rw [HJ.out]; go_num, rfl, by have := HJ.out; have := HN.out; omega, HB5, (fun e => by cases e), HF5⟩
          case measure => simp [intOf]
      · obtain rfl : j = 5 := by omega
        have hn35 : n = 35 := by omega
        subst hn35
        have HB := hid hb.out
        have HNIL := hid hnil.out
        have F5 := hid (F3.out.step hf.out)
        have A5 := hid (hf.out.heap0 A3.out)
        have B5 := hid (hf.out.heap0 B3.out)
        clear hb hnil hf hlt hj hn i0 i1 i2 i3 i4
        obtain ⟨k0, k1, k2, k3, k4⟩ := five_cells A5.out
        obtain ⟨l0, l1, l2, l3, l4⟩ := five_cells B5.out
        have hbf : b.gen < 72057594037927936 := HF.out.gen
        first
          | (have q0 : (ob.gen : Int) < 72057594037927936 := by have := HBG.out; omega
             have q1 : ((b.gen : Int) == (ob.gen : Int) + 1) = true := by rw [beq_iff_eq]; have := HBG.out; omega
             have q2 : ((b.gen : Int) != (ob.gen : Int) + 1) = false := by rw [bne_eq_false_iff_eq]; have := HBG.out; omega)
          | (have q1 : ((b.gen : Int) == 0) = true := by rw [beq_iff_eq]; have := HBG.out; omega
             have q2 : ((b.gen : Int) != 0) = false := by rw [bne_eq_false_iff_eq]; have := HBG.out; omega)
        go_wp2_with fail
        refine (seal_any superHd a 35 c (bbytes b 5) wr HB.out HNIL.out (by decide) superHd_fit).mono ?_
        rintro e w6 ⟨hf6, hcase⟩
        have hcase' := hcase.resolve_left (fun hh => absurd hh.1 (by decide))
        obtain ⟨-, g8, c8, rfl, hr8, hc8, hg8⟩ := hcase'
        have HR8 := hid hr8
        have F6 := hid (F5.out.step hf6)
        have A6 := hid (hf6.heap0 A5.out)
        clear hcase hr8 hc8 hg8 hf6 k0 k1 k2 k3 k4 l0 l1 l2 l3 l4 q1 q2 hbf
        try clear q0
        go_wp2_with fail
        refine (own_syncU (HO.out.next F6.out) (by omega)).mono ?_
        rintro e w7 ⟨rfl, ho7, hf7⟩
        have O7 := hid ho7
        have F7 := hid ((F6.out.any : Fr (Wr (New w0) w) w w6).wrs hf7)
        have R7 : Hid (Row w7 g8 5 (bvs (blkSec b))) := HR8.out.wr hf7 (by decide) (by decide) (by decide)
        have A7 := heap_wr hf7 A6.out (by decide) (by decide) (by decide)
        obtain ⟨k0, k1, k2, k3, k4⟩ := five_cells A7
        clear ho7 hf7 A7
        by_cases e1 : m.sync.2 = 0
        · have e1' : (m.sync.2 == 0) = true := beq_iff_eq.2 e1
          have few1 := sync_few m
          have ep := hid (show ((b.gen : Int) % 2) = ((b.gen % 2 : Nat) : Int) by omega)
          have HRS := hid HR.out
          have hwr := hid (fun pos => own_writeU pos (some ⟨g8, 0, none⟩) 512 c8 (blkSec b) O7.out (by omega) (R7.out.bytes (blkSec_len b)))
          go_wp2_with fail
          refine (hwr.out _).mono ?_
          rintro e w8 ⟨rfl, ho8, hf8⟩
          rw [ep.out] at ho8 ⊢
          obtain ⟨m2, hm2⟩ : ∃ m2, m2 = m.sync.1.write ((b.gen % 2 : Nat) : Int) (blkSec b) := ⟨_, rfl⟩
          have few2 : m2.1.unsure.length ≤ 1099511627776 := by
            have := write_few m.sync.1 ((b.gen % 2 : Nat) : Int) (blkSec b)
            rw [hm2]
            omega
          rw [← hm2] at ho8 ⊢
          have HM2 := hid hm2
          have O8 := hid ho8
          have F8 := hid (F7.out.wrs hf8)
          clear ho8 hf8 hm2 hwr
          by_cases e2 : m2.2 = 0
          · have e2' : (m2.2 == 0) = true := beq_iff_eq.2 e2
            have HE : Hid (r = m2.1.sync) := by
              show r = m2.1.sync
              rw [HR.out]
              unfold Dv.saved
              rw [← HM2.out, if_neg (by rw [e1]; simp), if_neg (by rw [e2]; simp)]
            go_wp2_with fail
            refine (own_syncU O8.out few2).mono ?_
            rintro e w9 ⟨rfl, ho9, hf9⟩
            have O9 := hid ho9
            have F9 := hid (F8.out.wrs hf9)
            clear ho9 hf9
            go_wp2_with fail
            go_ret
            rw [HE.out]
            exact ⟨rfl, O9.out, F9.out⟩
          · have e2' : (m2.2 == 0) = false := beq_eq_false_iff_ne.2 e2
            have HE : Hid (r = m2) := by
              show r = m2
              rw [HR.out]
              unfold Dv.saved
              rw [← HM2.out, if_neg (by rw [e1]; simp), if_pos e2]
            go_wp2_with fail
            go_ret
            rw [HE.out]
            exact ⟨rfl, O8.out, F8.out⟩
        · have e1' : (m.sync.2 == 0) = false := beq_eq_false_iff_ne.2 e1
          have HE : Hid (r = m.sync) := by show r = m.sync; rw [HR.out]; exact if_pos e1
          go_wp2_with fail
          go_ret
          rw [HE.out]
          exact ⟨rfl, O7.out, F7.out⟩

end Go.Proofs.Ytpimjachhfnlfaa
