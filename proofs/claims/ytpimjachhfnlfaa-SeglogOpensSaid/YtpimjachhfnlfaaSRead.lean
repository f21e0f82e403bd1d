/-
  super.read: the block of a sector. No condition but that the device is up.
-/
import Derived.Test.YtpimjachhfnlfaaBlk
namespace Go.Proofs.Ytpimjachhfnlfaa
open Go.RowKit

/-! ### A device that is up; a limit may be set -/

theorem up_rd {m : Dv} (h : m.down = false) {k : Nat} (hk : k < m.sure.length) : m.rd k = match m.seen k with | none => .error 9 | some b => .ok b := by
  have hc : m.code k = 0 := by simp [Dv.code, h]; omega
  unfold Dv.rd
  rw [if_neg (by rw [hc]; simp)]
  rfl

theorem own_tornU {w0 w : World} {p : Nat} {m : Dv} (k : Nat) (h : Own w0 w p m) (hl : m.down = false) (hk : k < m.sure.length) (few : m.unsure.length ≤ 1099511627776) (hs : m.seen k = none) :
    Calls Try.prog 23 #[.pointer (some ⟨p, 0, none⟩), .int .i64 k] w fun e w' => e = .returned (.tuple #[.slice none 0 0, .int .i64 9]) ∧ w' = w := by
  obtain ⟨S, hd, -, -⟩ := h
  have h := read_any (k : Int) w hd few
  rw [up_rd hl hk, hs] at h
  exact h

theorem own_readU {w0 w : World} {p : Nat} {m : Dv} (k : Nat) (b : List UInt8) (h : Own w0 w p m) (hl : m.down = false) (hk : k < m.sure.length) (few : m.unsure.length ≤ 1099511627776) (hs : m.seen k = some b) :
    Calls Try.prog 23 #[.pointer (some ⟨p, 0, none⟩), .int .i64 k] w fun e w' => ∃ g c, e = .returned (.tuple #[.slice (some ⟨g, 0, none⟩) 512 c, .int .i64 0]) ∧ Row w' g 5 (bvs b) ∧ (512 ≤ c ∧ c ≤ maxLen) ∧ w.heap.size ≤ g ∧ Fr No w w' := by
  obtain ⟨S, hd, -, -⟩ := h
  have h := read_any (k : Int) w hd few
  rw [up_rd hl hk, hs] at h
  refine h.mono fun e w' hh => ?_
  obtain ⟨g, c, h1, h2, h3, h4, h5⟩ := hh
  have := seen_len hd.wf hs
  rw [this] at h1 h3
  exact ⟨g, c, h1, h2, h3, h4, h5⟩

theorem own_writeU {w0 w : World} {p : Nat} {m : Dv} (pos : Int) (a : Option Addr) (n c : Nat) (b : List UInt8) (h : Own w0 w p m) (few : m.unsure.length < 1099511627776) (hb : BytesIn w a n b) :
    Calls Try.prog 20 #[.pointer (some ⟨p, 0, none⟩), .int .i64 pos, .slice a n c] w fun e w' => e = .returned (.int .i64 (m.write pos b).2) ∧ Own w0 w' p (m.write pos b).1 ∧ Fr (Wr (New w0) w) w w' := by
  obtain ⟨S, hd, hS, hf⟩ := h
  refine (write_any pos a n c b w hd few hb).mono fun e w' hh => ?_
  obtain ⟨he, hd', f⟩ := hh
  refine ⟨he, ⟨_, hd', fun k hk => ?_, hf.trans f.ofWr (fun i hi => .inr (hS i hi))⟩, f.mono fun i _ hi => ⟨hS i hi.1, hi.2⟩⟩
  rcases hk with hk | hk
  · exact hS k hk
  · exact Nat.le_trans hf.size hk.1

theorem own_syncU {w0 w : World} {p : Nat} {m : Dv} (h : Own w0 w p m) (few : m.unsure.length ≤ 1099511627776) :
    Calls Try.prog 21 #[.pointer (some ⟨p, 0, none⟩)] w fun e w' => e = .returned (.int .i64 m.sync.2) ∧ Own w0 w' p m.sync.1 ∧ Fr (Wr (New w0) w) w w' := by
  obtain ⟨S, hd, hS, hf⟩ := h
  refine (sync_any w hd few).mono fun e w' hh => ?_
  obtain ⟨he, hd', f⟩ := hh
  exact ⟨he, ⟨S, hd', hS, hf.trans f.ofWr (fun i hi => .inr (hS i hi))⟩, f.mono fun i _ hi => ⟨hS i hi.1, hi.2⟩⟩

def blkNums (d : List UInt8) : Blk := ⟨ofBe ((d.drop 0).take 7), ofBe ((d.drop 7).take 7), ofBe ((d.drop 14).take 7), ofBe ((d.drop 21).take 7), ofBe ((d.drop 28).take 7)⟩
def superHd : Hd := ⟨1, 0, 0, 0, 1⟩

def blkOf (at_ : Nat) (l : List UInt8) : Option Blk :=
  match opened l with
  | none => none
  | some (h, d) => if h = superHd ∧ d.length = 35 then (if (blkNums d).gen % 2 = at_ then some (blkNums d) else none) else none

def blkAt (m : Dv) (at_ : Nat) : Option Blk := (m.seen at_).bind (blkOf at_)

def zeroBlk : Blk := ⟨0, 0, 0, 0, 0⟩

def Rows5 (w : World) (g : Nat) (ns : List Nat) : Prop := w.heap[g]? = some (.cells (ns.map intv).toArray 61 (0, 0))

theorem Rows5.set {w : World} {g : Nat} {ns : List Nat} (h : Rows5 w g ns) (j x : Nat) : Rows5 (w.setCell ⟨g, j, none⟩ (.int .i64 x)) g (ns.set j x) := by
  unfold Rows5
  rw [heap_setCell_same _ _ _ _ _ _ h]
  simp [intv]

def num5 (d : List UInt8) (j : Nat) : List Nat := (blkNums d).list.take j ++ List.replicate (5 - j) 0

theorem num5_set (d : List UInt8) {j : Nat} (hj : j < 5) : (num5 d j).set j (ofBe ((d.drop (j * 7)).take 7)) = num5 d (j + 1) := by
  match j, hj with
  | 0, _ => rfl
  | 1, _ => rfl
  | 2, _ => rfl
  | 3, _ => rfl
  | 4, _ => rfl

theorem num5_end (d : List UInt8) : num5 d 5 = (blkNums d).list := rfl

/-- What super.read answers. -/
def sreadPost (w : World) (o : Option Blk) (e : Ending) (w' : World) : Prop :=
  ∃ b ok, e = .returned (.tuple #[Blk.val b, .bool ok, .int .i64 0]) ∧ o = (if ok then some b else none) ∧ Fr No w w'

set_option maxRecDepth 100000 in
set_option maxHeartbeats 2000000 in
theorem sread_torn {w0 w : World} {p : Nat} {m : Dv} (at_ : Nat) (h : Own w0 w p m) (hl : m.down = false) (hk : at_ < m.sure.length) (few : m.unsure.length ≤ 1099511627776) (hs : m.seen at_ = none) :
    Calls Try.prog 82 #[.pointer (some ⟨p, 0, none⟩), .int .i64 at_] w fun e w' => sreadPost w (blkAt m at_) e w' := by
  have HO := hid h
  have HL := hid hl
  have HE : Hid (blkAt m at_ = none) := by show blkAt m at_ = none; unfold blkAt; rw [hs]; rfl
  have HS := hid hs
  clear h hl hs
  have HA : Hid ((w.alloc (.cells #[.int .i64 0, .int .i64 0, .int .i64 0, .int .i64 0, .int .i64 0] 61)).heap[w.heap.size]? = some (.cells #[.int .i64 0, .int .i64 0, .int .i64 0, .int .i64 0, .int .i64 0] 61 (0, 0))) := heap_alloc_new w _
  go_enter Try.func82, Try.ntmps82
  go_wp2_with fail
  refine (own_tornU at_ (HO.out.next (Fr.alloc w _)) HL.out hk few HS.out).mono ?_
  rintro e w1 ⟨rfl, rfl⟩
  go_wp2_with fail
  rw [HE.out]
  exact bodyPost_ret (v := .tuple #[zeroBlk.val, .bool false, .int .i64 0]) (by simp [results, Try.results82, go_sem, zeroBlk, Blk.val, intv]) rfl ⟨zeroBlk, false, rfl, rfl, Fr.alloc _ _⟩

theorem blkOf_none {at_ : Nat} {l : List UInt8} (h : opened l = none) : blkOf at_ l = none := by unfold blkOf; rw [h]
theorem blkOf_other {at_ : Nat} {l : List UInt8} {h : Hd} {d : List UInt8} (ho : opened l = some (h, d)) (hn : ¬ (h = superHd ∧ d.length = 35)) : blkOf at_ l = none := by
  unfold blkOf
  rw [ho]
  exact if_neg hn
theorem blkOf_some {at_ : Nat} {l : List UInt8} {d : List UInt8} (ho : opened l = some (superHd, d)) (hn : d.length = 35) : blkOf at_ l = if (blkNums d).gen % 2 = at_ then some (blkNums d) else none := by
  unfold blkOf
  rw [ho]
  exact if_pos ⟨rfl, hn⟩

/-- Behind a new block: five cells of an elder one. -/
theorem store_back {w w2 : World} {g : Nat} {e : TypeId} {a0 a1 a2 a3 a4 : Value} (F2 : Fr No w w2) (hg : w.heap.size ≤ g) (A2 : w2.heap[g]? = some (.cells #[a0, a1, a2, a3, a4] e (0, 0))) (o : Obj) (v0 v1 v2 v3 v4 : Value) :
    ((((((w2.alloc o).setCell ⟨g, 0, none⟩ v0).setCell ⟨g, 1, none⟩ v1).setCell ⟨g, 2, none⟩ v2).setCell ⟨g, 3, none⟩ v3).setCell ⟨g, 4, none⟩ v4).heap[g]? = some (.cells #[v0, v1, v2, v3, v4] e (0, 0)) ∧
    Fr No w ((((((w2.alloc o).setCell ⟨g, 0, none⟩ v0).setCell ⟨g, 1, none⟩ v1).setCell ⟨g, 2, none⟩ v2).setCell ⟨g, 3, none⟩ v3).setCell ⟨g, 4, none⟩ v4) := by
  have A3 := (Fr.alloc (S := No) w2 o).heap0 A2
  have h := five A3 v0 v1 v2 v3 v4
  exact ⟨h.1, (F2.step (Fr.alloc w2 o)).trans h.2 (fun k hk => .inr (by rw [hk]; exact hg))⟩

set_option maxRecDepth 100000 in
set_option maxHeartbeats 4000000 in
theorem sread_some {w0 w : World} {p : Nat} {m : Dv} (at_ : Nat) (h : Own w0 w p m) (hl : m.down = false) (hk : at_ < m.sure.length) (few : m.unsure.length ≤ 1099511627776) (l : List UInt8) (hs : m.seen at_ = some l) (hll : l.length = 512) :
    Calls Try.prog 82 #[.pointer (some ⟨p, 0, none⟩), .int .i64 at_] w fun e w' => sreadPost w (blkOf at_ l) e w' := by
  have HO := hid h
  have HL := hid hl
  have HS := hid hs
  have HLL := hid hll
  clear h hl hs hll
  have HA : Hid ((w.alloc (.cells #[.int .i64 0, .int .i64 0, .int .i64 0, .int .i64 0, .int .i64 0] 61)).heap[w.heap.size]? = some (.cells #[.int .i64 0, .int .i64 0, .int .i64 0, .int .i64 0, .int .i64 0] 61 (0, 0))) := heap_alloc_new w _
  have HF0 : Hid (Fr No w (w.alloc (.cells #[.int .i64 0, .int .i64 0, .int .i64 0, .int .i64 0, .int .i64 0] 61))) := Fr.alloc w _
  have heqg : Try.prog.eqGuardType Try.prog.depth 144 = false := by kernel_rfl
  have hcmp := fun (a0 a1 a2 a3 a4 b0 b1 b2 b3 b4 : Int) (w : World) => eq5_hd a0 a1 a2 a3 a4 b0 b1 b2 b3 b4 w
  go_enter Try.func82, Try.ntmps82
  go_wp2_with fail
  refine (own_readU at_ l (HO.out.next (Fr.alloc w _)) HL.out hk few HS.out).mono ?_
  rintro e w1 ⟨g1, c1, rfl, hr1, ⟨hc1, hm1⟩, hg1, hf1⟩
  have A1 := hid (hf1.heap0 HA.out)
  have F1 := hid (HF0.out.step hf1)
  have R1 := hid (hr1.bytes HLL.out)
  have G1 : Hid (w.heap.size < g1) := by
    show w.heap.size < g1
    have := lt_of_some HA.out
    omega
  clear hr1 hg1 hf1
  go_wp2_with fail
  refine (open_any g1 0 c1 l w1 R1.out hc1 hm1).mono ?_
  rintro e w2 ⟨hf2, hcase⟩
  rcases hcase with ⟨h, d, g2, c2, ho, rfl, hr2, ⟨hc2, hm2⟩, hg2⟩ | ⟨ho, rfl⟩
  · have F2 := hid (F1.out.step hf2)
    have A2 := hid (hf2.heap0 A1.out)
    have HOP := hid ho
    have R2 := hid hr2
    clear hf2 ho hr2
    unfold Hd.val intv
    obtain ⟨e0, e1, e2, e3, e4⟩ := h
    have A3 := fun o => hid ((Fr.alloc (S := No) w2 o).heap0 A2.out)
    by_cases hh : e0 = 1 ∧ e1 = 0 ∧ e2 = 0 ∧ e3 = 0 ∧ e4 = 1
    · obtain ⟨rfl, rfl, rfl, rfl, rfl⟩ := hh
      by_cases hd : d.length = 35
      · have hdi : (d.length : Int) = 35 := by omega
        have HD := hid hd
        clear hd
        have HW : Hid (Fr No w2 (w2.alloc (.cells #[.int .i64 1, .int .i64 0, .int .i64 0, .int .i64 0, .int .i64 1] 144))) := Fr.alloc _ _
        clear A3
        go_wp2_with fail
        refine (numbers_any _ _).mono ?_
        rintro e w3 ⟨rfl, hf3⟩
        have A4 := hid (hf3.heap0 (HW.out.heap0 A2.out))
        have F4 := hid ((F2.out.step HW.out).step hf3)
        have R4 := hid (R2.out.fr0 (HW.out.step hf3))
        clear hf3 HW
        obtain ⟨i0, i1, i2, i3, i4⟩ := ptrs_at w.heap.size
        unfold ptrs at i0 i1 i2 i3 i4 ⊢
        go_wp2_with fail
        have A5 : Hid (Rows5 w3 w.heap.size (num5 d 0)) := A4.out
        have hg21 : Hid (g2 ≠ w.heap.size) := by
          have h1 := lt_of_some A1.out
          show g2 ≠ w.heap.size
          omega
        clear A1 A2 A4 F1 R1 R2 heqg hcmp HS HL HO
        go_loopw [47] (fun i wr => ∃ j : Nat, j ≤ 5 ∧ i = .int .i64 j ∧ Hid (Rows5 wr w.heap.size (num5 d j)) ∧ Hid (Fr (· = w.heap.size) w3 wr)) (fun i _ => 5 - (intOf i).toNat)
        case atStart => exact ⟨0, Nat.zero_le _, rfl, A5, Fr.refl _ _⟩
        case round =>
          obtain ⟨j, hj, rfl, hrow, hf⟩ := hrel
          by_cases hlt : j < 5
          · have c0 : wr.cell? ⟨w.heap.size, j, none⟩ = some (.int .i64 0) := by
              rw [cell_of_row wr w.heap.size j _ _ _ hrow.out]
              match j, hlt with
              | 0, _ => rfl
              | 1, _ => rfl
              | 2, _ => rfl
              | 3, _ => rfl
              | 4, _ => rfl
            have f0 := frozen_of_row wr w.heap.size j _ _ hrow.out
            have HB := hid ((R4.out.fr hf.out hg21.out).bytes rfl)
            have HN := hid (hrow.out.set j (ofBe ((d.drop (j * 7)).take 7)))
            rw [num5_set d hlt] at HN
            have HF := hid (hf.out.step (Fr.set1 wr w.heap.size j (.int .i64 (ofBe ((d.drop (j * 7)).take 7)))))
            have hj7 : j * 7 + 7 ≤ d.length := by rw [HD.out]; omega
            obtain ⟨jj, hjj⟩ : ∃ jj, jj = j * 7 := ⟨_, rfl⟩
            rw [← hjj] at HN HF hj7
            have hget := hid (fun w' hb => get_num g2 0 d.length c2 jj 7 d w' hb hc2 hm2 (by decide) (by decide) hj7)
            have : j = 0 ∨ j = 1 ∨ j = 2 ∨ j = 3 ∨ j = 4 := by omega
            clear hrow
            rcases this with rfl | rfl | rfl | rfl | rfl
            · obtain rfl : jj = 0 := hjj
              go_wp2_with fail
              refine (hget.out wr HB.out).mono ?_
              rintro e w' ⟨rfl, rfl⟩
              go_wp2_with fail
              go_roundw
              case rel => exact ⟨1, by decide, by go_num, HN, HF⟩
              case measure => simp [intOf]
            · obtain rfl : jj = 7 := hjj
              go_wp2_with fail
              refine (hget.out wr HB.out).mono ?_
              rintro e w' ⟨rfl, rfl⟩
              go_wp2_with fail
              go_roundw
              case rel => exact ⟨2, by decide, by go_num, HN, HF⟩
              case measure => simp [intOf]
            · obtain rfl : jj = 14 := hjj
              go_wp2_with fail
              refine (hget.out wr HB.out).mono ?_
              rintro e w' ⟨rfl, rfl⟩
              go_wp2_with fail
              go_roundw
              case rel => exact ⟨3, by decide, by go_num, HN, HF⟩
              case measure => simp [intOf]
            · obtain rfl : jj = 21 := hjj
              go_wp2_with fail
              refine (hget.out wr HB.out).mono ?_
              rintro e w' ⟨rfl, rfl⟩
              go_wp2_with fail
              go_roundw
              case rel => exact ⟨4, by decide, by go_num, HN, HF⟩
              case measure => simp [intOf]
            · obtain rfl : jj = 28 := hjj
              go_wp2_with fail
              refine (hget.out wr HB.out).mono ?_
              rintro e w' ⟨rfl, rfl⟩
              go_wp2_with fail
              go_roundw
              case rel => exact ⟨5, by decide, by go_num, HN, HF⟩
              case measure => simp [intOf]
          · obtain rfl : j = 5 := by omega
            rw [num5_end] at hrow
            obtain ⟨b, hb⟩ : ∃ b, b = blkNums d := ⟨_, rfl⟩
            rw [← hb] at hrow
            have HBK := hid hb
            have hr5 : wr.heap[w.heap.size]? = some (.cells #[.int .i64 b.gen, .int .i64 b.epoch, .int .i64 b.first, .int .i64 b.from_, .int .i64 b.count] 61 (0, 0)) := hrow.out
            obtain ⟨k0, k1, k2, k3, k4⟩ := five_cells hr5
            obtain ⟨f0, f1, f2, f3, f4⟩ := five_free hr5
            have HZ := hid (five hr5 (.int .i64 b.gen) (.int .i64 b.epoch) (.int .i64 b.first) (.int .i64 b.from_) (.int .i64 b.count))
            have HF := hid (F4.out.trans hf.out (fun k hk => .inr (by rw [hk]; exact Nat.le_refl _)))
            obtain ⟨ok, hok⟩ : ∃ ok : Bool, ok = decide (b.gen % 2 = at_) := ⟨_, rfl⟩
            have hq : ((b.gen : Int) % 2 == (at_ : Int)) = ok := by
              rw [hok]
              by_cases hc : b.gen % 2 = at_
              · rw [decide_eq_true hc, beq_iff_eq]; omega
              · rw [decide_eq_false hc, beq_eq_false_iff_ne]; omega
            have HQ := hid hq
            have HOK := hid hok
            clear hq hb hrow hr5 hok hlt hj i0 i1 i2 i3 i4
            go_wp2_with fail
            rw [blkOf_some HOP.out HD.out, ← HBK.out]
            obtain ⟨Z, ZF⟩ := HZ.out
            revert Z ZF
            generalize (((((wr.setCell ⟨w.heap.size, 0, none⟩ (.int .i64 b.gen)).setCell ⟨w.heap.size, 1, none⟩ (.int .i64 b.epoch)).setCell ⟨w.heap.size, 2, none⟩ (.int .i64 b.first)).setCell ⟨w.heap.size, 3, none⟩ (.int .i64 b.from_)).setCell ⟨w.heap.size, 4, none⟩ (.int .i64 b.count)) = W
            intro Z ZF
            obtain ⟨q0, q1, q2, q3, q4⟩ := five_cells Z
            refine bodyPost_ret (v := .tuple #[b.val, .bool ok, .int .i64 0]) (by simp [results, Try.results82, go_sem, q0, q1, q2, q3, q4, Blk.val, intv]; exact HQ.out) rfl ⟨b, ok, rfl, ?_, HF.out.trans ZF (fun k hk => .inr (by rw [hk]; exact Nat.le_refl _))⟩
            rw [HOK.out]
            by_cases hc : b.gen % 2 = at_
            · rw [if_pos hc, decide_eq_true hc]; rfl
            · rw [if_neg hc, decide_eq_false hc]; rfl
      · have hdi : ((d.length : Int) == 35) = false := by rw [beq_eq_false_iff_ne]; omega
        have HB : Hid (blkOf at_ l = none) := blkOf_other HOP.out (fun hh => hd hh.2)
        obtain ⟨k0, k1, k2, k3, k4⟩ := five_cells (A3 (.cells #[.int .i64 1, .int .i64 0, .int .i64 0, .int .i64 0, .int .i64 1] 144)).out
        obtain ⟨f0, f1, f2, f3, f4⟩ := five_free (A3 (.cells #[.int .i64 1, .int .i64 0, .int .i64 0, .int .i64 0, .int .i64 1] 144)).out
        have HZ := hid (store_back F2.out (Nat.le_refl _) A2.out (.cells #[.int .i64 1, .int .i64 0, .int .i64 0, .int .i64 0, .int .i64 1] 144) (.int .i64 0) (.int .i64 0) (.int .i64 0) (.int .i64 0) (.int .i64 0))
        clear A3
        go_wp2_with fail
        obtain ⟨Z, ZF⟩ := HZ.out
        revert Z ZF
        generalize ((((((w2.alloc (.cells #[.int .i64 1, .int .i64 0, .int .i64 0, .int .i64 0, .int .i64 1] 144)).setCell ⟨w.heap.size, 0, none⟩ (.int .i64 0)).setCell ⟨w.heap.size, 1, none⟩ (.int .i64 0)).setCell ⟨w.heap.size, 2, none⟩ (.int .i64 0)).setCell ⟨w.heap.size, 3, none⟩ (.int .i64 0)).setCell ⟨w.heap.size, 4, none⟩ (.int .i64 0)) = W
        intro Z ZF
        obtain ⟨q0, q1, q2, q3, q4⟩ := five_cells Z
        rw [HB.out]
        exact bodyPost_ret (v := .tuple #[zeroBlk.val, .bool false, .int .i64 0]) (by simp [results, Try.results82, go_sem, q0, q1, q2, q3, q4, zeroBlk, Blk.val, intv]) rfl ⟨zeroBlk, false, rfl, rfl, ZF⟩
    · have hcF : ∀ w : World, (Op.equalIn 10000 144 (.agg #[.int .i64 (e0 : Int), .int .i64 (e1 : Int), .int .i64 (e2 : Int), .int .i64 (e3 : Int), .int .i64 (e4 : Int)]) (.agg #[.int .i64 1, .int .i64 0, .int .i64 0, .int .i64 0, .int .i64 1])).run Try.prog w = .ok false w := fun w => by rw [eq5_hd, decide_eq_false (by omega)]
      clear hcmp
      have HB : Hid (blkOf at_ l = none) := blkOf_other HOP.out (fun hx => hh (by have := hx.1; injection this with a1 a2 a3 a4 a5; exact ⟨a1, a2, a3, a4, a5⟩))
      obtain ⟨k0, k1, k2, k3, k4⟩ := five_cells (A3 (.cells #[.int .i64 e0, .int .i64 e1, .int .i64 e2, .int .i64 e3, .int .i64 e4] 144)).out
      obtain ⟨f0, f1, f2, f3, f4⟩ := five_free (A3 (.cells #[.int .i64 e0, .int .i64 e1, .int .i64 e2, .int .i64 e3, .int .i64 e4] 144)).out
      have HZ := hid (store_back F2.out (Nat.le_refl _) A2.out (.cells #[.int .i64 e0, .int .i64 e1, .int .i64 e2, .int .i64 e3, .int .i64 e4] 144) (.int .i64 0) (.int .i64 0) (.int .i64 0) (.int .i64 0) (.int .i64 0))
      clear A3
      go_wp2_with fail
      obtain ⟨Z, ZF⟩ := HZ.out
      revert Z ZF
      generalize ((((((w2.alloc (.cells #[.int .i64 e0, .int .i64 e1, .int .i64 e2, .int .i64 e3, .int .i64 e4] 144)).setCell ⟨w.heap.size, 0, none⟩ (.int .i64 0)).setCell ⟨w.heap.size, 1, none⟩ (.int .i64 0)).setCell ⟨w.heap.size, 2, none⟩ (.int .i64 0)).setCell ⟨w.heap.size, 3, none⟩ (.int .i64 0)).setCell ⟨w.heap.size, 4, none⟩ (.int .i64 0)) = W
      intro Z ZF
      obtain ⟨q0, q1, q2, q3, q4⟩ := five_cells Z
      rw [HB.out]
      exact bodyPost_ret (v := .tuple #[zeroBlk.val, .bool false, .int .i64 0]) (by simp [results, Try.results82, go_sem, q0, q1, q2, q3, q4, zeroBlk, Blk.val, intv]) rfl ⟨zeroBlk, false, rfl, rfl, ZF⟩
  · have HB : Hid (blkOf at_ l = none) := blkOf_none ho
    have A2 := hid (hf2.heap0 A1.out)
    have F2 := hid (F1.out.step hf2)
    clear hf2 ho
    unfold zeroHd Hd.val intv
    have A3 := hid ((Fr.alloc (S := No) w2 (.cells #[.int .i64 0, .int .i64 0, .int .i64 0, .int .i64 0, .int .i64 0] 144)).heap0 A2.out)
    obtain ⟨k0, k1, k2, k3, k4⟩ := five_cells A3.out
    obtain ⟨f0, f1, f2, f3, f4⟩ := five_free A3.out
    have HZ := hid (store_back F2.out (Nat.le_refl _) A2.out (.cells #[.int .i64 0, .int .i64 0, .int .i64 0, .int .i64 0, .int .i64 0] 144) (.int .i64 0) (.int .i64 0) (.int .i64 0) (.int .i64 0) (.int .i64 0))
    go_wp2_with fail
    obtain ⟨Z, ZF⟩ := HZ.out
    revert Z ZF
    generalize ((((((w2.alloc (.cells #[.int .i64 0, .int .i64 0, .int .i64 0, .int .i64 0, .int .i64 0] 144)).setCell ⟨w.heap.size, 0, none⟩ (.int .i64 0)).setCell ⟨w.heap.size, 1, none⟩ (.int .i64 0)).setCell ⟨w.heap.size, 2, none⟩ (.int .i64 0)).setCell ⟨w.heap.size, 3, none⟩ (.int .i64 0)).setCell ⟨w.heap.size, 4, none⟩ (.int .i64 0)) = W
    intro Z ZF
    obtain ⟨q0, q1, q2, q3, q4⟩ := five_cells Z
    rw [HB.out]
    exact bodyPost_ret (v := .tuple #[zeroBlk.val, .bool false, .int .i64 0]) (by simp [results, Try.results82, go_sem, q0, q1, q2, q3, q4, zeroBlk, Blk.val, intv]) rfl ⟨zeroBlk, false, rfl, rfl, ZF⟩

end Go.Proofs.Ytpimjachhfnlfaa
