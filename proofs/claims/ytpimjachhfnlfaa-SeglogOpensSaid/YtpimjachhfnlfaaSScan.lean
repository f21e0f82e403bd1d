/-
  seglog's scan: the records that are there. No condition but that the log's device is up, and the numbers are not great.
-/
import Derived.Test.YtpimjachhfnlfaaSFound
import Derived.Test.YtpimjachhfnlfaaSDrop
import Derived.Deep.DeepCutAuto
import Derived.Deep.CutBlock
namespace Go.Proofs.Ytpimjachhfnlfaa
open Go.RowKit

/-- All records that are there, one behind the other; none is behind. -/
structure Scanned (m : Dv) (B : Blk) (l : List (Nat × Nat)) (z : Nat) : Prop where
  chain : Chain B.from_ l z
  all : ∀ i r, l[i]? = some r → r.2 < 256 ∧ Holds m B (B.first + i) r.1 r.2
  stop : ∀ n, ¬ Holds m B (B.first + l.length) z n

/-- The log's head is written anew. -/
theorem OwnL.rehead {w0 w w' : World} {q p : Nat} {m : Dv} {L : Lg} (h : OwnL w0 w q p m L) (L' : Lg) (hs : L'.Small) (hl : L'.list = L.list) (f : Fr (· = q) w w')
    (hh : ∀ lv, w.heap[q]? = some (.cells #[.pointer (some ⟨p, 0, none⟩), .int .i64 L.blk.gen, .int .i64 L.blk.epoch, .int .i64 L.blk.first, .int .i64 L.blk.from_, .int .i64 L.blk.count, lv, .int .i64 L.fin, .bool L.down] 176 (0, 0)) →
      w'.heap[q]? = some (.cells #[.pointer (some ⟨p, 0, none⟩), .int .i64 L'.blk.gen, .int .i64 L'.blk.epoch, .int .i64 L'.blk.first, .int .i64 L'.blk.from_, .int .i64 L'.blk.count, lv, .int .i64 L'.fin, .bool L'.down] 176 (0, 0))) :
    OwnL w0 w' q p m L' ∧ Fr (LW w0 w) w w' := by
  obtain ⟨hd, ⟨lv, hl2, hk⟩, hn, -⟩ := h
  refine ⟨⟨hd.other f hl2.head (by decide) (by decide) (by decide) (by decide) hn, ⟨lv, ⟨hh lv hl2.head, ?_⟩, hk⟩, hn, hs⟩, f.mono fun i _ hi => ?_⟩
  · rw [hl]
    exact owns_fr hl2.list f hl2.q_ne
  · rw [hi]
    exact ⟨hn, .inr (.inl ⟨_, _, hl2.head⟩)⟩

/-- Where the log's end is. -/
def finAt (w : World) (q : Nat) : Nat := match w.cell? ⟨q, 7, none⟩ with | some (.int _ z) => z.toNat | _ => 0

theorem OwnL.finAt {w0 w : World} {q p : Nat} {m : Dv} {L : Lg} (h : OwnL w0 w q p m L) : finAt w q = L.fin := by
  obtain ⟨hd, ⟨lv, hl, hk⟩, hn, hs⟩ := h
  have c7 := hl.c7
  unfold Go.Proofs.Ytpimjachhfnlfaa.finAt
  rw [c7]
  simp

/-- A block whose numbers are not great. -/
structure Blk.Few (B : Blk) : Prop where
  gen : B.gen + 1 < 72057594037927936
  epoch : B.epoch + 1 < 72057594037927936
  first : B.first + 4096 < 72057594037927936
  from_ : B.from_ + 8192 < 72057594037927936
  count : B.count < 72057594037927936

theorem chain_few {l : List (Nat × Nat)} {a z N : Nat} (h : Chain a l z) (hz : z + 2 ≤ a + N) (hN : N ≤ 4096) : l.length ≤ 4096 ∧ (∀ r ∈ l, r.1 ≤ a + 4096 ∧ r.2 ≤ 4096) := by
  have := h.le
  refine ⟨by omega, fun r hr => ?_⟩
  have : ∀ {l : List (Nat × Nat)} {a z : Nat} (_ : Chain a l z) (r) (_ : r ∈ l), a ≤ r.1 ∧ r.1 + r.2 ≤ z := by
    intro l
    induction l with
    | nil => intro a z _ r hr; cases hr
    | cons x l ih =>
      intro a z h r hr
      have := h.1
      have := h.2.1
      have := h.2.2.le
      rcases List.mem_cons.1 hr with rfl | hr
      · omega
      · have := ih h.2.2 r hr
        omega
  have := this h r hr
  omega

/-- The log while it is scanned. -/
def scanLg (B : Blk) (l : List (Nat × Nat)) (z : Nat) : Lg := ⟨B, l, z, false⟩

/-- The log behind a scan: the next block. -/
def openLg (B : Blk) (l : List (Nat × Nat)) (z : Nat) : Lg := ⟨⟨B.gen + 1, B.epoch + 1, B.first, B.from_, B.first + l.length⟩, l, z, false⟩

theorem scanLg_small {B : Blk} {l : List (Nat × Nat)} {z N : Nat} (hB : B.Few) (h : Chain B.from_ l z) (hz : z + 2 ≤ B.from_ + N) (hN : N ≤ 4096) : (scanLg B l z).Small := by
  obtain ⟨h1, h2⟩ := chain_few h hz hN
  have := hB.gen
  have := hB.epoch
  have := hB.first
  have := hB.from_
  have := hB.count
  refine ⟨?_, ?_, ?_, ?_, ?_, ?_, ?_, fun r hr => ?_⟩
  · show B.gen < _; omega
  · show B.epoch < _; omega
  · show B.first < _; omega
  · show B.from_ < _; omega
  · show B.count < _; omega
  · show z < _; omega
  · show l.length < _; omega
  · have := h2 r hr
    omega

theorem openLg_small {B : Blk} {l : List (Nat × Nat)} {z N : Nat} (hB : B.Few) (h : Chain B.from_ l z) (hz : z + 2 ≤ B.from_ + N) (hN : N ≤ 4096) : (openLg B l z).Small := by
  have hs := scanLg_small hB h hz hN
  obtain ⟨h1, h2⟩ := chain_few h hz hN
  have := hB.gen
  have := hB.epoch
  have := hB.first
  refine ⟨?_, ?_, hs.first, hs.from_, ?_, hs.fin, hs.many, hs.recs⟩
  · show B.gen + 1 < _; omega
  · show B.epoch + 1 < _; omega
  · show B.first + l.length < _; omega

theorem two12 {w : World} {q : Nat} {e : TypeId} {a0 a1 a2 a3 a4 a5 a6 a7 a8 : Value} (h : w.heap[q]? = some (.cells #[a0, a1, a2, a3, a4, a5, a6, a7, a8] e (0, 0))) (v1 v2 : Value) :
    ((w.setCell ⟨q, 1, none⟩ v1).setCell ⟨q, 2, none⟩ v2).heap[q]? = some (.cells #[a0, v1, v2, a3, a4, a5, a6, a7, a8] e (0, 0)) ∧ Fr (· = q) w ((w.setCell ⟨q, 1, none⟩ v1).setCell ⟨q, 2, none⟩ v2) := by
  refine ⟨?_, (Fr.set1 _ _ _ _).step (Fr.set1 _ _ _ _)⟩
  rw [heap_setCell_same _ _ _ _ _ _ (heap_setCell_same _ _ _ _ _ _ h)]
  rfl

theorem one5 {w : World} {q : Nat} {e : TypeId} {a0 a1 a2 a3 a4 a5 a6 a7 a8 : Value} (h : w.heap[q]? = some (.cells #[a0, a1, a2, a3, a4, a5, a6, a7, a8] e (0, 0))) (v5 : Value) :
    (w.setCell ⟨q, 5, none⟩ v5).heap[q]? = some (.cells #[a0, a1, a2, a3, a4, v5, a6, a7, a8] e (0, 0)) ∧ Fr (· = q) w (w.setCell ⟨q, 5, none⟩ v5) := by
  refine ⟨?_, Fr.set1 _ _ _ _⟩
  rw [heap_setCell_same _ _ _ _ _ _ h]
  rfl

theorem drew_heap (w : World) : w.drew.heap = w.heap := rfl

theorem nineA {w : World} {q : Nat} {e : TypeId} {a0 a1 a2 a3 a4 a5 a6 a7 a8 : Value} (h : w.heap[q]? = some (.cells #[a0, a1, a2, a3, a4, a5, a6, a7, a8] e (0, 0))) (v1 v2 v3 v4 v5 v7 : Value) :
    ((((((w.setCell ⟨q, 1, none⟩ v1).setCell ⟨q, 2, none⟩ v2).setCell ⟨q, 3, none⟩ v3).setCell ⟨q, 4, none⟩ v4).setCell ⟨q, 5, none⟩ v5).setCell ⟨q, 7, none⟩ v7).drew.heap[q]? = some (.cells #[a0, v1, v2, v3, v4, v5, a6, v7, a8] e (0, 0))
      ∧ Fr (· = q) w ((((((w.setCell ⟨q, 1, none⟩ v1).setCell ⟨q, 2, none⟩ v2).setCell ⟨q, 3, none⟩ v3).setCell ⟨q, 4, none⟩ v4).setCell ⟨q, 5, none⟩ v5).setCell ⟨q, 7, none⟩ v7).drew := by
  have hn := nine h v1 v2 v3 v4 v5
  refine ⟨?_, (hn.2.step (Fr.set1 _ _ _ _)).step (Fr.drew _)⟩
  have h7 := heap_setCell_same _ q 7 _ _ v7 hn.1
  have e7 : (#[a0, v1, v2, v3, v4, v5, a6, a7, a8] : Array Value).setIfInBounds 7 v7 = #[a0, v1, v2, v3, v4, v5, a6, v7, a8] := rfl
  rw [e7] at h7
  rw [drew_heap]
  exact h7

theorem nineB {w : World} {q : Nat} {e : TypeId} {a0 a1 a2 a3 a4 a5 a6 a7 a8 : Value} (h : w.heap[q]? = some (.cells #[a0, a1, a2, a3, a4, a5, a6, a7, a8] e (0, 0))) (v1 v2 v3 v4 v5 v7 : Value) :
    ((((((w.setCell ⟨q, 7, none⟩ v7).setCell ⟨q, 1, none⟩ v1).setCell ⟨q, 2, none⟩ v2).setCell ⟨q, 3, none⟩ v3).setCell ⟨q, 4, none⟩ v4).setCell ⟨q, 5, none⟩ v5).drew.heap[q]? = some (.cells #[a0, v1, v2, v3, v4, v5, a6, v7, a8] e (0, 0))
      ∧ Fr (· = q) w ((((((w.setCell ⟨q, 7, none⟩ v7).setCell ⟨q, 1, none⟩ v1).setCell ⟨q, 2, none⟩ v2).setCell ⟨q, 3, none⟩ v3).setCell ⟨q, 4, none⟩ v4).setCell ⟨q, 5, none⟩ v5).drew := by
  have h7 := heap_setCell_same _ q 7 _ _ v7 h
  have e7 : (#[a0, a1, a2, a3, a4, a5, a6, a7, a8] : Array Value).setIfInBounds 7 v7 = #[a0, a1, a2, a3, a4, a5, a6, v7, a8] := rfl
  rw [e7] at h7
  have hn := nine h7 v1 v2 v3 v4 v5
  refine ⟨?_, ((Fr.set1 w q 7 v7).step hn.2).step (Fr.drew _)⟩
  rw [drew_heap]
  exact hn.1

set_option maxRecDepth 100000 in
set_option maxHeartbeats 8000000 in
theorem scan_any {w0 w : World} {q p : Nat} {m : Dv} (B : Blk) (h : OwnL w0 w q p m (scanLg zeroBlk [] 0)) (h2 : m.down = false) (h3 : 3 ≤ m.sure.length) (hN : m.sure.length ≤ 4096) (few : m.unsure.length ≤ 1099511627776) (hB : B.Few) (he : 1 ≤ B.epoch) (hc : B.first ≤ B.count)
    (hlaw : ∀ l z, Scanned m B l z → B.count ≤ B.first + l.length) :
    Calls Try.prog 114 #[.pointer (some ⟨q, 0, none⟩), B.val] w fun e w' => e = .returned (.int .i64 0) ∧ ∃ l z, Scanned m B l z ∧ z + 2 ≤ B.from_ + m.sure.length ∧ OwnL w0 w' q p m (openLg B l z) ∧ Fr (LW w0 w) w w' := by
  have HO := hid h
  have HFO := hid (fun l z W (h : OwnL w0 W q p m (scanLg B l z)) => found_any h h2 h3 few)
  have HLAW := hid hlaw
  have HBF := hid hB
  have HBIG := hid h3
  have HNN := hid hN
  obtain ⟨lv, hl, -⟩ := h.log
  have HH := hid hl.head
  have g1 := hl.free 1
  have g2 := hl.free 2
  have g3 := hl.free 3
  have g4 := hl.free 4
  have g5 := hl.free 5
  have g7 := hl.free 7
  have c1 := hl.c1
  have c2 := hl.c2
  have c3 := hl.c3
  have c4 := hl.c4
  have c5 := hl.c5
  have c7 := hl.c7
  have hi1 : ¬ (B.epoch : Int) < 1 := by omega
  have hi2 : ¬ (B.count : Int) < (B.first : Int) := by omega
  have HQ : Hid (q < w.heap.size) := lt_of_some hl.head
  have HSM : Hid (scanLg B [] B.from_).Small := scanLg_small hB (show B.from_ = B.from_ from rfl) (show B.from_ + 2 ≤ B.from_ + m.sure.length by omega) hN
  clear h h2 h3 hN few hB he hc hlaw hl
  obtain ⟨b0, b1, b2, b3, b4⟩ := B
  unfold Blk.val intv
  go_enter Try.func114, Try.ntmps114
  go_wp2_with fail
  have A1 := hid (heap_alloc_new w (.cells #[.int .i64 b0, .int .i64 b1, .int .i64 b2, .int .i64 b3, .int .i64 b4] 61))
  have F1 := hid (Fr.alloc (S := No) w (.cells #[.int .i64 b0, .int .i64 b1, .int .i64 b2, .int .i64 b3, .int .i64 b4] 61))
  have hqB : q ≠ w.heap.size := by have := HQ.out; omega
  have hBq : w.heap.size ≠ q := fun e => hqB e.symm
  have HBX : Hid (w.heap.size ≤ w.heap.size) := Nat.le_refl _
  have O1 := hid (HO.out.next F1.out)
  have H1 := hid (F1.out.heap0 HH.out)
  clear g1 g2 g3 g4 g5 g7 c1 c2 c3 c4 c5 c7 HH HO hi1 hi2
  obtain ⟨n0, hn0⟩ : ∃ n0, n0 = w.heap.size := ⟨_, rfl⟩
  have HN0 := hid hn0
  rw [← hn0] at A1 hqB hBq ⊢
  clear hn0
  generalize w.alloc (.cells #[.int .i64 b0, .int .i64 b1, .int .i64 b2, .int .i64 b3, .int .i64 b4] 61) = w1 at *
  have g1 := frozen_of_row w1 q 1 _ _ H1.out
  have g2 := frozen_of_row w1 q 2 _ _ H1.out
  have g3 := frozen_of_row w1 q 3 _ _ H1.out
  have g4 := frozen_of_row w1 q 4 _ _ H1.out
  have g5 := frozen_of_row w1 q 5 _ _ H1.out
  have g7 := frozen_of_row w1 q 7 _ _ H1.out
  have c1 := cell_of_row w1 q 1 _ _ _ H1.out
  have c2 := cell_of_row w1 q 2 _ _ _ H1.out
  have c3 := cell_of_row w1 q 3 _ _ _ H1.out
  have c4 := cell_of_row w1 q 4 _ _ _ H1.out
  have c5 := cell_of_row w1 q 5 _ _ _ H1.out
  have c7 := cell_of_row w1 q 7 _ _ _ H1.out
  obtain ⟨j0, j1, j2, j3, j4⟩ := five_cells A1.out
  go_cut [4] (fun s wx => s = .int .i64 0 ∧ Hid (OwnL w0 wx q p m (scanLg ⟨b0, b1, b2, b3, b4⟩ [] b3)) ∧ Hid (wx.heap[n0]? = some (.cells #[.int .i64 b0, .int .i64 b1, .int .i64 b2, .int .i64 b3, .int .i64 b4] 61 (0, 0))) ∧ Hid (Fr (LW w0 w) w wx))
  case first =>
    go_region_law (fail)
    all_goals
      go_wp2_with fail
      go_meet
      case rel =>
        first
          | (have N9 := fun (a6 : Value) (hl : w1.heap[q]? = some (.cells #[.pointer (some ⟨p, 0, none⟩), .int .i64 0, .int .i64 0, .int .i64 0, .int .i64 0, .int .i64 0, a6, .int .i64 0, .bool false] 176 (0, 0))) => nineA hl (.int .i64 b0) (.int .i64 b1) (.int .i64 b2) (.int .i64 b3) (.int .i64 b4) (.int .i64 b3)
             have RH := O1.out.rehead (scanLg ⟨b0, b1, b2, b3, b4⟩ [] b3) HSM.out rfl (N9 lv H1.out).2 (fun lv hl => (N9 lv hl).1)
             exact ⟨rfl, RH.1, (N9 lv H1.out).2.heap A1.out (fun e => hBq e), (F1.out.any (T := LW w0 w)).lws RH.2⟩)
          | (have N9 := fun (a6 : Value) (hl : w1.heap[q]? = some (.cells #[.pointer (some ⟨p, 0, none⟩), .int .i64 0, .int .i64 0, .int .i64 0, .int .i64 0, .int .i64 0, a6, .int .i64 0, .bool false] 176 (0, 0))) => nineB hl (.int .i64 b0) (.int .i64 b1) (.int .i64 b2) (.int .i64 b3) (.int .i64 b4) (.int .i64 b3)
             have RH := O1.out.rehead (scanLg ⟨b0, b1, b2, b3, b4⟩ [] b3) HSM.out rfl (N9 lv H1.out).2 (fun lv hl => (N9 lv hl).1)
             exact ⟨rfl, RH.1, (N9 lv H1.out).2.heap A1.out (fun e => hBq e), (F1.out.any (T := LW w0 w)).lws RH.2⟩)
  case rest =>
    obtain ⟨rfl, O2, A2, F2⟩ := hcut
    clear j0 j1 j2 j3 j4 c1 c2 c3 c4 c5 c7 g1 g2 g3 g4 g5 g7 H1 O1 A1 F1 lv
    go_wp2_with fail
    go_loopw [4] (fun s wr => s = .int .i64 0 ∧ ∃ (l : List (Nat × Nat)) (z : Nat), Hid (Chain b3 l z) ∧ Hid (z + 2 ≤ b3 + m.sure.length) ∧ Hid (∀ i r, l[i]? = some r → r.2 < 256 ∧ Holds m ⟨b0, b1, b2, b3, b4⟩ (b2 + i) r.1 r.2) ∧ Hid (OwnL w0 wr q p m (scanLg ⟨b0, b1, b2, b3, b4⟩ l z)) ∧ Hid (wr.heap[n0]? = some (.cells #[.int .i64 b0, .int .i64 b1, .int .i64 b2, .int .i64 b3, .int .i64 b4] 61 (0, 0))) ∧ Hid (Fr (LW w0 w) w wr)) (fun _ wr => b3 + m.sure.length - finAt wr q)
    case atStart => exact ⟨rfl, [], b3, rfl, (by have := HBIG.out; show _ ≤ _; omega), (fun i r h => by simp at h), O2.out, A2.out, F2.out⟩
    case round =>
      obtain ⟨rfl, l, z, hch, hz, hall, ho, ha, hf⟩ := hrel
      have HF := hid (HFO.out l z _ ho.out)
      go_wp2_with fail
      refine HF.out.mono ?_
      rintro e w2 ⟨hf2, r, rfl, hr⟩
      have O3 := hid (ho.out.next hf2)
      have A3 := hid (hf2.heap0 ha.out)
      have F3 := hid (hf.out.step (hf2.any (T := LW w0 w)))
      have FA : Hid (finAt wr q = z) := ho.out.finAt
      clear hf2
      rcases hr with ⟨rfl, hno⟩ | ⟨hr256, hhold⟩
      · have HNO := hid hno
        have HSC : Hid (Scanned m ⟨b0, b1, b2, b3, b4⟩ l z) := ⟨hch.out, hall.out, hno⟩
        have HCN := hid (HLAW.out l z HSC.out)
        clear hno
        obtain ⟨nx, hnx⟩ : ∃ nx : Nat, nx = b2 + l.length := ⟨_, rfl⟩
        have HNX := hid hnx
        have HNC : Hid (∀ W, OwnL w0 W q p m (scanLg ⟨b0, b1, b2, b3, b4⟩ l z) → Calls Try.prog 70 #[.pointer (some ⟨q, 0, none⟩)] W fun e w' => e = .returned (.int .i64 nx) ∧ ∃ k, w' = W.drewN k) := by
          intro W h
          rw [hnx]
          exact next_any h
        have HNC2 : Hid (∀ W, OwnL w0 W q p m (⟨⟨b0 + 1, b1 + 1, b2, b3, b4⟩, l, z, false⟩ : Lg) → Calls Try.prog 70 #[.pointer (some ⟨q, 0, none⟩)] W fun e w' => e = .returned (.int .i64 nx) ∧ ∃ k, w' = W.drewN k) := by
          intro W h
          rw [hnx]
          exact next_any h
        have hnb : ¬ (nx : Int) < (b4 : Int) := by have := HCN.out; omega
        have j4 := cell_of_row w2 n0 4 _ _ _ A3.out
        have j4 : w2.cell? ⟨n0, 4, none⟩ = some (.int .i64 b4) := j4
        clear hnx HFO HF
        go_wp2_with fail
        go_region_held3 (fun W => W.cell? ⟨n0, 4, none⟩ = some (.int .i64 b4))
          (first | assumption | go_keep)
          (first
          | (go_at_call 70; refine (HNC.out _ (O3.out.next (by first | exact Fr.refl _ _ | exact Fr.drew _))).mono ?_; rintro e w9 ⟨rfl, k9, rfl⟩))
        all_goals
          have O4 := hid (O3.out.next (Fr.drewN (S := No) w2 (1 + k9)))
          have F4 := hid (F3.out.step (Fr.drewN (S := LW w0 w) w2 (1 + k9)))
          generalize w2.drewN (1 + k9) = w4 at *
          obtain ⟨lv, hl, hlk⟩ := O4.out.log
          have c1 : w4.cell? ⟨q, 1, none⟩ = some (.int .i64 b0) := hl.c1
          have c2 : w4.cell? ⟨q, 2, none⟩ = some (.int .i64 b1) := hl.c2
          have g1 := hl.free 1
          have g2 := hl.free 2
          have HHD : Hid (w4.heap[q]? = some (.cells #[.pointer (some ⟨p, 0, none⟩), .int .i64 b0, .int .i64 b1, .int .i64 b2, .int .i64 b3, .int .i64 b4, lv, .int .i64 z, .bool false] 176 (0, 0))) := hl.head
          have hgw : IntKind.i64.wrap ((b0 : Int) + 1) = (b0 : Int) + 1 := IntWalk.i64_in _ (by have := HBF.out.gen; simp only at this; omega)
          have hew : IntKind.i64.wrap ((b1 : Int) + 1) = (b1 : Int) + 1 := IntWalk.i64_in _ (by have := HBF.out.epoch; simp only at this; omega)
          have HSZ : Hid ((openLg ⟨b0, b1, b2, b3, b4⟩ l z).Small) := openLg_small HBF.out hch.out hz.out HNN.out
          have HSY : Hid ((⟨⟨b0 + 1, b1 + 1, b2, b3, b4⟩, l, z, false⟩ : Lg).Small) := ⟨HSZ.out.gen, HSZ.out.epoch, HSZ.out.first, HSZ.out.from_, (Nat.lt_trans HBF.out.count (by decide)), HSZ.out.fin, HSZ.out.many, HSZ.out.recs⟩
          clear hl hlk j4
          go_wp2_with fail
          have S2 := fun (a6 : Value) (hl : w4.heap[q]? = some (.cells #[.pointer (some ⟨p, 0, none⟩), .int .i64 b0, .int .i64 b1, .int .i64 b2, .int .i64 b3, .int .i64 b4, a6, .int .i64 z, .bool false] 176 (0, 0))) => two12 hl (.int .i64 ((b0 : Int) + 1)) (.int .i64 ((b1 : Int) + 1))
          have RH := O4.out.rehead (⟨⟨b0 + 1, b1 + 1, b2, b3, b4⟩, l, z, false⟩ : Lg) HSY.out rfl (S2 lv HHD.out).2 (fun lv hl => (S2 lv hl).1)
          have O5 := hid RH.1
          have F5 := hid (F4.out.lws RH.2)
          clear RH S2 c1 c2 g1 g2 hgw hew HHD
          generalize (w4.setCell ⟨q, 1, none⟩ (.int .i64 ((b0 : Int) + 1))).setCell ⟨q, 2, none⟩ (.int .i64 ((b1 : Int) + 1)) = w5 at *
          refine (HNC2.out _ O5.out).mono ?_
          rintro e w6 ⟨rfl, k6, rfl⟩
          have O6 := hid (O5.out.next (Fr.drewN (S := No) w5 k6))
          have F6 := hid (F5.out.step (Fr.drewN (S := LW w0 w) w5 k6))
          generalize w5.drewN k6 = w6 at *
          obtain ⟨lv, hl, hlk⟩ := O6.out.log
          have c5 : w6.cell? ⟨q, 5, none⟩ = some (.int .i64 b4) := hl.c5
          have g5 := hl.free 5
          have HHD : Hid (w6.heap[q]? = some (.cells #[.pointer (some ⟨p, 0, none⟩), .int .i64 ((b0 + 1 : Nat) : Int), .int .i64 ((b1 + 1 : Nat) : Int), .int .i64 b2, .int .i64 b3, .int .i64 b4, lv, .int .i64 z, .bool false] 176 (0, 0))) := hl.head
          clear hl hlk
          go_wp2_with fail
          go_ret
          have S5 := fun (a6 : Value) (hl : w6.heap[q]? = some (.cells #[.pointer (some ⟨p, 0, none⟩), .int .i64 ((b0 + 1 : Nat) : Int), .int .i64 ((b1 + 1 : Nat) : Int), .int .i64 b2, .int .i64 b3, .int .i64 b4, a6, .int .i64 z, .bool false] 176 (0, 0))) => one5 hl (.int .i64 nx)
          have RH := O6.out.rehead (openLg ⟨b0, b1, b2, b3, b4⟩ l z) HSZ.out rfl (S5 lv HHD.out).2 (fun lv hl => by rw [HNX.out] at S5 ⊢; exact (S5 lv hl).1)
          exact ⟨rfl, l, z, HSC.out, hz.out, RH.1, F6.out.lws RH.2⟩
      · have HH := hid hhold
        have hr0 : ((r : Int) == 0) = false := by rw [beq_eq_false_iff_ne]; have := hhold.1; omega
        have HR0 : Hid (1 ≤ r ∧ z + r + 2 ≤ b3 + m.sure.length) := by
          obtain ⟨h1, h2⟩ := hhold
          obtain ⟨hd, dd, -, hk⟩ := h2 0 h1
          exact ⟨h1, hk.ring⟩
        clear hhold
        obtain ⟨lv, hl, hlk⟩ := O3.out.log
        have c6 := hl.c6
        have c7 : w2.cell? ⟨q, 7, none⟩ = some (.int .i64 z) := hl.c7
        have HHD : Hid (w2.heap[q]? = some (.cells #[.pointer (some ⟨p, 0, none⟩), .int .i64 b0, .int .i64 b1, .int .i64 b2, .int .i64 b3, .int .i64 b4, lv, .int .i64 z, .bool false] 176 (0, 0))) := hl.head
        have e6 := (fun (o : Obj) => (Fr.alloc (S := No) w2 o).cell c6 id)
        have e7 := (fun (o : Obj) => (Fr.alloc (S := No) w2 o).cell c7 id)
        have HLA := hid hl
        have HLK := hid hlk
        obtain ⟨ir, hir, hr0', hr1', hr2'⟩ := info_parts info_rec
        have hbn : IntKind.i64.wrap ((z : Int) + (r : Int)) = (z : Int) + (r : Int) := IntWalk.i64_in _ (by have : z < _ := O3.out.small.fin; omega)
        have hmany : l.length < 1099511627776 := O3.out.small.many
        have HALL : Hid (∀ i r', (l ++ [(z, r)])[i]? = some r' → r'.2 < 256 ∧ Holds m ⟨b0, b1, b2, b3, b4⟩ (b2 + i) r'.1 r'.2) := by
          intro i r' hi
          rcases Nat.lt_or_ge i l.length with hlt | hge
          · rw [List.getElem?_append_left hlt] at hi
            exact hall.out i r' hi
          · have hlt2 := (List.getElem?_eq_some_iff.1 hi).1
            rw [List.length_append, List.length_singleton] at hlt2
            obtain rfl : i = l.length := by omega
            simp only [List.getElem?_append_right (Nat.le_refl _), Nat.sub_self, List.getElem?_cons_zero, Option.some.injEq] at hi
            rw [← hi]
            exact ⟨hr256, HH.out⟩
        have HZR : Hid ((scanLg ⟨b0, b1, b2, b3, b4⟩ l z).fin + r < 1152921504606846976) := by
          have h1 := HR0.out.2
          have h2 := HNN.out
          have h3 : b3 + 8192 < 72057594037927936 := HBF.out.from_
          show z + r < _
          omega
        have HLN : Hid ((scanLg ⟨b0, b1, b2, b3, b4⟩ l z).list.length + 1 < 1099511627776) := by
          have h1 := hch.out.le
          have h2 := hz.out
          have h3 := HNN.out
          show l.length + 1 < _
          omega
        clear hl hlk HFO HF
        go_wp2_with fail
        go_region_law (first
        | (have FX : Hid (Fr No w2 ((w2.alloc (.cells #[.int .i64 z, .int .i64 r] 181)).drew)) := (Fr.alloc w2 _).step (Fr.drew _); refine step_append_at rfl (.tmp 40) (.tmp 47) 174 rfl 181 ir _ 2 16 Try.underlying174 hir hr0' hr1' hr2' rfl (by decide) lv l.length (l.flatMap recCells) rfl (owns_fr HLA.out.list FX.out (fun _ _ => id)) ⟨w2.heap.size, 0, none⟩ 1 1 [.int .i64 z, .int .i64 r] rfl rfl (by intro i u hi; match i, hi with | 0, hi => simp at hi; subst hi; simp [Addr.add] | 1, hi => simp at hi; subst hi; simp [Addr.add]) (by intro u hu; simp at hu; rcases hu with rfl | rfl <;> rfl) (by decide) (by unfold maxLen; omega) (by omega) ?_; intro g3 c3 w3 ho3 hg3 hf3; have hh3 := hf3.out.heap (FX.out.heap0 HHD.out) (fun e => HLA.out.q_ne q e rfl); have d6 := cell_of_row w3 q 6 _ _ _ hh3; have d7 := cell_of_row w3 q 7 _ _ _ hh3; have g6 := frozen_of_row w3 q 6 _ _ hh3; have g7 := frozen_of_row w3 q 7 _ _ hh3; have HH3 := hid hh3; clear hh3)
        | (have FX : Hid (Fr No w2 (w2.drew.alloc (.cells #[.int .i64 z, .int .i64 r] 181))) := (Fr.drew w2).step (Fr.alloc _ _); refine step_append_at rfl (.tmp 40) (.tmp 47) 174 rfl 181 ir _ 2 16 Try.underlying174 hir hr0' hr1' hr2' rfl (by decide) lv l.length (l.flatMap recCells) rfl (owns_fr HLA.out.list FX.out (fun _ _ => id)) ⟨w2.drew.heap.size, 0, none⟩ 1 1 [.int .i64 z, .int .i64 r] rfl rfl (by intro i u hi; match i, hi with | 0, hi => simp at hi; subst hi; simp [Addr.add] | 1, hi => simp at hi; subst hi; simp [Addr.add]) (by intro u hu; simp at hu; rcases hu with rfl | rfl <;> rfl) (by decide) (by unfold maxLen; omega) (by omega) ?_; intro g3 c3 w3 ho3 hg3 hf3; have hh3 := hf3.out.heap (FX.out.heap0 HHD.out) (fun e => HLA.out.q_ne q e rfl); have d6 := cell_of_row w3 q 6 _ _ _ hh3; have d7 := cell_of_row w3 q 7 _ _ _ hh3; have g6 := frozen_of_row w3 q 6 _ _ hh3; have g7 := frozen_of_row w3 q 7 _ _ hh3; have HH3 := hid hh3; clear hh3))
        all_goals
          clear e6 e7 c6 c7
          go_wp2_with fail
          have hpush := OwnL.pushed (g := g3) (c := c3) r (O3.out.dev.next FX.out) (HLA.out.fr FX.out id (fun _ _ => id)) HLK.out O3.out.new O3.out.small hf3.out ho3.out hg3.out HZR.out HLN.out
          have A5 : Hid (_ = some (Obj.cells #[Value.int IntKind.i64 b0, .int .i64 b1, .int .i64 b2, .int .i64 b3, .int .i64 b4] 61 (0, 0))) := heap_lw hpush.2 (FX.out.heap0 A3.out) (by decide) (by decide) (by decide) (by decide) (by decide)
          have P1 := hid hpush.1
          have P2 := hid ((F3.out.step (FX.out.any (T := LW w0 w))).lws hpush.2)
          clear hpush
          go_roundw
          case rel => exact ⟨rfl, l ++ [(z, r)], z + r, hch.out.snoc HR0.out.1, (by have := HR0.out.2; show _ ≤ _; omega), HALL.out, P1.out, A5.out, P2.out⟩
          case measure => rw [FA.out]; exact Nat.lt_of_le_of_lt (Nat.le_of_eq (congrArg (fun f => b3 + m.sure.length - f) (show _ = z + r from P1.out.finAt))) (by have := HR0.out; show b3 + m.sure.length - (z + r) < b3 + m.sure.length - z; omega)

end Go.Proofs.Ytpimjachhfnlfaa
