/-
  seglog.Log in memory, and its small calls. No condition but that the numbers are not great.
-/
import Derived.Test.YtpimjachhfnlfaaCuts
namespace Go.Proofs.Ytpimjachhfnlfaa
open Go.RowKit

/-- A log: the block, where each record lies and how many places it takes, the place behind, whether it is given up. -/
structure Lg where
  blk : Blk
  list : List (Nat × Nat)
  fin : Nat
  down : Bool

def recCells (r : Nat × Nat) : List Value := [.int .i64 r.1, .int .i64 r.2]

structure Lg.Small (L : Lg) : Prop where
  gen : L.blk.gen < 1152921504606846976
  epoch : L.blk.epoch < 1152921504606846976
  first : L.blk.first < 1152921504606846976
  from_ : L.blk.from_ < 1152921504606846976
  count : L.blk.count < 1152921504606846976
  fin : L.fin < 1152921504606846976
  many : L.list.length < 1099511627776
  recs : ∀ r ∈ L.list, r.1 < 1152921504606846976 ∧ r.2 < 1152921504606846976

structure LogAt (w : World) (q p : Nat) (lv : Value) (L : Lg) : Prop where
  head : w.heap[q]? = some (.cells #[.pointer (some ⟨p, 0, none⟩), .int .i64 L.blk.gen, .int .i64 L.blk.epoch, .int .i64 L.blk.first, .int .i64 L.blk.from_, .int .i64 L.blk.count, lv, .int .i64 L.fin, .bool L.down] 176 (0, 0))
  list : w.ownsRow 0 181 2 lv L.list.length (L.list.flatMap recCells)

/-- A block such as a log, or its device, is written in. -/
def LT (w : World) (k : Nat) : Prop := DT w k ∨ (∃ cur f, w.heap[k]? = some (.cells cur 176 f)) ∨ ∃ cur f, w.heap[k]? = some (.cells cur 181 f)

def LW (w0 w : World) : Nat → Prop := fun k => w0.heap.size ≤ k ∧ LT w k

theorem Fr.lws {w0 a b c : World} (h : Fr (LW w0 a) a b) (k : Fr (LW w0 b) b c) : Fr (LW w0 a) a c := by
  refine h.trans k (fun i hi => ?_)
  by_cases hlt : i < a.heap.size
  · refine .inl ?_
    by_cases hS : LW w0 a i
    · exact hS
    · refine ⟨hi.1, ?_⟩
      have e := h.block i hlt hS
      rcases hi.2 with ⟨cur, e2, f, hc, ht⟩ | ⟨cur, f, hc⟩ | ⟨cur, f, hc⟩
      · rw [e] at hc; exact .inl ⟨cur, e2, f, hc, ht⟩
      · rw [e] at hc; exact .inr (.inl ⟨_, _, hc⟩)
      · rw [e] at hc; exact .inr (.inr ⟨_, _, hc⟩)
  · exact .inr (by omega)

theorem Fr.ofWrL {w0 w w' : World} (f : Fr (Wr (New w0) w) w w') : Fr (LW w0 w) w w' := f.mono fun _ _ h => ⟨h.1, .inl h.2⟩

/-- Bytes stay. -/
theorem Row.lw {w0 w w' : World} {g : Nat} {xs : List Value} (h : Row w g 5 xs) (f : Fr (LW w0 w) w w') : Row w' g 5 xs := by
  refine h.fr f (fun hw => ?_)
  obtain ⟨cur2, hc2, _⟩ := h
  rcases hw.2 with ⟨cur, e2, f, hc, ht⟩ | ⟨cur, f, hc⟩ | ⟨cur, f, hc⟩
  · rw [hc2] at hc
    cases hc
    rcases ht with ht | ht | ht <;> exact absurd ht (by decide)
  · rw [hc2] at hc; cases hc
  · rw [hc2] at hc; cases hc

/-- A log at q over the device m at p, both of the call's own since w0. -/
structure OwnL (w0 w : World) (q p : Nat) (m : Dv) (L : Lg) : Prop where
  dev : Own w0 w p m
  log : ∃ lv, LogAt w q p lv L ∧ ∀ k, lv.ownBlock = some k → w0.heap.size ≤ k
  new : w0.heap.size ≤ q
  small : L.Small

theorem LogAt.lt {w : World} {q p : Nat} {lv : Value} {L : Lg} (h : LogAt w q p lv L) : q < w.heap.size := lt_of_some h.head

theorem LogAt.fr {S : Nat → Prop} {w w' : World} {q p : Nat} {lv : Value} {L : Lg} (h : LogAt w q p lv L) (f : Fr S w w') (h1 : ¬ S q) (h2 : ∀ k, lv.ownBlock = some k → ¬ S k) : LogAt w' q p lv L :=
  ⟨f.heap h.head h1, owns_fr h.list f h2⟩

/-- What a device's calls write is no log. -/
theorem LogAt.wr {S : Nat → Prop} {w w' : World} {q p : Nat} {lv : Value} {L : Lg} (h : LogAt w q p lv L) (f : Fr (Wr S w) w w') : LogAt w' q p lv L := by
  refine h.fr f (fun hw => ?_) (fun k hk hw => ?_)
  · obtain ⟨_, cur, e, f', hc, ht⟩ := hw
    rw [h.head] at hc
    cases hc
    rcases ht with ht | ht | ht <;> exact absurd ht (by decide)
  · obtain ⟨_, cur, e, f', hc, ht⟩ := hw
    rcases h.list.2 with ⟨hv, _⟩ | ⟨g, cap, cur2, hv, _, hg, _⟩
    · rw [hv] at hk; cases hk
    · rw [hv] at hk; cases hk
      rw [hg] at hc
      cases hc
      rcases ht with ht | ht | ht <;> exact absurd ht (by decide)

theorem OwnL.fr {w0 w : World} {q p : Nat} {m : Dv} {L : Lg} (h : OwnL w0 w q p m L) : Fr No w0 w := h.dev.fr

theorem OwnL.next {w0 w w' : World} {q p : Nat} {m : Dv} {L : Lg} (h : OwnL w0 w q p m L) (f : Fr No w w') : OwnL w0 w' q p m L := by
  obtain ⟨hd, ⟨lv, hl, hk⟩, hn, hs⟩ := h
  exact ⟨hd.next f, ⟨lv, hl.fr f id (fun _ _ => id), hk⟩, hn, hs⟩

/-- The device has done something. -/
theorem OwnL.dev' {w0 w w' : World} {q p : Nat} {m m' : Dv} {L : Lg} (h : OwnL w0 w q p m L) (hd : Own w0 w' p m') (f : Fr (Wr (New w0) w) w w') : OwnL w0 w' q p m' L := by
  obtain ⟨-, ⟨lv, hl, hk⟩, hn, hs⟩ := h
  exact ⟨hd, ⟨lv, hl.wr f, hk⟩, hn, hs⟩

section
variable {w : World} {q p : Nat} {lv : Value} {L : Lg}
theorem LogAt.c0 (h : LogAt w q p lv L) : w.cell? ⟨q, 0, none⟩ = some (.pointer (some ⟨p, 0, none⟩)) := cell_of_row w q 0 _ _ _ h.head
theorem LogAt.c1 (h : LogAt w q p lv L) : w.cell? ⟨q, 1, none⟩ = some (.int .i64 L.blk.gen) := cell_of_row w q 1 _ _ _ h.head
theorem LogAt.c2 (h : LogAt w q p lv L) : w.cell? ⟨q, 2, none⟩ = some (.int .i64 L.blk.epoch) := cell_of_row w q 2 _ _ _ h.head
theorem LogAt.c3 (h : LogAt w q p lv L) : w.cell? ⟨q, 3, none⟩ = some (.int .i64 L.blk.first) := cell_of_row w q 3 _ _ _ h.head
theorem LogAt.c4 (h : LogAt w q p lv L) : w.cell? ⟨q, 4, none⟩ = some (.int .i64 L.blk.from_) := cell_of_row w q 4 _ _ _ h.head
theorem LogAt.c5 (h : LogAt w q p lv L) : w.cell? ⟨q, 5, none⟩ = some (.int .i64 L.blk.count) := cell_of_row w q 5 _ _ _ h.head
theorem LogAt.c6 (h : LogAt w q p lv L) : w.cell? ⟨q, 6, none⟩ = some lv := cell_of_row w q 6 _ _ _ h.head
theorem LogAt.c7 (h : LogAt w q p lv L) : w.cell? ⟨q, 7, none⟩ = some (.int .i64 L.fin) := cell_of_row w q 7 _ _ _ h.head
theorem LogAt.c8 (h : LogAt w q p lv L) : w.cell? ⟨q, 8, none⟩ = some (.bool L.down) := cell_of_row w q 8 _ _ _ h.head
theorem LogAt.free (h : LogAt w q p lv L) (i : Nat) : w.frozen? ⟨q, i, none⟩ = false := frozen_of_row w q i _ _ h.head
theorem LogAt.shape (h : LogAt w q p lv L) : ∃ ao c, lv = .slice ao L.list.length c := by
  rcases h.list.2 with ⟨h1, h2⟩ | ⟨g, cap, cur, h1, _⟩
  · exact ⟨none, 0, by rw [h1, h2]⟩
  · exact ⟨_, _, h1⟩
theorem LogAt.q_ne (h : LogAt w q p lv L) : ∀ k, lv.ownBlock = some k → k ≠ q := owns_ne h.list h.head (by decide)
end

/-- Where a place lies. -/
def Dv.pos (m : Dv) (place : Nat) : Nat := place % (m.sure.length - 2) + 2

/-- How many places so many bytes take. -/
def partsN (n : Nat) : Nat := max ((n + 495) / 496) 1

set_option maxRecDepth 100000 in
theorem ring_any {w0 w : World} {q p : Nat} {m : Dv} {L : Lg} (h : OwnL w0 w q p m L) :
    Calls Try.prog 115 #[.pointer (some ⟨q, 0, none⟩)] w fun e w' => e = .returned (.int .i64 ((m.sure.length : Int) - 2)) ∧ w' = w := by
  obtain ⟨⟨S, hd, hS, hf⟩, ⟨lv, hl, hk⟩, hn, hs⟩ := h
  have c0 := hl.c0
  have HL := hid (len_any w hd)
  have few := hd.wf.few
  clear hd hl hk
  go_enter Try.func115, Try.ntmps115
  go_wp2_with fail
  refine HL.out.mono ?_
  rintro e w' ⟨rfl, rfl⟩
  go_wp2_with fail
  go_ret
  exact ⟨rfl, rfl⟩

set_option maxRecDepth 100000 in
theorem lat_any {w0 w : World} {q p : Nat} {m : Dv} {L : Lg} (place : Nat) (h : OwnL w0 w q p m L) (h3 : 3 ≤ m.sure.length) (hp : place < 2305843009213693952) :
    Calls Try.prog 119 #[.pointer (some ⟨q, 0, none⟩), .int .i64 place] w fun e w' => e = .returned (.int .i64 (m.pos place : Nat)) ∧ w' = w := by
  have HR := hid (ring_any h)
  obtain ⟨r, hr⟩ : ∃ r : Nat, r = m.sure.length - 2 := ⟨_, rfl⟩
  have hri : (m.sure.length : Int) - 2 = (r : Int) := by omega
  rw [hri] at HR
  have hpos : Hid (((m.pos place : Nat) : Int) = (place : Int) % (r : Int) + 2) := by
    show _ = _
    unfold Dv.pos
    rw [← hr]
    simp
  have hr0 : ¬ r = 0 := by omega
  have hb : (place : Int) % (r : Int) < 4611686018427387904 := by
    have : place % r ≤ place := Nat.mod_le _ _
    have e : (place : Int) % (r : Int) = ((place % r : Nat) : Int) := by simp
    omega
  have hb0 : 0 ≤ (place : Int) % (r : Int) := Int.emod_nonneg _ (by omega)
  clear h hri hr
  go_enter Try.func119, Try.ntmps119
  go_wp2_with fail
  refine HR.out.mono ?_
  rintro e w' ⟨rfl, rfl⟩
  go_wp2_with fail
  go_ret
  rw [hpos.out]
  exact ⟨rfl, rfl⟩

set_option maxRecDepth 100000 in
theorem parts_any (n : Nat) (w : World) (hn : n ≤ 1152921504606846976) : Calls Try.prog 118 #[.int .i64 n] w fun e w' => e = .returned (.int .i64 (partsN n : Nat)) ∧ w' = w := by
  by_cases h : n ≤ 496
  · have hp : partsN n = 1 := by unfold partsN; omega
    rw [hp]
    have h1 : ¬ (1 : Int) < ((n : Int) + 496 - 1) / 496 := by omega
    have h2 : ((n : Int) + 496 - 1) / 496 ≤ 1 := by omega
    clear hp
    go_enter Try.func118, Try.ntmps118
    go_wp2_with fail
    all_goals
      go_ret
      first
        | exact ⟨rfl, rfl⟩
        | (refine ⟨congrArg (fun z => Ending.returned (.int .i64 z)) (?_ : ((n : Int) + 496 - 1) / 496 = 1), rfl⟩; omega)
  · have hp : Hid (((partsN n : Nat) : Int) = ((n : Int) + 496 - 1) / 496) := by show _ = _; unfold partsN; omega
    have h1 : (1 : Int) < ((n : Int) + 496 - 1) / 496 := by omega
    have h2 : ¬ ((n : Int) + 496 - 1) / 496 ≤ 1 := by omega
    go_enter Try.func118, Try.ntmps118
    go_wp2_with fail
    all_goals
      go_ret
      rw [hp.out]
      exact ⟨rfl, rfl⟩

set_option maxRecDepth 100000 in
theorem first_any {w0 w : World} {q p : Nat} {m : Dv} {L : Lg} (h : OwnL w0 w q p m L) :
    Calls Try.prog 66 #[.pointer (some ⟨q, 0, none⟩)] w fun e w' => e = .returned (.int .i64 L.blk.first) ∧ w' = w := by
  obtain ⟨hd, ⟨lv, hl, hk⟩, hn, hs⟩ := h
  have c3 := hl.c3
  clear hd hl hk hs
  go_enter Try.func66, Try.ntmps66
  go_wp2_with fail
  go_ret
  exact ⟨rfl, rfl⟩

set_option maxRecDepth 100000 in
theorem next_any {w0 w : World} {q p : Nat} {m : Dv} {L : Lg} (h : OwnL w0 w q p m L) :
    Calls Try.prog 70 #[.pointer (some ⟨q, 0, none⟩)] w fun e w' => e = .returned (.int .i64 ((L.blk.first + L.list.length : Nat) : Int)) ∧ ∃ k, w' = w.drewN k := by
  obtain ⟨hd, ⟨lv, hl, hk⟩, hn, hs⟩ := h
  have c3 := hl.c3
  have c6 := hl.c6
  obtain ⟨ao, c, rfl⟩ := hl.shape
  have b1 : (L.blk.first : Int) < 1152921504606846976 := by have := hs.first; omega
  have b2 : (L.list.length : Int) < 1099511627776 := by have := hs.many; omega
  have HE : Hid ((((L.blk.first + L.list.length : Nat)) : Int) = (L.blk.first : Int) + (L.list.length : Int)) := by show _ = _; omega
  clear hd hl hk hs
  go_enter Try.func70, Try.ntmps70
  go_wp2_with fail
  go_quiet (fail)
  go_wp2_with fail
  go_ret
  rw [HE.out]
  exact ⟨rfl, _, rfl⟩

/-- How many places are free. -/
def Lg.room (L : Lg) (m : Dv) : Int := (m.sure.length : Int) - 2 - ((L.fin : Int) - (L.blk.from_ : Int))

set_option maxRecDepth 100000 in
theorem room_any {w0 w : World} {q p : Nat} {m : Dv} {L : Lg} (h : OwnL w0 w q p m L) :
    Calls Try.prog 63 #[.pointer (some ⟨q, 0, none⟩)] w fun e w' => e = .returned (.int .i64 (L.room m)) ∧ ∃ k, w' = w.drewN k := by
  have HR := hid (fun W (f : Fr No w W) => ring_any (h.next f))
  have few : m.sure.length ≤ 4096 := by
    obtain ⟨⟨S, hd, -⟩, -⟩ := h
    exact hd.wf.few
  obtain ⟨hd, ⟨lv, hl, hk⟩, hn, hs⟩ := h
  have c4 := hl.c4
  have c7 := hl.c7
  have b1 : (L.blk.from_ : Int) < 1152921504606846976 := by have := hs.from_; omega
  have b2 : (L.fin : Int) < 1152921504606846976 := by have := hs.fin; omega
  have b3 : (m.sure.length : Int) ≤ 4096 := by omega
  have HE : Hid (L.room m = (m.sure.length : Int) - 2 - ((L.fin : Int) - (L.blk.from_ : Int))) := rfl
  clear hd hl hk hs
  go_enter Try.func63, Try.ntmps63
  go_wp2_with fail
  go_quiet ((go_at_call 115; exact Calls.quiet_of_same (HR.out _ (Fr.drewN _ _))))
  go_wp2_with fail
  go_ret
  rw [HE.out]
  exact ⟨rfl, _, rfl⟩

/-- The log is given up, or not: nothing else turns. -/
theorem OwnL.setDown {w0 w w' : World} {q p : Nat} {m : Dv} {L : Lg} (h : OwnL w0 w q p m L) (d : Bool) (hw : w' = w.setCell ⟨q, 8, none⟩ (.bool d)) : OwnL w0 w' q p m { L with down := d } ∧ Fr (LW w0 w) w w' := by
  subst hw
  obtain ⟨hd, ⟨lv, hl, hk⟩, hn, hs⟩ := h
  have f : Fr (· = q) w (w.setCell ⟨q, 8, none⟩ (.bool d)) := Fr.set1 _ _ _ _
  refine ⟨⟨hd.other f hl.head (by decide) (by decide) (by decide) (by decide) hn, ⟨lv, ⟨?_, owns_fr hl.list f hl.q_ne⟩, hk⟩, hn, ⟨hs.gen, hs.epoch, hs.first, hs.from_, hs.count, hs.fin, hs.many, hs.recs⟩⟩, f.mono fun i _ hi => ?_⟩
  · rw [heap_setCell_same _ _ _ _ _ _ hl.head]
    simp
  · rw [hi]
    exact ⟨hn, .inr (.inl ⟨_, _, hl.head⟩)⟩

set_option maxRecDepth 100000 in
/-- check: may the log be used? -/
theorem lcheck_ok {w0 w : World} {q p : Nat} {m : Dv} {L : Lg} (h : OwnL w0 w q p m L) (h1 : L.down = false) (h2 : m.down = false) :
    Calls Try.prog 116 #[.pointer (some ⟨q, 0, none⟩)] w fun e w' => e = .returned (.int .i64 0) ∧ w' = w := by
  obtain ⟨⟨S, hd, hS, hf⟩, ⟨lv, hl, hk⟩, hn, hs⟩ := h
  have c0 := hl.c0
  have c8 := hl.c8
  rw [h1] at c8
  have HD := hid (down_any w hd)
  rw [h2] at HD
  clear hd hl hk hs h1 h2
  go_enter Try.func116, Try.ntmps116
  go_wp2_with fail
  refine HD.out.mono ?_
  rintro e w' ⟨rfl, rfl⟩
  go_wp2_with fail
  go_ret
  exact ⟨rfl, rfl⟩

set_option maxRecDepth 100000 in
theorem lcheck_down {w0 w : World} {q p : Nat} {m : Dv} {L : Lg} (h : OwnL w0 w q p m L) (h1 : L.down = true ∨ m.down = true) :
    Calls Try.prog 116 #[.pointer (some ⟨q, 0, none⟩)] w fun e w' => e = .returned (.int .i64 8) ∧ OwnL w0 w' q p m { L with down := true } ∧ Fr (LW w0 w) w w' := by
  have HS := hid (h.setDown true rfl)
  obtain ⟨⟨S, hd, hS, hf⟩, ⟨lv, hl, hk⟩, hn, hs⟩ := h
  have c0 := hl.c0
  have c8 := hl.c8
  have g8 := hl.free 8
  have HD := hid (down_any w hd)
  cases hdn : L.down with
  | true =>
    rw [hdn] at c8
    clear hd hl hk hs h1 hdn
    go_enter Try.func116, Try.ntmps116
    go_wp2_with fail
    go_ret
    exact ⟨rfl, HS.out.1, HS.out.2⟩
  | false =>
    rw [hdn] at c8 h1
    have h2 : m.down = true := h1.resolve_left (by simp)
    rw [h2] at HD
    clear hd hl hk hs h1 hdn h2
    go_enter Try.func116, Try.ntmps116
    go_wp2_with fail
    refine HD.out.mono ?_
    rintro e w' ⟨rfl, rfl⟩
    go_wp2_with fail
    go_ret
    exact ⟨rfl, HS.out.1, HS.out.2⟩

set_option maxRecDepth 100000 in
/-- did: an error of the device. -/
theorem did_any {w0 w : World} {q p : Nat} {m : Dv} {L : Lg} (c : Int) (h : OwnL w0 w q p m L) :
    Calls Try.prog 117 #[.pointer (some ⟨q, 0, none⟩), .int .i64 c] w fun e w' => e = .returned (.int .i64 c) ∧ OwnL w0 w' q p m { L with down := L.down || (c == 8) } ∧ Fr (LW w0 w) w w' := by
  have HS := hid (h.setDown (L.down || (c == 8)) rfl)
  obtain ⟨⟨S, hd, hS, hf⟩, ⟨lv, hl, hk⟩, hn, hs⟩ := h
  have c8 := hl.c8
  have g8 := hl.free 8
  clear hd hl hk hs
  cases hdn : L.down with
  | true =>
    rw [hdn] at c8 HS
    clear hdn
    rw [Bool.true_or] at HS
    go_enter Try.func117, Try.ntmps117
    go_wp2_with fail
    go_ret
    exact ⟨rfl, HS.out.1, HS.out.2⟩
  | false =>
    rw [hdn] at c8 HS
    clear hdn
    rw [Bool.false_or] at HS
    obtain ⟨b, hb⟩ : ∃ b, b = (c == 8) := ⟨_, rfl⟩
    rw [← hb] at HS
    have hb2 := hb.symm
    have HB := hid hb.symm
    clear hb
    go_enter Try.func117, Try.ntmps117
    go_wp2_with fail
    go_ret
    rw [Bool.false_or, HB.out]
    exact ⟨rfl, HS.out.1, HS.out.2⟩

end Go.Proofs.Ytpimjachhfnlfaa
