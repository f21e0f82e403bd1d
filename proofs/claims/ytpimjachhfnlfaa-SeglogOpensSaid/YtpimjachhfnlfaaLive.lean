/-
  A device whose power stays: its calls in short. No condition.
-/
import Derived.Test.YtpimjachhfnlfaaSame
namespace Go.Proofs.Ytpimjachhfnlfaa
open Go.RowKit

/-- No limit, and the power is there. -/
structure Live (m : Dv) : Prop where
  up : m.down = false
  free : m.limit = 0

def Dv.add (m : Dv) (k : Nat) (b : List UInt8) : Dv := { m with unsure := m.unsure ++ [(k, pad b)] }

theorem Live.code {m : Dv} (h : Live m) {k : Nat} (hk : k < m.sure.length) : m.code k = 0 := by simp [Dv.code, h.up]; omega
theorem Live.spent {m : Dv} (h : Live m) : m.spent = m := by simp [Dv.spent, h.free]
theorem Live.write {m : Dv} (h : Live m) {k : Nat} (hk : k < m.sure.length) {b : List UInt8} (hb : b.length ≤ 512) : m.write k b = (m.add k b, 0) := by
  have e : ¬ 512 < b.length := by omega
  simp [Dv.write, h.code hk, e, h.free, h.spent, Dv.add]
theorem Live.sync {m : Dv} (h : Live m) : m.sync = ({ m with sure := settleAll m.sure m.unsure, unsure := [] }, 0) := by
  simp [Dv.sync, h.up, h.free, h.spent]
theorem Live.add {m : Dv} (h : Live m) (k : Nat) (b : List UInt8) : Live (m.add k b) := ⟨h.up, h.free⟩
theorem Live.rd {m : Dv} (h : Live m) {k : Nat} (hk : k < m.sure.length) : m.rd k = match m.seen k with | none => .error 9 | some b => .ok b := by
  simp [Dv.rd, h.code hk]
  rfl
theorem crash_live (m : Dv) (a b : Nat) : Live (m.crash a b) := ⟨rfl, rfl⟩
theorem zero_live (n : Nat) : Live (Dv.zero n) := ⟨rfl, rfl⟩

theorem crashFrom_len (a b : Nat) : ∀ (l : List (Nat × List UInt8)) (k : Nat) (s : List Sec), (crashFrom a b k s l).length = s.length := by
  intro l
  induction l with
  | nil => intro k s; rfl
  | cons u l ih =>
    intro k s
    simp only [crashFrom]
    rw [ih]
    unfold crashOne
    split
    · simp
    · split <;> simp

theorem seen_add_same (m : Dv) (k : Nat) (b : List UInt8) : (m.add k b).seen k = some (pad b) := by
  simp [Dv.seen, Dv.add, lastTo]
theorem seen_add_other (m : Dv) (k j : Nat) (b : List UInt8) (h : j ≠ k) : (m.add k b).seen j = m.seen j := by
  have : (k == j) = false := by rw [beq_eq_false_iff_ne]; omega
  simp [Dv.seen, Dv.add, lastTo, this]
theorem seen_clean {m : Dv} (h : m.unsure = []) {k : Nat} (hk : k < m.sure.length) : m.seen k = if (m.sure[k]).torn then none else some (m.sure[k]).data := by
  simp [Dv.seen, h, lastTo, hk]

theorem new_zero_len (n : Nat) : (Dv.zero n).sure.length = n := by simp [Dv.zero]

/-- Bytes that a literal lays. -/
theorem BytesIn.lit (w : World) (l : List UInt8) (n : Nat) (hn : l.length = n) (cs : Array Value) (hc : cs = (bvs l).toArray) : BytesIn (w.alloc (.cells cs 5)) (some ⟨w.heap.size, 0, none⟩) n l := by
  refine ⟨hn, (fun h => by cases h), fun ad had j u hu => ?_⟩
  cases had
  rw [Addr.add_lit, Nat.zero_add, World.cell?_alloc_new, hc]
  simpa using hu

/-- A write that is done. -/
theorem write_live {S : Nat → Prop} {p : Nat} {m : Dv} (k : Nat) (a : Option Addr) (n c : Nat) (b : List UInt8) (w : World) (hd : Dev w S p m) (hl : Live m) (hk : k < m.sure.length) (few : m.unsure.length < 1099511627776) (hn : n ≤ 512) (hb : BytesIn w a n b) :
    Calls Try.prog 20 #[.pointer (some ⟨p, 0, none⟩), .int .i64 k, .slice a n c] w fun e w' => e = .returned (.int .i64 0) ∧ Dev w' (Grow S w w') p (m.add k b) ∧ Fr (Wr S w) w w' := by
  have h := write_any (k : Int) a n c b w hd few hb
  rw [hl.write hk (by rw [hb.len]; exact hn)] at h
  exact h

/-- A crash, and the power is back; all is sure when it is synced. -/
theorem sync_live {S : Nat → Prop} {p : Nat} {m : Dv} (w : World) (hd : Dev w S p m) (hl : Live m) (few : m.unsure.length ≤ 1099511627776) :
    Calls Try.prog 21 #[.pointer (some ⟨p, 0, none⟩)] w fun e w' => e = .returned (.int .i64 0) ∧ Dev w' S p { m with sure := settleAll m.sure m.unsure, unsure := [] } ∧ Fr (Wr S w) w w' := by
  have h := sync_any w hd few
  rw [hl.sync] at h
  exact h

theorem read_torn {S : Nat → Prop} {p : Nat} {m : Dv} (k : Nat) (w : World) (hd : Dev w S p m) (hl : Live m) (hk : k < m.sure.length) (few : m.unsure.length ≤ 1099511627776) (hs : m.seen k = none) :
    Calls Try.prog 23 #[.pointer (some ⟨p, 0, none⟩), .int .i64 k] w fun e w' => e = .returned (.tuple #[.slice none 0 0, .int .i64 9]) ∧ w' = w := by
  have h := read_any (k : Int) w hd few
  rw [hl.rd hk, hs] at h
  exact h

theorem read_live {S : Nat → Prop} {p : Nat} {m : Dv} (k : Nat) (b : List UInt8) (w : World) (hd : Dev w S p m) (hl : Live m) (hk : k < m.sure.length) (few : m.unsure.length ≤ 1099511627776) (hs : m.seen k = some b) :
    Calls Try.prog 23 #[.pointer (some ⟨p, 0, none⟩), .int .i64 k] w fun e w' => ∃ g c, e = .returned (.tuple #[.slice (some ⟨g, 0, none⟩) 512 c, .int .i64 0]) ∧ Row w' g 5 (bvs b) ∧ (512 ≤ c ∧ c ≤ maxLen) ∧ w.heap.size ≤ g ∧ Fr No w w' := by
  have h := read_any (k : Int) w hd few
  rw [hl.rd hk, hs] at h
  refine h.mono fun e w' hh => ?_
  obtain ⟨g, c, h1, h2, h3, h4, h5⟩ := hh
  have := seen_len hd.wf hs
  rw [this] at h1 h3
  exact ⟨g, c, h1, h2, h3, h4, h5⟩

/-! ### A device of the call's own -/

/-- The device m at p came since w0; what was there then is as it was. -/
def Own (w0 w : World) (p : Nat) (m : Dv) : Prop := ∃ S, Dev w S p m ∧ (∀ k, S k → w0.heap.size ≤ k) ∧ Fr No w0 w

/-- What the calls of a device of one's own write. -/
def New (w0 : World) : Nat → Prop := fun k => w0.heap.size ≤ k

theorem Own.fr {w0 w : World} {p : Nat} {m : Dv} (h : Own w0 w p m) : Fr No w0 w := by obtain ⟨_, _, _, f⟩ := h; exact f

theorem Own.next {w0 w w' : World} {p : Nat} {m : Dv} (h : Own w0 w p m) (f : Fr No w w') : Own w0 w' p m := by
  obtain ⟨S, hd, hS, hf⟩ := h
  exact ⟨S, hd.fr0 f, hS, hf.step f⟩

theorem own_new (n : Nat) (w0 w : World) (hf : Fr No w0 w) (h1 : 1 ≤ n) (h2 : n ≤ 4096) :
    Calls Try.prog 18 #[.int .i64 n] w fun e w' => ∃ p, e = .returned (.tuple #[.pointer (some ⟨p, 0, none⟩), .int .i64 0]) ∧ Own w0 w' p (Dv.zero n) ∧ Fr No w w' := by
  refine (new_ok n w h1 h2).mono fun e w' hh => ?_
  obtain ⟨p, he, hd, f⟩ := hh
  exact ⟨p, he, ⟨_, hd, fun k hk => Nat.le_trans hf.size hk.1, hf.step f⟩, f⟩

theorem own_write {w0 w : World} {p : Nat} {m : Dv} (k : Nat) (a : Option Addr) (n c : Nat) (b : List UInt8) (h : Own w0 w p m) (hl : Live m) (hk : k < m.sure.length) (few : m.unsure.length < 1099511627776) (hn : n ≤ 512) (hb : BytesIn w a n b) :
    Calls Try.prog 20 #[.pointer (some ⟨p, 0, none⟩), .int .i64 k, .slice a n c] w fun e w' => e = .returned (.int .i64 0) ∧ Own w0 w' p (m.add k b) ∧ Fr (Wr (New w0) w) w w' := by
  obtain ⟨S, hd, hS, hf⟩ := h
  refine (write_live k a n c b w hd hl hk few hn hb).mono fun e w' hh => ?_
  obtain ⟨he, hd', f⟩ := hh
  refine ⟨he, ⟨_, hd', fun k hk => ?_, hf.trans f.ofWr (fun i hi => .inr (hS i hi))⟩, f.mono fun i _ hi => ⟨hS i hi.1, hi.2⟩⟩
  rcases hk with hk | hk
  · exact hS k hk
  · exact Nat.le_trans hf.size hk.1

theorem own_sync {w0 w : World} {p : Nat} {m : Dv} (h : Own w0 w p m) (hl : Live m) (few : m.unsure.length ≤ 1099511627776) :
    Calls Try.prog 21 #[.pointer (some ⟨p, 0, none⟩)] w fun e w' => e = .returned (.int .i64 0) ∧ Own w0 w' p { m with sure := settleAll m.sure m.unsure, unsure := [] } ∧ Fr (Wr (New w0) w) w w' := by
  obtain ⟨S, hd, hS, hf⟩ := h
  refine (sync_live w hd hl few).mono fun e w' hh => ?_
  obtain ⟨he, hd', f⟩ := hh
  exact ⟨he, ⟨S, hd', hS, hf.trans f.ofWr (fun i hi => .inr (hS i hi))⟩, f.mono fun i _ hi => ⟨hS i hi.1, hi.2⟩⟩

theorem own_crash {w0 w : World} {p : Nat} {m : Dv} (mask torn : Nat) (h : Own w0 w p m) (few : m.unsure.length ≤ 1099511627776) (hm : mask < 18446744073709551616) (ht : torn < 18446744073709551616) :
    Calls Try.prog 22 #[.pointer (some ⟨p, 0, none⟩), .int .u64 mask, .int .u64 torn] w fun e w' => e = .returned (.int .i64 0) ∧ Own w0 w' p (m.crash mask torn) ∧ Fr (Wr (New w0) w) w w' := by
  obtain ⟨S, hd, hS, hf⟩ := h
  refine (crash_any mask torn w hd few hm ht).mono fun e w' hh => ?_
  obtain ⟨he, hd', f⟩ := hh
  exact ⟨he, ⟨S, hd', hS, hf.trans f.ofWr (fun i hi => .inr (hS i hi))⟩, f.mono fun i _ hi => ⟨hS i hi.1, hi.2⟩⟩

theorem own_torn {w0 w : World} {p : Nat} {m : Dv} (k : Nat) (h : Own w0 w p m) (hl : Live m) (hk : k < m.sure.length) (few : m.unsure.length ≤ 1099511627776) (hs : m.seen k = none) :
    Calls Try.prog 23 #[.pointer (some ⟨p, 0, none⟩), .int .i64 k] w fun e w' => e = .returned (.tuple #[.slice none 0 0, .int .i64 9]) ∧ w' = w := by
  obtain ⟨S, hd, hS, hf⟩ := h
  exact read_torn k w hd hl hk few hs

theorem own_read {w0 w : World} {p : Nat} {m : Dv} (k : Nat) (b : List UInt8) (h : Own w0 w p m) (hl : Live m) (hk : k < m.sure.length) (few : m.unsure.length ≤ 1099511627776) (hs : m.seen k = some b) :
    Calls Try.prog 23 #[.pointer (some ⟨p, 0, none⟩), .int .i64 k] w fun e w' => ∃ g c, e = .returned (.tuple #[.slice (some ⟨g, 0, none⟩) 512 c, .int .i64 0]) ∧ Row w' g 5 (bvs b) ∧ (512 ≤ c ∧ c ≤ maxLen) ∧ w.heap.size ≤ g ∧ Fr No w w' := by
  obtain ⟨S, hd, hS, hf⟩ := h
  exact read_live k b w hd hl hk few hs

/-- A store into a block of another type leaves a device as it is. -/
theorem Own.other {w0 w w' : World} {p : Nat} {m : Dv} {g e : Nat} {cur : Array Value} {fr : Nat × Nat} (h : Own w0 w p m) (f : Fr (· = g) w w') (hg : w.heap[g]? = some (.cells cur e fr)) (h1 : e ≠ 127) (h2 : e ≠ 132) (h3 : e ≠ 57) (h4 : e ≠ 5) (h0 : w0.heap.size ≤ g) : Own w0 w' p m := by
  obtain ⟨S, ⟨bs, uv, us, hd, hp, hb, hv, hu, hl⟩, hS, hf⟩ := h
  refine ⟨S, ⟨bs, uv, us, hd.fr f ?_ ?_ ?_ ?_, hp, hb, hv, hu, fun k hk => Nat.lt_of_lt_of_le (hl k hk) f.size⟩, hS, hf.trans f (fun i hi => .inr (by rw [hi]; exact h0))⟩
  · exact ne_of_elem hd.head hg (Ne.symm h1)
  · exact ne_of_elem hd.rows hg (Ne.symm h2)
  · exact owns_ne hd.list hg (Ne.symm h3)
  · exact fun u hu' => (hd.data u hu').1.ne hg (Ne.symm h4)

end Go.Proofs.Ytpimjachhfnlfaa
