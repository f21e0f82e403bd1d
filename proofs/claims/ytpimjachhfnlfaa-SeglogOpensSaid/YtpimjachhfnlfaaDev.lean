/-
  The device in memory, and the calls that only look at it: check, Len, Down. No condition.
-/
import Derived.Test.YtpimjachhfnlfaaBase
namespace Go.Proofs.Ytpimjachhfnlfaa
open Go.RowKit

/-- A sector as it is sure. -/
structure Sec where
  data : List UInt8
  torn : Bool

def Sec.cells (s : Sec) : List Value := bvs s.data ++ [.bool s.torn]

/-- A device: sectors as they are sure, and writes that are not; the room that the sectors' slice has beside. -/
structure Dv where
  sure : List Sec
  unsure : List (Nat × List UInt8)
  limit : Nat
  down : Bool
  cap : Nat
  spare : List Value

structure Dv.Wf (m : Dv) : Prop where
  few : m.sure.length ≤ 4096
  size : ∀ s ∈ m.sure, s.data.length = 512
  wsize : ∀ u ∈ m.unsure, u.2.length = 512
  wpos : ∀ u ∈ m.unsure, u.1 < m.sure.length
  lim : m.limit ≤ 9223372036854775807

/-- A write that is not sure, and where its bytes lie. -/
structure UW where
  pos : Nat
  data : List UInt8
  g : Nat
  c : Nat

def UW.cells (u : UW) : List Value := [.int .i64 u.pos, .slice (some ⟨u.g, 0, none⟩) 512 u.c]
def UW.pair (u : UW) : Nat × List UInt8 := (u.pos, u.data)

structure DevAt (w : World) (p bs : Nat) (uv : Value) (us : List UW) (m : Dv) : Prop where
  head : w.heap[p]? = some (.cells #[.slice (some ⟨bs, 0, none⟩) m.sure.length m.cap, uv, .int .i64 m.limit, .bool m.down] 127 (0, 0))
  rows : w.heap[bs]? = some (.cells (m.sure.flatMap Sec.cells ++ m.spare).toArray 132 (0, 0))
  list : w.ownsRow 0 57 2 uv us.length (us.flatMap UW.cells)
  eq : m.unsure = us.map UW.pair
  data : ∀ u ∈ us, Row w u.g 5 (bvs u.data) ∧ 512 ≤ u.c
  wf : m.Wf

/-- The device m lies at p, in blocks of S. -/
def Dev (w : World) (S : Nat → Prop) (p : Nat) (m : Dv) : Prop :=
  ∃ bs uv us, DevAt w p bs uv us m ∧ S p ∧ S bs ∧ (∀ k, uv.ownBlock = some k → S k) ∧ (∀ u ∈ us, S u.g) ∧ ∀ k, S k → k < w.heap.size

/-- The blocks of S, and those that came since. -/
def Grow (S : Nat → Prop) (w w' : World) : Nat → Prop := fun k => S k ∨ (w.heap.size ≤ k ∧ k < w'.heap.size)

theorem DevAt.fr {T : Nat → Prop} {w w' : World} {p bs : Nat} {uv : Value} {us : List UW} {m : Dv} (h : DevAt w p bs uv us m) (f : Fr T w w')
    (h1 : ¬ T p) (h2 : ¬ T bs) (h3 : ∀ k, uv.ownBlock = some k → ¬ T k) (h4 : ∀ u ∈ us, ¬ T u.g) : DevAt w' p bs uv us m :=
  ⟨f.heap h.head h1, f.heap h.rows h2, owns_fr h.list f h3, h.eq, fun u hu => ⟨(h.data u hu).1.fr f (h4 u hu), (h.data u hu).2⟩, h.wf⟩

/-- What is written elsewhere leaves a device as it is. -/
theorem Dev.fr {S T : Nat → Prop} {w w' : World} {p : Nat} {m : Dv} (h : Dev w S p m) (f : Fr T w w') (hd : ∀ k, S k → ¬ T k) : Dev w' S p m := by
  obtain ⟨bs, uv, us, h, hp, hb, hv, hu, hl⟩ := h
  exact ⟨bs, uv, us, h.fr f (hd _ hp) (hd _ hb) (fun k hk => hd _ (hv k hk)) (fun u hu' => hd _ (hu u hu')), hp, hb, hv, hu, fun k hk => Nat.lt_of_lt_of_le (hl k hk) f.size⟩

theorem Dev.fr0 {S : Nat → Prop} {w w' : World} {p : Nat} {m : Dv} (h : Dev w S p m) (f : Fr No w w') : Dev w' S p m := h.fr f fun _ _ h => h

theorem Dev.grow {S : Nat → Prop} {w w' : World} {p : Nat} {m : Dv} (h : Dev w' S p m) : Dev w' (Grow S w w') p m := by
  obtain ⟨bs, uv, us, h, hp, hb, hv, hu, hl⟩ := h
  exact ⟨bs, uv, us, h, .inl hp, .inl hb, fun k hk => .inl (hv k hk), fun u hu' => .inl (hu u hu'), fun k hk => by rcases hk with hk | hk; exact hl k hk; exact hk.2⟩

theorem Dev.lt {S : Nat → Prop} {w : World} {p : Nat} {m : Dv} (h : Dev w S p m) : ∀ k, S k → k < w.heap.size := by
  obtain ⟨_, _, _, _, _, _, _, _, hl⟩ := h; exact hl

theorem Dev.wf {S : Nat → Prop} {w : World} {p : Nat} {m : Dv} (h : Dev w S p m) : m.Wf := by
  obtain ⟨_, _, _, h, _⟩ := h; exact h.wf

theorem owns_lt {w : World} {base e size n : Nat} {v : Value} {xs : List Value} (h : w.ownsRow base e size v n xs) : ∀ k, v.ownBlock = some k → k < w.heap.size := fun k hk => (h.lt k hk).2

/-- In all there is. -/
theorem DevAt.dev {w : World} {p bs : Nat} {uv : Value} {us : List UW} {m : Dv} (h : DevAt w p bs uv us m) : Dev w (fun i => i < w.heap.size) p m :=
  ⟨bs, uv, us, h, lt_of_some h.head, lt_of_some h.rows, owns_lt h.list, fun u hu => (h.data u hu).1.lt, fun _ hk => hk⟩

/-- A block such as a device is written in: no bytes. -/
def DT (w : World) (k : Nat) : Prop := ∃ cur e f, w.heap[k]? = some (.cells cur e f) ∧ (e = 127 ∨ e = 132 ∨ e = 57)

/-- What of S a device's calls write. -/
def Wr (S : Nat → Prop) (w : World) : Nat → Prop := fun k => S k ∧ DT w k

theorem DevAt.dt_p {w : World} {p bs : Nat} {uv : Value} {us : List UW} {m : Dv} (h : DevAt w p bs uv us m) : DT w p := ⟨_, _, _, h.head, .inl rfl⟩
theorem DevAt.dt_bs {w : World} {p bs : Nat} {uv : Value} {us : List UW} {m : Dv} (h : DevAt w p bs uv us m) : DT w bs := ⟨_, _, _, h.rows, .inr (.inl rfl)⟩
theorem DevAt.dt_uv {w : World} {p bs : Nat} {uv : Value} {us : List UW} {m : Dv} (h : DevAt w p bs uv us m) : ∀ k, uv.ownBlock = some k → DT w k := by
  intro k hk
  rcases h.list.2 with ⟨rfl, _⟩ | ⟨g, cap, cur, rfl, _, hg, _⟩
  · cases hk
  · cases hk; exact ⟨_, _, _, hg, .inr (.inr rfl)⟩

/-- Bytes stay. -/
theorem Row.wr {S : Nat → Prop} {w w' : World} {g e : Nat} {xs : List Value} (h : Row w g e xs) (f : Fr (Wr S w) w w') (h1 : e ≠ 127) (h2 : e ≠ 132) (h3 : e ≠ 57) : Row w' g e xs := by
  refine h.fr f (fun hw => ?_)
  obtain ⟨_, cur, e', f', hc, ht⟩ := hw
  obtain ⟨cur2, hc2, _⟩ := h
  rw [hc2] at hc
  cases hc
  rcases ht with ht | ht | ht
  · exact h1 ht
  · exact h2 ht
  · exact h3 ht

theorem Fr.ofWr {S : Nat → Prop} {w w' : World} (f : Fr (Wr S w) w w') : Fr S w w' := f.mono fun _ _ h => h.1

section
variable {w : World} {p bs : Nat} {uv : Value} {us : List UW} {m : Dv}
theorem DevAt.c0 (h : DevAt w p bs uv us m) : w.cell? ⟨p, 0, none⟩ = some (.slice (some ⟨bs, 0, none⟩) m.sure.length m.cap) := by rw [cell_of_row w p 0 _ _ _ h.head]; rfl
theorem DevAt.c1 (h : DevAt w p bs uv us m) : w.cell? ⟨p, 1, none⟩ = some uv := by rw [cell_of_row w p 1 _ _ _ h.head]; rfl
theorem DevAt.c2 (h : DevAt w p bs uv us m) : w.cell? ⟨p, 2, none⟩ = some (.int .i64 m.limit) := by rw [cell_of_row w p 2 _ _ _ h.head]; rfl
theorem DevAt.c3 (h : DevAt w p bs uv us m) : w.cell? ⟨p, 3, none⟩ = some (.bool m.down) := by rw [cell_of_row w p 3 _ _ _ h.head]; rfl
theorem DevAt.free (h : DevAt w p bs uv us m) (i : Nat) : w.frozen? ⟨p, i, none⟩ = false := frozen_of_row w p i _ _ h.head
end

/-- The error of a call that needs a sector. -/
def Dv.code (m : Dv) (pos : Int) : Int := if m.down then 8 else if pos < 0 then 1 else if (m.sure.length : Int) ≤ pos then 1 else 0

theorem check_nil (pos : Int) (w : World) : Calls Try.prog 75 #[.pointer none, .int .i64 pos] w fun e w' => e = .returned (.int .i64 1) ∧ w' = w := by
  go_enter Try.func75, Try.ntmps75
  go_wp2
  go_ret
  exact ⟨rfl, rfl⟩

theorem check_any {S : Nat → Prop} {p : Nat} {m : Dv} (pos : Int) (w : World) (hd : Dev w S p m) :
    Calls Try.prog 75 #[.pointer (some ⟨p, 0, none⟩), .int .i64 pos] w fun e w' => e = .returned (.int .i64 (m.code pos)) ∧ w' = w := by
  obtain ⟨bs, uv, us, h, -⟩ := hd
  have h0 := h.c0
  have h3 := h.c3
  clear h
  by_cases hdown : m.down = true
  · rw [hdown] at h3
    have hc : m.code pos = 8 := by simp [Dv.code, hdown]
    rw [hc]
    clear hc hdown
    go_enter Try.func75, Try.ntmps75
    go_wp2
    go_ret
    exact ⟨rfl, rfl⟩
  · have hdown : m.down = false := by simpa using hdown
    rw [hdown] at h3
    by_cases h1 : pos < 0
    · have hc : m.code pos = 1 := by simp [Dv.code, hdown, h1]
      rw [hc]
      clear hc hdown
      go_enter Try.func75, Try.ntmps75
      go_wp2
      go_ret
      exact ⟨rfl, rfl⟩
    · by_cases h2 : (m.sure.length : Int) ≤ pos
      · have hc : m.code pos = 1 := by simp [Dv.code, hdown, h1, h2]
        rw [hc]
        clear hc hdown
        go_enter Try.func75, Try.ntmps75
        go_wp2
        go_ret
        exact ⟨rfl, rfl⟩
      · have hc : m.code pos = 0 := by simp [Dv.code, hdown, h1, h2]
        rw [hc]
        clear hc hdown
        go_enter Try.func75, Try.ntmps75
        go_wp2
        go_ret
        exact ⟨rfl, rfl⟩

theorem len_any {S : Nat → Prop} {p : Nat} {m : Dv} (w : World) (hd : Dev w S p m) :
    Calls Try.prog 33 #[.pointer (some ⟨p, 0, none⟩)] w fun e w' => e = .returned (.int .i64 m.sure.length) ∧ w' = w := by
  obtain ⟨bs, uv, us, h, -⟩ := hd
  have h0 := h.c0
  clear h
  go_enter Try.func33, Try.ntmps33
  go_wp2
  go_ret
  exact ⟨rfl, rfl⟩

theorem len_nil (w : World) : Calls Try.prog 33 #[.pointer none] w fun e w' => e = .returned (.int .i64 0) ∧ w' = w := by
  go_enter Try.func33, Try.ntmps33
  go_wp2
  go_ret
  exact ⟨rfl, rfl⟩

theorem down_any {S : Nat → Prop} {p : Nat} {m : Dv} (w : World) (hd : Dev w S p m) :
    Calls Try.prog 32 #[.pointer (some ⟨p, 0, none⟩)] w fun e w' => e = .returned (.bool m.down) ∧ w' = w := by
  obtain ⟨bs, uv, us, h, -⟩ := hd
  have h0 := h.c3
  clear h
  go_enter Try.func32, Try.ntmps32
  go_wp2
  go_ret
  exact ⟨rfl, rfl⟩

theorem down_nil (w : World) : Calls Try.prog 32 #[.pointer none] w fun e w' => e = .returned (.bool true) ∧ w' = w := by
  go_enter Try.func32, Try.ntmps32
  go_wp2
  go_ret
  exact ⟨rfl, rfl⟩

end Go.Proofs.Ytpimjachhfnlfaa
