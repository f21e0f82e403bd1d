/-
  Plain words for the walks: a frame, bytes, rows of cells. No condition.
-/
import Derived.Test.YtpimjachhfnlfaaRows
import Derived.WalkKit
import Derived.WalkSpells
import Derived.WalkLawsBesides
import Derived.Deep.QuietTactic
import Derived.BigQuiet
import Derived.Laws.CopyOwn
import Derived.Laws.AppendOwnNone
import Derived.Deep.RegionLaw
namespace Go.Proofs.Ytpimjachhfnlfaa
open Go.RowKit

theorem hid {p : Prop} (h : p) : Hid p := h

/-- w' is w but for the blocks of S and new blocks. -/
structure Fr (S : Nat → Prop) (w w' : World) : Prop where
  os : w'.os = w.os
  tape : w'.tape = w.tape
  output : w'.output = w.output
  size : w.heap.size ≤ w'.heap.size
  block : ∀ k, k < w.heap.size → ¬ S k → w'.heap[k]? = w.heap[k]?

/-- No block. -/
def No : Nat → Prop := fun _ => False

theorem lt_of_some {w : World} {k : Nat} {o : Obj} (h : w.heap[k]? = some o) : k < w.heap.size := by
  rcases Nat.lt_or_ge k w.heap.size with h' | h'
  · exact h'
  · rw [Array.getElem?_eq_none h'] at h; cases h

theorem Fr.refl (S : Nat → Prop) (w : World) : Fr S w w := ⟨rfl, rfl, rfl, Nat.le_refl _, fun _ _ _ => rfl⟩

theorem Fr.trans {S T : Nat → Prop} {a b c : World} (h : Fr S a b) (k : Fr T b c) (hs : ∀ i, T i → S i ∨ a.heap.size ≤ i) : Fr S a c :=
  ⟨k.os.trans h.os, k.tape.trans h.tape, k.output.trans h.output, Nat.le_trans h.size k.size, fun i hi hn =>
    (k.block i (Nat.lt_of_lt_of_le hi h.size) (fun ht => by rcases hs i ht with h1 | h1; exact hn h1; omega)).trans (h.block i hi hn)⟩

theorem Fr.mono {S T : Nat → Prop} {w w' : World} (h : Fr S w w') (hs : ∀ i, i < w.heap.size → S i → T i) : Fr T w w' :=
  ⟨h.os, h.tape, h.output, h.size, fun k hk hn => h.block k hk (fun hs' => hn (hs k hk hs'))⟩

theorem Fr.any {T : Nat → Prop} {w w' : World} (h : Fr No w w') : Fr T w w' := h.mono fun _ _ h => h.elim

theorem Fr.step {S : Nat → Prop} {a b c : World} (h : Fr S a b) (k : Fr S b c) : Fr S a c := h.trans k fun _ h => .inl h

theorem Fr.then0 {S : Nat → Prop} {a b c : World} (h : Fr S a b) (k : Fr No b c) : Fr S a c := h.trans k fun _ h => h.elim

theorem Fr.alloc {S : Nat → Prop} (w : World) (o : Obj) : Fr S w (w.alloc o) :=
  ⟨rfl, rfl, rfl, by simp, fun k hk _ => Below.heap_alloc w o k hk⟩

theorem Fr.drew {S : Nat → Prop} (w : World) : Fr S w w.drew := ⟨rfl, rfl, rfl, Nat.le_refl _, fun _ _ _ => rfl⟩
theorem Fr.drewN {S : Nat → Prop} (w : World) (n : Nat) : Fr S w (w.drewN n) := ⟨rfl, rfl, rfl, Nat.le_refl _, fun _ _ _ => rfl⟩

theorem Fr.setCell {S : Nat → Prop} (w : World) (a : Addr) (v : Value) (h : S a.block ∨ w.heap.size ≤ a.block) : Fr S w (w.setCell a v) :=
  ⟨rfl, rfl, rfl, by simp, fun k hk hn => heap_setCell_other w a k v (fun e => by subst e; rcases h with h | h; exact hn h; omega)⟩

theorem Fr.setRow {S : Nat → Prop} (w : World) (g : Nat) (cs : Array Value) (h : S g ∨ w.heap.size ≤ g) : Fr S w (w.setRow g cs) :=
  ⟨rfl, rfl, rfl, by simp, fun k hk hn => setRow_other w g k cs (fun e => by subst e; rcases h with h | h; exact hn h; omega)⟩

theorem Fr.grown {S : Nat → Prop} {w w' : World} {row : Option Nat} (h : w.grownBy w' row) (hr : ∀ k, row = some k → S k ∨ w.heap.size ≤ k) : Fr S w w' :=
  ⟨h.os, h.tape, h.output, h.size, fun k hk hn => h.block k hk (fun e => by rcases hr k e.symm with h1 | h1; exact hn h1; omega)⟩

theorem Fr.heap {S : Nat → Prop} {w w' : World} (h : Fr S w w') {k : Nat} {o : Obj} (hk : w.heap[k]? = some o) (hn : ¬ S k) : w'.heap[k]? = some o :=
  (h.block k (lt_of_some hk) hn).trans hk

theorem Fr.heap0 {w w' : World} (h : Fr No w w') {k : Nat} {o : Obj} (hk : w.heap[k]? = some o) : w'.heap[k]? = some o := h.heap hk id

theorem Fr.cell {S : Nat → Prop} {w w' : World} (h : Fr S w w') {a : Addr} {v : Value} (hc : w.cell? a = some v) (hn : ¬ S a.block) : w'.cell? a = some v :=
  (World.cell?_of_block (h.block a.block (block_lt_of_cell hc) hn)).trans hc

theorem Fr.below {w w' : World} (h : Fr No w w') : Below w.heap.size w w' := ⟨h.os, h.tape, h.output, h.size, fun k hk => h.block k hk id⟩

theorem ne_of_elem {w : World} {k k' : Nat} {c c' : Array Value} {e e' : Nat} {f f' : Nat × Nat} (h : w.heap[k]? = some (.cells c e f)) (h' : w.heap[k']? = some (.cells c' e' f')) (hne : e ≠ e') : k ≠ k' := by
  intro hk; subst hk; rw [h] at h'; cases h'; exact hne rfl

theorem Fr.set1 (w : World) (p i : Nat) (v : Value) : Fr (· = p) w (w.setCell ⟨p, i, none⟩ v) := Fr.setCell _ _ _ (.inl rfl)

theorem add_block (a : Addr) (j : Nat) : (a.add j).block = a.block := by unfold Addr.add; split <;> rfl

/-- A byte as a value; bytes as cells. -/
def bv (x : UInt8) : Value := .int .u8 x.toNat
def bvs (l : List UInt8) : List Value := l.map bv

theorem bvs_len (l : List UInt8) : (bvs l).length = l.length := by simp [bvs]
theorem bvs_one (l : List UInt8) : ∀ u ∈ bvs l, u.oneCell' = true := by
  intro u hu; obtain ⟨x, _, rfl⟩ := List.mem_map.1 hu; rfl

/-- What a slice value of n elements shows: xs. Nil, or at an address. -/
def Rd (w : World) (v : Value) (n : Nat) (xs : List Value) : Prop :=
  ∃ (a : Option Addr) (c : Nat), v = .slice a n c ∧ n ≤ c ∧ (a = none → n = 0 ∧ c = 0) ∧ ∀ ad, a = some ad → ∀ j u, xs[j]? = some u → w.cell? (ad.add j) = some u

/-- Block g, of elements of type e, not frozen, begins with xs. -/
def Row (w : World) (g e : Nat) (xs : List Value) : Prop := ∃ cur : Array Value, w.heap[g]? = some (.cells cur e (0, 0)) ∧ cur.toList.take xs.length = xs

theorem Row.lt {w : World} {g e : Nat} {xs : List Value} (h : Row w g e xs) : g < w.heap.size := by obtain ⟨cur, h, _⟩ := h; exact lt_of_some h

theorem Row.cell {w : World} {g e : Nat} {xs : List Value} (h : Row w g e xs) : ∀ j u, xs[j]? = some u → w.cell? ⟨g, j, none⟩ = some u := by
  intro j u hu
  obtain ⟨cur, hc, ht⟩ := h
  rw [cell_of_row w g j cur e (0, 0) hc]
  rw [← ht, List.getElem?_take] at hu
  split at hu
  · simpa using hu
  · cases hu

theorem Row.free {w : World} {g e : Nat} {xs : List Value} (h : Row w g e xs) (j : Nat) : w.frozen? ⟨g, j, none⟩ = false := by
  obtain ⟨cur, hc, _⟩ := h; exact frozen_of_row w g j cur e hc

theorem Row.fr {S : Nat → Prop} {w w' : World} {g e : Nat} {xs : List Value} (h : Row w g e xs) (f : Fr S w w') (hn : ¬ S g) : Row w' g e xs := by
  obtain ⟨cur, hc, ht⟩ := h; exact ⟨cur, f.heap hc hn, ht⟩

theorem Row.fr0 {w w' : World} {g e : Nat} {xs : List Value} (h : Row w g e xs) (f : Fr No w w') : Row w' g e xs := h.fr f id

theorem Row.ne {w : World} {g e : Nat} {xs : List Value} (h : Row w g e xs) {k e' : Nat} {c : Array Value} {f : Nat × Nat} (h' : w.heap[k]? = some (.cells c e' f)) (hne : e ≠ e') : g ≠ k := by
  obtain ⟨cur, hc, _⟩ := h; exact ne_of_elem hc h' hne

theorem owns_ne {w : World} {base e size n k e' : Nat} {v : Value} {xs : List Value} {c : Array Value} {f : Nat × Nat} (h : w.ownsRow base e size v n xs) (h' : w.heap[k]? = some (.cells c e' f)) (hne : e ≠ e') : ∀ g, v.ownBlock = some g → g ≠ k := by
  intro g hg
  rcases h.2 with ⟨rfl, _⟩ | ⟨g', cap, cur, rfl, _, hgg, _⟩
  · cases hg
  · cases hg; exact ne_of_elem hgg h' hne

theorem Row.rd {w : World} {g e : Nat} {xs : List Value} (h : Row w g e xs) (n c : Nat) (hc : n ≤ c) : Rd w (.slice (some ⟨g, 0, none⟩) n c) n xs :=
  by
  refine ⟨_, _, rfl, hc, (fun h => by cases h), ?_⟩
  intro ad had j u hu
  cases had
  rw [Addr.add_lit]
  simpa using h.cell j u hu

theorem Rd.nil (w : World) : Rd w (.slice none 0 0) 0 [] :=
  ⟨_, _, rfl, Nat.le_refl _, (fun _ => ⟨rfl, rfl⟩), (fun ad h => by cases h)⟩

/-- A new row of the call's own: the value at its head, n elements, of size cells each, with room. -/
theorem row_of_owns {w : World} {base e size n c g : Nat} {xs : List Value} (h : w.ownsRow base e size (.slice (some ⟨g, 0, none⟩) n c) n xs) : Row w g e xs := by
  obtain ⟨hl, h2⟩ := h
  rcases h2 with ⟨h2, _⟩ | ⟨g', cap, cur, hv, _, hg, _, _, _, ht⟩
  · cases h2
  · cases hv; exact ⟨cur, hg, by rw [hl]; exact ht⟩

theorem owns_shape {w : World} {base e size n : Nat} {v : Value} {xs : List Value} (h : w.ownsRow base e size v n xs) (hv : ¬ v = .slice none 0 0) :
    ∃ g c, v = .slice (some ⟨g, 0, none⟩) n c ∧ Row w g e xs ∧ n ≤ c ∧ base ≤ g := by
  obtain ⟨hl, h2⟩ := h
  rcases h2 with ⟨h2, _⟩ | ⟨g', cap, cur, hv, hb, hg, hn, _, _, ht⟩
  · exact absurd h2 hv
  · exact ⟨g', cap, hv, ⟨cur, hg, by rw [hl]; exact ht⟩, hn, hb⟩

theorem owns_fr {S : Nat → Prop} {w w' : World} {base e size n : Nat} {v : Value} {xs : List Value} (h : w.ownsRow base e size v n xs) (f : Fr S w w') (hn : ∀ k, v.ownBlock = some k → ¬ S k) : w'.ownsRow base e size v n xs := by
  refine ⟨h.1, ?_⟩
  rcases h.2 with hn' | ⟨g, cap, cur, rfl, hb, hgg, rest⟩
  · exact .inl hn'
  · exact .inr ⟨g, cap, cur, rfl, hb, f.heap hgg (hn g rfl), rest⟩

/-- A cell of a list of rows of one length. -/
theorem getElem?_flatMap_fixed {α β : Type} (l : List α) (f : α → List β) (c : Nat) (hc : ∀ x ∈ l, (f x).length = c) : ∀ (i j : Nat), j < c → (l.flatMap f)[i * c + j]? = l[i]?.bind fun x => (f x)[j]? := by
  induction l with
  | nil => intro i j _; simp
  | cons x l ih =>
    intro i j hj
    have hx := hc x (List.mem_cons_self)
    cases i with
    | zero => simp [List.getElem?_append, hx, hj]
    | succ i =>
      rw [List.flatMap_cons, List.getElem?_append, hx, if_neg (by rw [Nat.add_mul]; omega), List.getElem?_cons_succ, ← ih (fun y hy => hc y (List.mem_cons_of_mem _ hy)) i j hj]
      congr 1
      rw [Nat.add_mul]; omega

theorem length_flatMap_fixed {α β : Type} (l : List α) (f : α → List β) (c : Nat) (hc : ∀ x ∈ l, (f x).length = c) : (l.flatMap f).length = l.length * c := by
  induction l with
  | nil => simp
  | cons x l ih =>
    rw [List.flatMap_cons, List.length_append, hc x List.mem_cons_self, ih (fun y hy => hc y (List.mem_cons_of_mem _ hy)), List.length_cons, Nat.add_mul]; omega

theorem flatMap_set_fixed {α β : Type} (f : α → List β) (c : Nat) : ∀ (l : List α) (_ : ∀ x ∈ l, (f x).length = c) (i : Nat) (x : α), i < l.length → (l.set i x).flatMap f = (l.flatMap f).take (i * c) ++ (f x ++ (l.flatMap f).drop (i * c + c)) := by
  intro l
  induction l with
  | nil => intro _ i x h; simp at h
  | cons y l ih =>
    intro hc i x h
    have hy := hc y List.mem_cons_self
    cases i with
    | zero => simp [hy]
    | succ i =>
      rw [List.set_cons_succ, List.flatMap_cons, List.flatMap_cons, ih (fun z hz => hc z (List.mem_cons_of_mem _ hz)) i x (by simpa using h)]
      have e1 : (i + 1) * c = c + i * c := by rw [Nat.add_mul]; omega
      have t1 : (f y).take (c + i * c) = f y := List.take_of_length_le (by omega)
      have t2 : (f y).drop (c + i * c + c) = [] := List.drop_of_length_le (by omega)
      rw [e1, List.take_append, List.drop_append, hy, t1, t2, Nat.add_sub_cancel_left, show c + i * c + c - c = i * c + c by omega]
      simp

/-- A row of a length, its last cell set, the cells ahead written. -/
theorem splice_set {α : Type} (L : List α) (k n : Nat) (t : α) (cs : List α) (hn : cs.length = n) (h : k + n < L.length) : splice (L.set (k + n) t) k cs = L.take k ++ ((cs ++ [t]) ++ L.drop (k + (n + 1))) := by
  subst hn
  unfold splice
  rw [List.take_set_of_le (by omega), List.append_assoc]
  congr 2
  rw [List.drop_set]
  simp only [Nat.lt_irrefl, if_false, Nat.sub_self]
  rw [List.drop_eq_getElem_cons h, List.set_cons_zero, show k + (cs.length + 1) = k + cs.length + 1 by omega]
  rfl

/-- append of one element and more to a row of the call's own: in place, or in new memory. -/
theorem wpList_append_at {P : Program} (w : World) {ops : Array Oper} {rest : List Oper} {o : Oper} {a : Act} {Q : Exit → Act → World → Prop} (hgd : o.guard = none) (s x : Operand) (t : TypeId)
    (ho : o.op = .call { callee := .builtin .append, args := #[s, x], argTypes := #[t, t] })
    (e : TypeId) (i : TypeInfo) (z : Value) (size bytes : Nat) (ht : P.underlying t = some (.slice e)) (hi : P.info? e = some i) (hz : i.zero = some z)
    (hsize : i.size = size) (hby : i.bytes = bytes) (hzs : z.cells.size = size) (hsz : 0 < size)
    (v : Value) (n : Nat) (xs : List Value) (hs : a.eval s = v) (hown : w.ownsRow 0 e size v n xs)
    (ad : Addr) (m c : Nat) (news : List Value) (hx : a.eval x = .slice (some ad) m c) (hl : news.length = m * size) (hnews : ∀ j u, news[j]? = some u → w.cell? (ad.add j) = some u) (h1 : ∀ u ∈ news, u.oneCell' = true) (hm : 0 < m)
    (h63 : n + m ≤ maxLen) (hbytes : (n + m) * bytes ≤ 140737488355328)
    (h : ∀ g c' w', Hid (w'.ownsRow 0 e size (.slice (some ⟨g, 0, none⟩) (n + m) c') (n + m) (xs ++ news)) → Hid (v.ownBlock = some g ∨ w.heap.size ≤ g) → Hid (Fr (fun k => v.ownBlock = some k) w w') → wpList P ops Q rest (a.put o.dst (.slice (some ⟨g, 0, none⟩) (n + m) c')) w') :
    wpList P ops Q (o :: rest) a w := by
  rcases hown.2 with ⟨rfl, rfl⟩ | ⟨g, cap, cur, rfl, _, hg, hnc, hcm, hcs, htake⟩
  · have hx0 : xs = [] := List.eq_nil_of_length_eq_zero (by simpa using hown.1)
    subst hx0
    refine wpList_append_grows w hgd s x t ho e i z size bytes ht hi hz hsize hby hzs hsz none 0 0 [] hs (fun _ => ⟨rfl, rfl⟩) (by simp) (fun b hb => by cases hb) ad m c news hx hl hnews h1 (by omega) h63 hbytes ?_
    intro v' w' how hgr
    rcases how.2 with ⟨_, h0⟩ | ⟨g, cap, cur, rfl, hb, _⟩
    · omega
    · exact h g cap w' ⟨how.1, .inr (by rcases how.2 with ⟨hv, _⟩ | ⟨g', cap', cur', hv, _, r⟩; cases hv; exact ⟨g', cap', cur', hv, Nat.zero_le _, r⟩)⟩ (.inr hb) (Fr.grown hgr (fun k hk => by cases hk))
  · by_cases hroom : n + m ≤ cap
    · refine wpList_append_fits w hgd s x t ho 0 e i size ht hi hsize g n cap xs hs hown ad m c news hx hl hnews h1 hroom ?_
      intro w' how hgr
      exact h g cap w' how (.inl rfl) (Fr.grown hgr (fun k hk => .inl hk))
    · refine wpList_append_grows w hgd s x t ho e i z size bytes ht hi hz hsize hby hzs hsz (some ⟨g, 0, none⟩) n cap xs hs (fun hh => by cases hh) hown.1 (fun b hb => by cases hb; exact hown.cells rfl) ad m c news hx hl hnews h1 (by omega) h63 hbytes ?_
      intro v' w' how hgr
      rcases how.2 with ⟨_, h0⟩ | ⟨g', cap', cur', rfl, hb, r⟩
      · omega
      · exact h g' cap' w' ⟨how.1, .inr ⟨g', cap', cur', rfl, Nat.zero_le _, r⟩⟩ (.inr hb) (Fr.grown hgr (fun k hk => by cases hk))

/-- append onto an empty slice literal: the same row, or new memory. -/
theorem wpList_append_copy {P : Program} (w : World) {ops : Array Oper} {rest : List Oper} {o : Oper} {a : Act} {Q : Exit → Act → World → Prop} (hgd : o.guard = none) (s x : Operand) (t : TypeId)
    (ho : o.op = .call { callee := .builtin .append, args := #[s, x], argTypes := #[t, t] })
    (e : TypeId) (i : TypeInfo) (z : Value) (size bytes : Nat) (ht : P.underlying t = some (.slice e)) (hi : P.info? e = some i) (hz : i.zero = some z)
    (hsize : i.size = size) (hby : i.bytes = bytes) (hzs : z.cells.size = size) (hsz : 0 < size)
    (g0 : Nat) (hs : a.eval s = .slice (some ⟨g0, 0, none⟩) 0 0) (hown : w.ownsRow 0 e size (.slice (some ⟨g0, 0, none⟩) 0 0) 0 [])
    (ao : Option Addr) (m c : Nat) (news : List Value) (hx : a.eval x = .slice ao m c) (hnil : ao = none → m = 0 ∧ c = 0) (hl : news.length = m * size) (hnews : ∀ ad, ao = some ad → ∀ j u, news[j]? = some u → w.cell? (ad.add j) = some u) (h1 : ∀ u ∈ news, u.oneCell' = true)
    (h63 : m ≤ maxLen) (hbytes : m * bytes ≤ 140737488355328)
    (h : ∀ g c' w', Hid (Row w' g e news) → m ≤ c' → (g = g0 ∨ w.heap.size ≤ g) → Hid (Fr No w w') → wpList P ops Q rest (a.put o.dst (.slice (some ⟨g, 0, none⟩) m c')) w') :
    wpList P ops Q (o :: rest) a w := by
  have hrow0 := row_of_owns hown
  by_cases hm : m = 0
  · subst hm
    have hn0 : news = [] := List.eq_nil_of_length_eq_zero (by rw [hl]; omega)
    subst hn0
    cases ao with
    | none =>
      obtain ⟨-, rfl⟩ := hnil rfl
      exact wpList_append_own_none hgd s x t ho 0 e i size ht hi _ 0 [] hs hown hx (h g0 0 w hrow0 (Nat.le_refl _) (.inl rfl) (Fr.refl _ _))
    | some ad =>
      refine wpList_append_fits w hgd s x t ho 0 e i size ht hi hsize g0 0 0 [] hs hown ad 0 c [] hx (by simp) (fun j u hu => by cases hu) (fun u hu => by cases hu) (Nat.le_refl _) ?_
      intro w' how hgr
      refine h g0 0 w' (row_of_owns how) (Nat.le_refl _) (.inl rfl) ?_
      refine ⟨hgr.os, hgr.tape, hgr.output, hgr.size, fun k hk _ => ?_⟩
      by_cases hk0 : k = g0
      · subst hk0
        rcases how.2 with ⟨hv, _⟩ | ⟨g', cap', cur', hv, _, hg', _, _, hcs', _⟩
        · cases hv
        · cases hv
          rcases hown.2 with ⟨hv, _⟩ | ⟨g2, cap2, cur2, hv, _, hg2, _, _, hcs2, _⟩
          · cases hv
          · cases hv
            rw [hg', hg2]
            have e1 : cur' = #[] := Array.eq_empty_of_size_eq_zero (by omega)
            have e2 : cur2 = #[] := Array.eq_empty_of_size_eq_zero (by omega)
            rw [e1, e2]
      · exact hgr.block k hk (fun e => hk0 (Option.some.inj e))
  · cases ao with
    | none => exact absurd (hnil rfl).1 hm
    | some ad =>
      refine wpList_append_grows w hgd s x t ho e i z size bytes ht hi hz hsize hby hzs hsz (some ⟨g0, 0, none⟩) 0 0 [] hs (fun hh => by cases hh) (by simp) (fun b _ j u hu => by cases hu) ad m c news hx hl (hnews ad rfl) h1 (by omega) (by omega) (by simpa using hbytes) ?_
      intro v' w' how hgr
      rw [Nat.zero_add, List.nil_append] at how
      rcases how.2 with ⟨_, h0⟩ | ⟨g', cap', cur', rfl, hb, hg, hnc, _⟩
      · exact absurd h0 hm
      · exact h g' cap' w' (row_of_owns how) hnc (.inr hb) (Fr.grown hgr (fun k hk => by cases hk))

/-- append of one element and more, as it runs. -/
theorem run_append_at {P : Program} (w : World) (t ty : TypeId) (e : TypeId) (i : TypeInfo) (z : Value) (size bytes : Nat) (ht : P.underlying t = some (.slice e)) (hi : P.info? e = some i) (hz : i.zero = some z)
    (hsize : i.size = size) (hby : i.bytes = bytes) (hzs : z.cells.size = size) (hsz : 0 < size)
    (v : Value) (n : Nat) (xs : List Value) (hown : w.ownsRow 0 e size v n xs)
    (ad : Addr) (m c : Nat) (news : List Value) (hl : news.length = m * size) (hnews : ∀ j u, news[j]? = some u → w.cell? (ad.add j) = some u) (h1 : ∀ u ∈ news, u.oneCell' = true) (hm : 0 < m)
    (h63 : n + m ≤ maxLen) (hbytes : (n + m) * bytes ≤ 140737488355328) :
    ∃ g c' w', (Builtin.append_ #[t, t] ty #[v, .slice (some ad) m c]).run P w = .ok (.slice (some ⟨g, 0, none⟩) (n + m) c') w' ∧ w'.ownsRow 0 e size (.slice (some ⟨g, 0, none⟩) (n + m) c') (n + m) (xs ++ news) ∧ (v.ownBlock = some g ∨ w.heap.size ≤ g) ∧ Fr (fun k => v.ownBlock = some k) w w' := by
  have big : ∀ v' w' (row : Option Nat), w'.ownsRow w.heap.size e size v' (n + m) (xs ++ news) → w.grownBy w' row → (∀ k, row = some k → v.ownBlock = some k) → ∃ g c', v' = .slice (some ⟨g, 0, none⟩) (n + m) c' ∧ w'.ownsRow 0 e size (.slice (some ⟨g, 0, none⟩) (n + m) c') (n + m) (xs ++ news) ∧ (v.ownBlock = some g ∨ w.heap.size ≤ g) ∧ Fr (fun k => v.ownBlock = some k) w w' := by
    intro v' w' row how hgr hrow
    rcases how.2 with ⟨_, h0⟩ | ⟨g', cap', cur', rfl, hb, r⟩
    · omega
    · exact ⟨g', cap', rfl, ⟨how.1, .inr ⟨g', cap', cur', rfl, Nat.zero_le _, r⟩⟩, .inr hb, Fr.grown hgr (fun k hk => .inl (hrow k hk))⟩
  rcases hown.2 with ⟨rfl, rfl⟩ | ⟨g, cap, cur, rfl, _, hg, hnc, hcm, hcs, htake⟩
  · have hx0 : xs = [] := List.eq_nil_of_length_eq_zero (by simpa using hown.1)
    subst hx0
    obtain ⟨v', w', hr, how, hgr, _⟩ := run_append_own (P := P) w w.heap.size t ty e i z size bytes ht hi hz hsize hby hzs hsz (.slice none 0 0) 0 [] (World.ownsRow_nil _ _ _ _) ad m c news hl hnews h1 h63 hbytes (Nat.le_refl _)
    obtain ⟨g, c', rfl, h2, h3, h4⟩ := big v' w' _ how hgr (fun k hk => hk)
    exact ⟨g, c', w', hr, h2, h3, h4⟩
  · by_cases hroom : n + m ≤ cap
    · obtain ⟨w', hr, how, hgr⟩ := run_append_fits (P := P) w 0 t ty e i size ht hi hsize g n cap xs hown ad m c news hl hnews h1 hroom
      exact ⟨g, cap, w', hr, how, .inl rfl, Fr.grown hgr (fun k hk => .inl hk)⟩
    · obtain ⟨v', w', hr, how, hgr⟩ := run_append_arg_grows (P := P) w t ty e i z size bytes ht hi hz hsize hby hzs hsz ⟨g, 0, none⟩ n cap xs hown.1 (hown.cells rfl) ad m c news hl hnews (by omega) h63 hbytes
      obtain ⟨g', c', rfl, h2, h3, h4⟩ := big v' w' none how hgr (fun k hk => by cases hk)
      exact ⟨g', c', w', hr, h2, h3, h4⟩

/-- The same as one step of a region that draws its order. -/
theorem step_append_at {P : Program} {ops : Array Oper} {o : Oper} {a : Act} {w : World} {K : Act → World → Prop} {Q : Exit → Act → World → Prop} {E : Prop} (hgd : o.guard = none) (s x : Operand) (t : TypeId)
    (ho : o.op = .call { callee := .builtin .append, args := #[s, x], argTypes := #[t, t] })
    (e : TypeId) (i : TypeInfo) (z : Value) (size bytes : Nat) (ht : P.underlying t = some (.slice e)) (hi : P.info? e = some i) (hz : i.zero = some z)
    (hsize : i.size = size) (hby : i.bytes = bytes) (hzs : z.cells.size = size) (hsz : 0 < size)
    (v : Value) (n : Nat) (xs : List Value) (hs : a.eval s = v) (hown : w.ownsRow 0 e size v n xs)
    (ad : Addr) (m c : Nat) (news : List Value) (hx : a.eval x = .slice (some ad) m c) (hl : news.length = m * size) (hnews : ∀ j u, news[j]? = some u → w.cell? (ad.add j) = some u) (h1 : ∀ u ∈ news, u.oneCell' = true) (hm : 0 < m)
    (h63 : n + m ≤ maxLen) (hbytes : (n + m) * bytes ≤ 140737488355328)
    (h : ∀ g c' w', Hid (w'.ownsRow 0 e size (.slice (some ⟨g, 0, none⟩) (n + m) c') (n + m) (xs ++ news)) → Hid (v.ownBlock = some g ∨ w.heap.size ≤ g) → Hid (Fr (fun k => v.ownBlock = some k) w w') → K (a.put o.dst (.slice (some ⟨g, 0, none⟩) (n + m) c')) w') :
    if Region.wanted o (yielded ops a.tmps) = true then Oper.wp P o a w K Q else E := by
  have hw : Region.wanted o (yielded ops a.tmps) = true := by simp [Region.wanted, hgd]
  rw [if_pos hw]
  obtain ⟨g, c', w', hr, h2, h3, h4⟩ := run_append_at (P := P) w t o.type e i z size bytes ht hi hz hsize hby hzs hsz v n xs hown ad m c news hl hnews h1 hm h63 hbytes
  unfold Oper.wp
  simp [execOp, ho, resolve, invoke, builtin, hs, hx, hr, Result.andThen]
  exact h g c' w' h2 h3 h4

end Go.Proofs.Ytpimjachhfnlfaa
