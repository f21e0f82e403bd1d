/-
  Slices of bytes, and lists of them, that came in or are the call's own; how they stay. No condition.
-/
import Derived.Test.YtpimjachhfnlfaaBytes
import Derived.Test.YtpimjachhfnlfaaLive
import Derived.Deep.Slices
namespace Go.Proofs.Ytpimjachhfnlfaa
open Go.ChangeShapes Go.WideShapes Go.ChangeAt Go.RowKit

/-- New blocks, but for those of bytes. -/
def NB (w0 w : World) : Nat → Prop := fun k => w0.heap.size ≤ k ∧ ¬ ∃ cur f, w.heap[k]? = some (.cells cur 5 f)

theorem Wr.nb {w0 w w' : World} (f : Fr (Wr (New w0) w) w w') : Fr (NB w0 w) w w' := by
  refine f.mono fun i _ hi => ⟨hi.1, ?_⟩
  rintro ⟨cur, f1, h1⟩
  obtain ⟨cur2, e, f2, h2, he⟩ := hi.2
  rw [h1] at h2
  cases h2
  rcases he with he | he | he <;> cases he

theorem Fr.nb1 {w0 w w' : World} {g e : Nat} {cur : Array Value} {fr : Nat × Nat} (f : Fr (· = g) w w') (h : w.heap[g]? = some (.cells cur e fr)) (he : e ≠ 5) (hg : w0.heap.size ≤ g) : Fr (NB w0 w) w w' := by
  refine f.mono fun i _ hi => ?_
  subst hi
  refine ⟨hg, ?_⟩
  rintro ⟨cur2, f2, h2⟩
  rw [h] at h2
  cases h2
  exact he rfl

/-- A block of another type stays where a device's calls go. -/
theorem heap_wr {S : Nat → Prop} {w w' : World} {g e : Nat} {cur : Array Value} {fr : Nat × Nat} (f : Fr (Wr S w) w w') (h : w.heap[g]? = some (.cells cur e fr)) (h1 : e ≠ 127) (h2 : e ≠ 132) (h3 : e ≠ 57) : w'.heap[g]? = some (.cells cur e fr) := by
  refine f.heap h fun hw => ?_
  obtain ⟨_, cur2, e2, f2, hc, ht⟩ := hw
  rw [h] at hc
  cases hc
  rcases ht with ht | ht | ht
  · exact h1 ht
  · exact h2 ht
  · exact h3 ht

/-- The value u is the bytes l: old ones, or in a block of bytes of the call's own. -/
structure Bs (w0 w : World) (u : Value) (l : List UInt8) : Prop where
  ex : ∃ a c, u = .slice a l.length c ∧ BytesIn w a l.length l ∧ (a = none → l = [] ∧ c = 0) ∧ l.length ≤ c ∧ (l ≠ [] → ∀ ad, a = some ad → ad.block < w0.heap.size ∨ ∃ cur, w.heap[ad.block]? = some (.cells cur 5 (0, 0)))

theorem Bs.step {w0 w w' : World} {u : Value} {l : List UInt8} (h : Bs w0 w u l) (f : Fr (NB w0 w) w w') : Bs w0 w' u l := by
  obtain ⟨a, c, hu, hb, hn, hc, hk⟩ := h.ex
  by_cases hl : l = []
  · subst hl
    exact ⟨a, c, hu, ⟨rfl, fun _ => rfl, fun ad _ j u hj => by cases hj⟩, hn, hc, fun h => absurd rfl h⟩
  · have hN : ∀ ad, a = some ad → ¬ NB w0 w ad.block := by
      intro ad had hnb
      rcases hk hl ad had with h1 | ⟨cur, h1⟩
      · have := hnb.1; omega
      · exact hnb.2 ⟨cur, _, h1⟩
    refine ⟨a, c, hu, hb.fr f hN, hn, hc, fun _ ad had => ?_⟩
    rcases hk hl ad had with h1 | ⟨cur, h1⟩
    · exact .inl h1
    · exact .inr ⟨cur, f.heap h1 (hN ad had)⟩

theorem Bs.next {w0 w w' : World} {u : Value} {l : List UInt8} (h : Bs w0 w u l) (f : Fr No w w') : Bs w0 w' u l := h.step f.any

theorem Bs.nil (w0 w : World) : Bs w0 w (.slice none 0 0) [] := ⟨none, 0, rfl, BytesIn.nothing w, fun _ => ⟨rfl, rfl⟩, Nat.le_refl _, fun h => absurd rfl h⟩

/-- Read at the start. -/
theorem Bs.start {W : World} {a : Option Addr} {c : Nat} {l : List UInt8} (h : BytesIn W a l.length l) (hn : a = none → l = [] ∧ c = 0) (hc : l.length ≤ c) : Bs W W (.slice a l.length c) l := by
  refine ⟨a, c, rfl, h, hn, hc, fun hl ad had => .inl ?_⟩
  obtain ⟨x, t, rfl⟩ : ∃ x t, l = x :: t := by
    cases l with
    | nil => exact absurd rfl hl
    | cons x t => exact ⟨x, t, rfl⟩
  have := block_lt_of_cell (h.cell ad had 0 (bv x) rfl)
  rwa [add_block] at this

/-- In a block of bytes that is there. -/
theorem Bs.row {w0 w : World} {g c : Nat} {l : List UInt8} (h : Row w g 5 (bvs l)) (hc : l.length ≤ c) : Bs w0 w (.slice (some ⟨g, 0, none⟩) l.length c) l := by
  refine ⟨_, c, rfl, h.bytes rfl, (fun e => by cases e), hc, fun _ ad had => ?_⟩
  cases had
  obtain ⟨cur, hcur, _⟩ := h
  exact .inr ⟨cur, hcur⟩

theorem info_slice1 : Try.prog.cellsOf 23 = 1 := by kernel_rfl

set_option maxRecDepth 100000 in
theorem bytes_of_cells {H : Type} {enc : TypeId × Value → H} {W : World} {cs : List Value} {x : DataW H × List MemPlace} {fuel : Nat} (h : DataW.trod enc Try.prog W 0 (fun _ => true) true fuel 23 cs = some x) :
    ∃ u l, cs = [u] ∧ Bs W W u l := by
  rcases open_ints Try.underlying23 Try.underlying5 cells_u8 h with ⟨hcs, hx⟩ | ⟨a, len, cap, zs, hcs, _, hl, hm, hz, hx, hcell, hwz⟩
  · exact ⟨_, [], hcs, Bs.nil W W⟩
  · simp only [if_true] at hz
    obtain ⟨l, rfl⟩ := u8s_of hwz
    have hlen : (l.take len).length = len := by simp at hz ⊢; omega
    refine ⟨_, l.take len, hcs, ?_⟩
    have := Bs.start (W := W) (a := some a) (c := cap) (l := l.take len) ⟨rfl, (fun e => by cases e), ?_⟩ (fun e => by cases e) (by omega)
    · rw [hlen] at this; exact this
    · intro ad had j u hu
      cases had
      have hj : j < len ∧ j < l.length := by
        have := (List.getElem?_eq_some_iff.1 hu).1
        have h2 : j < min len l.length := by simpa [bvs] using this
        omega
      rw [hcell j (by simpa using hj.2)]
      have e : (bvs (l.take len))[j]? = some (bv (l[j]'hj.2)) := by simp [bvs, hj.1, hj.2]
      rw [e] at hu
      cases hu
      simp [bv, List.getD, hj.2]

/-- A list of slices of bytes. -/
structure BsList (w0 w : World) (a : Option Addr) (n : Nat) (ls : List (List UInt8)) : Prop where
  len : ls.length = n
  nil : a = none → n = 0
  elem : ∀ ad, a = some ad → ∀ j (hj : j < ls.length), ∃ u, w.cell? (ad.add j) = some u ∧ Bs w0 w u ls[j]

theorem choose_list {α : Type} {p : Nat → α → Prop} : ∀ (n : Nat), (∀ j, j < n → ∃ x, p j x) → ∃ l : List α, l.length = n ∧ ∀ j (hj : j < l.length), p j l[j] := by
  intro n
  induction n with
  | zero => intro _; exact ⟨[], rfl, fun j hj => by simp at hj⟩
  | succ n ih =>
    intro h
    obtain ⟨l, hl, hp⟩ := ih (fun j hj => h j (by omega))
    obtain ⟨x, hx⟩ := h n (by omega)
    refine ⟨l ++ [x], by simp [hl], ?_⟩
    intro j hj
    by_cases hjn : j < l.length
    · rw [List.getElem_append_left hjn]; exact hp j hjn
    · have : j = l.length := by simp at hj; omega
      subst this
      rw [List.getElem_append_right (Nat.le_refl _)]
      simp [hl]
      exact hx

set_option maxRecDepth 100000 in
theorem list_of_trod {H : Type} {enc : TypeId × Value → H} {W : World} {v : Value} {d : DataW H} {ps : List MemPlace} {base : Nat} (hw : Value.okWide Try.prog W .any base 22 v) (h : DataW.Trod enc Try.prog W 0 (fun _ => true) true 22 v d ps) :
    ∃ a n c ls, v = .slice a n c ∧ BsList W W a n ls ∧ n ≤ maxLen ∧ (n = 0 ∨ ∃ xs ys, d = .slice xs ys ∧ xs.length = n) := by
  obtain ⟨a0, len, cap, rfl⟩ := okWide_slice Try.underlying22 hw
  obtain ⟨fuel, hf⟩ := h
  rcases Deep.open_slice1 Try.underlying22 info_slice1 hf with ⟨hcs, hx⟩ | ⟨a, len', cap', m, n, V, D, Pl, hcs, _, hl, hm, hmm, hx, hcell⟩
  · simp [Value.cells] at hcs
    obtain ⟨rfl, rfl, rfl⟩ := hcs
    exact ⟨none, 0, 0, [], rfl, ⟨rfl, fun _ => rfl, fun ad h => by cases h⟩, Nat.zero_le _, .inl rfl⟩
  · simp [Value.cells] at hcs
    obtain ⟨rfl, rfl, rfl⟩ := hcs
    simp only [if_true] at hmm
    obtain ⟨ls, hlen, hls⟩ := choose_list (p := fun j l => W.cell? (a.add j) = some (V j) ∧ Bs W W (V j) l) len (fun j hj => by
      obtain ⟨h1, h2⟩ := hcell j (by omega)
      obtain ⟨u, l, hu, hb⟩ := bytes_of_cells h2
      cases hu
      exact ⟨l, h1, hb⟩)
    simp only [Prod.mk.injEq] at hx
    refine ⟨some a, len, cap, ls, rfl, ⟨hlen, (fun e => by cases e), ?_⟩, by omega, .inr ⟨_, _, hx.1, by simp⟩⟩
    intro ad had j hj
    cases had
    exact ⟨_, hls j hj⟩

theorem BsList.next {w0 w w' : World} {a : Option Addr} {n : Nat} {ls : List (List UInt8)} (h : BsList w0 w a n ls) (f : Fr (NB w0 w) w w') (hold : ∀ ad, a = some ad → ls ≠ [] → ¬ NB w0 w ad.block) : BsList w0 w' a n ls := by
  refine ⟨h.len, h.nil, fun ad had j hj => ?_⟩
  obtain ⟨u, h1, h2⟩ := h.elem ad had j hj
  refine ⟨u, f.cell h1 ?_, h2.step f⟩
  rw [add_block]
  exact hold ad had (by intro e; rw [e] at hj; simp at hj)

/-- An old list stays, whatever the call does to memory of its own that is no bytes. -/
theorem BsList.old {W w : World} {a : Option Addr} {n : Nat} {ls : List (List UInt8)} (h : BsList W W a n ls) (f : Fr No W w) : BsList W w a n ls := by
  refine ⟨h.len, h.nil, fun ad had j hj => ?_⟩
  obtain ⟨u, h1, h2⟩ := h.elem ad had j hj
  exact ⟨u, f.cell h1 id, h2.next f⟩

theorem u64_of_wf {z : Int} (h : (Lit.int .u64 z).wf = true) : ∃ x : Nat, z = x ∧ x < 18446744073709551616 := by
  have h1 : IntKind.u64.min = 0 := rfl
  have h2 : IntKind.u64.max = 18446744073709551615 := rfl
  simp only [Lit.wf, Bool.and_eq_true, decide_eq_true_eq, h1, h2] at h
  exact ⟨z.toNat, by omega, by omega⟩

theorem bytes_slice : Try.prog.bytesOf 23 = 24 := by kernel_rfl

/-- The reach: how many elements at most. -/
theorem len_reach {H : Type} {ts : List TypeId} {ds : List (DataW H)} {j t e b : Nat} {xs ys : List (DataW H)} (h : (DataW.weightsEach Try.prog ts ds).all (· ≤ reachBytes) = true) (ht : ts[j]? = some t) (hd : ds[j]? = some (.slice xs ys)) (hu : Try.prog.underlying t = some (.slice e)) (hb : Try.prog.bytesOf e = b) (h1 : 1 ≤ b) : xs.length ≤ 140737488351232 := by
  have := sized_slice h ht hd hu
  rw [hb] at this
  have h2 : xs.length ≤ (xs.length + ys.length) * b := Nat.le_trans (Nat.le_add_right _ _) (Nat.le_mul_of_pos_right _ h1)
  simp only [reachBytes] at this
  omega

end Go.Proofs.Ytpimjachhfnlfaa
