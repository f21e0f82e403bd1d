/-
  FlashSure's plain law: what the device holds behind the writes, and behind the crash. No condition.
-/
import Derived.Test.YtpimjachhfnlfaaTorn
import Derived.Test.YtpimjachhfnlfaaArgs
namespace Go.Proofs.Ytpimjachhfnlfaa
open Go.RowKit

/-- The first k writes. -/
def firsts (ls : List (List UInt8)) (k : Nat) : List (Nat × List UInt8) := (List.range k).map fun i => (i, pad (ls.getD i []))
/-- What is wanted then. -/
def wants (ls : List (List UInt8)) (k : Nat) : List (List UInt8) := (List.range 8).map fun j => if j < k then ls.getD j [] else []

def dv8 (u : List (Nat × List UInt8)) : Dv := { Dv.zero 8 with unsure := u }

theorem firsts_succ (ls : List (List UInt8)) (k : Nat) : firsts ls (k + 1) = firsts ls k ++ [(k, pad (ls.getD k []))] := by simp [firsts, List.range_succ]
theorem firsts_len (ls : List (List UInt8)) (k : Nat) : (firsts ls k).length = k := by simp [firsts]
theorem dv8_live (u : List (Nat × List UInt8)) : Live (dv8 u) := ⟨rfl, rfl⟩
theorem dv8_len (u : List (Nat × List UInt8)) : (dv8 u).sure.length = 8 := new_zero_len 8
theorem dv8_add (ls : List (List UInt8)) (k : Nat) (h : k < ls.length) : (dv8 (firsts ls k)).add k ls[k] = dv8 (firsts ls (k + 1)) := by
  rw [firsts_succ]
  simp [Dv.add, dv8, List.getD, h]
theorem wants_len (ls : List (List UInt8)) (k : Nat) : (wants ls k).length = 8 := by simp [wants]
theorem wants_zero (ls : List (List UInt8)) (j : Nat) (h : j < (wants ls 0).length) : (wants ls 0)[j] = [] := by simp [wants]
theorem wants_succ (ls : List (List UInt8)) (k : Nat) (h : k < ls.length) (hk : k < 8) : wants ls (k + 1) = (wants ls k).set k ls[k] := by
  apply List.ext_getElem?
  intro i
  rw [List.getElem?_set]
  simp only [wants, List.length_map, List.length_range, List.getElem?_map]
  by_cases hi : i < 8
  · rw [List.getElem?_range hi]
    by_cases hik : k = i
    · subst hik; simp [hi, List.getD, h]
    · have : (i < k + 1) = (i < k) := by apply propext; omega
      simp [hik, this]
  · rw [List.getElem?_eq_none (by simpa using hi)]
    have : ¬ k = i := by omega
    simp [this]

/-- Behind Sync. -/
def dvS (s : List Sec) (u : List (Nat × List UInt8)) : Dv := ⟨s, u, 0, false, 8, []⟩
theorem dvS_live (s : List Sec) (u : List (Nat × List UInt8)) : Live (dvS s u) := ⟨rfl, rfl⟩
theorem dv8_sync (u : List (Nat × List UInt8)) : ({ dv8 u with sure := settleAll (dv8 u).sure (dv8 u).unsure, unsure := [] } : Dv) = dvS (settleAll (Dv.zero 8).sure u) [] := rfl
theorem dvS_add (s : List Sec) (u : List (Nat × List UInt8)) (k : Nat) (b : List UInt8) : (dvS s u).add k b = dvS s (u ++ [(k, pad b)]) := rfl

theorem pad_nil : pad [] = List.replicate 512 0 := by unfold pad; rfl

theorem settle_firsts (ls : List (List UInt8)) (s : List Sec) : ∀ k, k ≤ s.length → ∀ j, (settleAll s (firsts ls k))[j]? = if j < k then some ⟨pad (ls.getD j []), false⟩ else s[j]? := by
  intro k
  induction k with
  | zero => intro _ j; simp [firsts, settleAll]
  | succ k ih =>
    intro hk j
    rw [firsts_succ, settleAll_snoc, List.getElem?_set, settleAll_len]
    by_cases h : k = j
    · subst h
      rw [if_pos rfl, if_pos (by show k < s.length; omega), if_pos (by omega)]
    · rw [if_neg h, ih (by omega) j]
      by_cases h2 : j < k
      · rw [if_pos h2, if_pos (by omega)]
      · rw [if_neg h2, if_neg (by omega)]

/-- The sectors, what is wanted, and what is broken, agree. -/
structure Agree (s : List Sec) (wl : List (List UInt8)) (bl : List Bool) : Prop where
  ls : s.length = 8
  lw : wl.length = 8
  lb : bl.length = 8
  broken : ∀ (j : Nat), bl[j]? = some true → ∃ d, s[j]? = some ⟨d, true⟩
  whole : ∀ (j : Nat) (l : List UInt8), bl[j]? = some false → wl[j]? = some l → s[j]? = some ⟨pad l, false⟩

theorem agree_first (ls : List (List UInt8)) (k : Nat) (hk : k ≤ 8) : Agree (settleAll (Dv.zero 8).sure (firsts ls k)) (wants ls k) (List.replicate 8 false) := by
  have h8 := new_zero_len 8
  refine ⟨by rw [settleAll_len, h8], wants_len _ _, List.length_replicate, ?_, ?_⟩
  · intro j hj
    have := List.eq_of_mem_replicate (List.mem_of_getElem? hj)
    cases this
  · intro j l hj hl
    have hj8 : j < 8 := by have := (List.getElem?_eq_some_iff.1 hl).1; rwa [wants_len] at this
    rw [settle_firsts ls _ k (by rw [h8]; exact hk) j]
    have e : (wants ls k)[j]? = some (if j < k then ls.getD j [] else []) := by simp only [wants, List.getElem?_map, List.getElem?_range hj8]; rfl
    rw [e] at hl
    cases hl
    by_cases h : j < k
    · rw [if_pos h, if_pos h]
    · rw [if_neg h, if_neg h, pad_nil]
      show (List.replicate 8 zeroSec)[j]? = _
      rw [List.getElem?_replicate, if_pos hj8]
      rfl

theorem Agree.torn {s : List Sec} {wl : List (List UInt8)} {bl : List Bool} (h : Agree s wl bl) (k : Nat) (hk : k < 8) (d : List UInt8) : Agree (s.set k ⟨d, true⟩) (wl.set k []) (bl.set k true) := by
  refine ⟨by simp [h.ls], by simp [h.lw], by simp [h.lb], ?_, ?_⟩
  · intro j hj
    rw [List.getElem?_set] at hj ⊢
    by_cases hkj : k = j
    · subst hkj; simp [h.ls, hk]
    · rw [if_neg hkj] at hj ⊢; exact h.broken j hj
  · intro j l hj hl
    rw [List.getElem?_set] at hj hl ⊢
    by_cases hkj : k = j
    · subst hkj; simp [h.lb, hk] at hj
    · rw [if_neg hkj] at hj hl ⊢; exact h.whole j l hj hl

theorem Agree.done {s : List Sec} {wl : List (List UInt8)} {bl : List Bool} (h : Agree s wl bl) (k : Nat) (hk : k < 8) (b : List UInt8) : Agree (s.set k ⟨pad b, false⟩) (wl.set k b) (bl.set k false) := by
  refine ⟨by simp [h.ls], by simp [h.lw], by simp [h.lb], ?_, ?_⟩
  · intro j hj
    rw [List.getElem?_set] at hj ⊢
    by_cases hkj : k = j
    · subst hkj; simp [h.lb, hk] at hj
    · rw [if_neg hkj] at hj ⊢; exact h.broken j hj
  · intro j l hj hl
    rw [List.getElem?_set] at hj hl ⊢
    by_cases hkj : k = j
    · subst hkj; simp [h.lw, hk] at hl; subst hl; simp [h.ls, hk]
    · rw [if_neg hkj] at hj hl ⊢; exact h.whole j l hj hl

/-- A list of byte slices of the call's own, of eight places. -/
def Want (w0 w : World) (g : Nat) (wl : List (List UInt8)) : Prop :=
  ∃ cur : List Value, w.heap[g]? = some (.cells cur.toArray 23 (0, 0)) ∧ cur.length = wl.length ∧ ∀ (j : Nat) (u : Value) (l : List UInt8), cur[j]? = some u → wl[j]? = some l → Bs w0 w u l

theorem Want.step {w0 w w' : World} {g : Nat} {wl : List (List UInt8)} (h : Want w0 w g wl) (f : Fr (NB w0 w) w w') (hh : w'.heap[g]? = w.heap[g]?) : Want w0 w' g wl := by
  obtain ⟨cur, h1, h2, h3⟩ := h
  exact ⟨cur, hh.trans h1, h2, fun j u l hu hl => (h3 j u l hu hl).step f⟩

theorem Want.next {w0 w w' : World} {g : Nat} {wl : List (List UInt8)} (h : Want w0 w g wl) (f : Fr No w w') : Want w0 w' g wl := by
  obtain ⟨cur, h1, h2, h3⟩ := h
  exact ⟨cur, f.heap0 h1, h2, fun j u l hu hl => (h3 j u l hu hl).next f⟩

theorem Want.wr {w0 w w' : World} {g : Nat} {wl : List (List UInt8)} (h : Want w0 w g wl) (f : Fr (Wr (New w0) w) w w') : Want w0 w' g wl := by
  obtain ⟨cur, h1, h2, h3⟩ := h
  exact ⟨cur, heap_wr f h1 (by decide) (by decide) (by decide), h2, fun j u l hu hl => (h3 j u l hu hl).step (Wr.nb f)⟩

theorem Want.cell {w0 w : World} {g : Nat} {wl : List (List UInt8)} (h : Want w0 w g wl) (j : Nat) (hj : j < wl.length) : (∃ u, w.cell? ⟨g, j, none⟩ = some u ∧ Bs w0 w u wl[j]) ∧ w.frozen? ⟨g, j, none⟩ = false := by
  obtain ⟨cur, h1, h2, h3⟩ := h
  have hj' : j < cur.length := by omega
  refine ⟨⟨cur[j], ?_, h3 j _ _ (List.getElem?_eq_getElem hj') (List.getElem?_eq_getElem hj)⟩, frozen_of_row w g j _ _ h1⟩
  rw [cell_of_row w g j _ _ _ h1]
  simp [hj']

theorem Want.set {w0 w : World} {g : Nat} {wl : List (List UInt8)} (h : Want w0 w g wl) (hg : w0.heap.size ≤ g) (j : Nat) (u : Value) (l : List UInt8) (hb : Bs w0 w u l) : Want w0 (w.setCell ⟨g, j, none⟩ u) g (wl.set j l) ∧ Fr (NB w0 w) w (w.setCell ⟨g, j, none⟩ u) := by
  obtain ⟨cur, h1, h2, h3⟩ := h
  have f : Fr (NB w0 w) w (w.setCell ⟨g, j, none⟩ u) := (Fr.set1 w g j u).nb1 h1 (by decide) hg
  refine ⟨⟨cur.set j u, ?_, by simp [h2], ?_⟩, f⟩
  · rw [heap_setCell_same _ _ _ _ _ _ h1]; simp
  · intro i v m hv hm
    rw [List.getElem?_set] at hv hm
    by_cases hij : j = i
    · subst hij
      simp only [if_true] at hv hm
      split at hv
      · cases hv
        split at hm
        · cases hm; exact hb.step f
        · cases hm
      · cases hv
    · rw [if_neg hij] at hv hm
      exact (h3 i v m hv hm).step f

/-- Bools in a row of the call's own. -/
def Bools (w : World) (g : Nat) (bl : List Bool) : Prop := w.heap[g]? = some (.cells (bl.map Value.bool).toArray 4 (0, 0))

theorem Bools.cell {w : World} {g : Nat} {bl : List Bool} (h : Bools w g bl) (j : Nat) (hj : j < bl.length) : w.cell? ⟨g, j, none⟩ = some (.bool bl[j]) ∧ w.frozen? ⟨g, j, none⟩ = false := by
  refine ⟨?_, frozen_of_row w g j _ _ h⟩
  rw [cell_of_row w g j _ _ _ h]
  simp [hj]

theorem Bools.set {w : World} {g : Nat} {bl : List Bool} (h : Bools w g bl) (j : Nat) (b : Bool) : Bools (w.setCell ⟨g, j, none⟩ (.bool b)) g (bl.set j b) := by
  unfold Bools
  rw [heap_setCell_same _ _ _ _ _ _ h]
  simp

theorem Bools.other {w w' : World} {g g' e : Nat} {cur : Array Value} {fr : Nat × Nat} {bl : List Bool} (h : Bools w g bl) (f : Fr (· = g') w w') (hg : w.heap[g']? = some (.cells cur e fr)) (h1 : e ≠ 4) : Bools w' g bl :=
  f.heap h (ne_of_elem h hg (Ne.symm h1))
theorem Bools.next {w w' : World} {g : Nat} {bl : List Bool} (h : Bools w g bl) (f : Fr No w w') : Bools w' g bl := f.heap0 h
theorem Bools.wr {S : Nat → Prop} {w w' : World} {g : Nat} {bl : List Bool} (h : Bools w g bl) (f : Fr (Wr S w) w w') : Bools w' g bl := heap_wr f h (by decide) (by decide) (by decide)

theorem bit_tmod (x k : Nat) : ((((x : Int) / 2 ^ k).tmod 2) == 1) = x.testBit k := by
  have e : ((x : Int) / 2 ^ k) = ((x / 2 ^ k : Nat) : Int) := by
    have : ((2 : Int) ^ k) = ((2 ^ k : Nat) : Int) := by simp
    rw [this]; rfl
  rw [e, Nat.testBit_eq_decide_div_mod_eq]
  generalize x / 2 ^ k = y
  rw [Int.tmod_eq_emod_of_nonneg (by omega), Bool.eq_iff_iff]
  simp
  omega

theorem bitAt_lt {x k : Nat} (h : k < 64) : bitAt x k = x.testBit k := by unfold bitAt; rw [Nat.mod_eq_of_lt h]

theorem Want.lt {w0 w : World} {g : Nat} {wl : List (List UInt8)} (h : Want w0 w g wl) : g < w.heap.size := by obtain ⟨_, h1, _⟩ := h; exact lt_of_some h1

/-- A bool and a slice are stored. -/
theorem store_bool {w0 w : World} {p gw gb : Nat} {m : Dv} {wl : List (List UInt8)} {bl : List Bool} (h : Own w0 w p m) (hw : Want w0 w gw wl) (hb : Bools w gb bl) (hgb : w0.heap.size ≤ gb) (y : Nat) (bb : Bool) :
    Own w0 (w.setCell ⟨gb, y, none⟩ (.bool bb)) p m ∧ Want w0 (w.setCell ⟨gb, y, none⟩ (.bool bb)) gw wl ∧ Bools (w.setCell ⟨gb, y, none⟩ (.bool bb)) gb (bl.set y bb) := by
  refine ⟨h.other (Fr.set1 _ _ _ _) hb (by decide) (by decide) (by decide) (by decide) hgb, hw.step ((Fr.set1 w gb y _).nb1 hb (by decide) hgb) ?_, hb.set y bb⟩
  obtain ⟨cur, h1, -⟩ := hw
  exact heap_setCell_other _ _ _ _ (ne_of_elem h1 hb (by decide))

theorem store_slice {w0 w : World} {p gw gb : Nat} {m : Dv} {wl : List (List UInt8)} {bl : List Bool} (h : Own w0 w p m) (hw : Want w0 w gw wl) (hb : Bools w gb bl) (hgw : w0.heap.size ≤ gw) (y : Nat) (u : Value) (l : List UInt8) (hu : Bs w0 w u l) :
    Own w0 (w.setCell ⟨gw, y, none⟩ u) p m ∧ Want w0 (w.setCell ⟨gw, y, none⟩ u) gw (wl.set y l) ∧ Bools (w.setCell ⟨gw, y, none⟩ u) gb bl := by
  obtain ⟨cur, h1, h2, h3⟩ := hw
  refine ⟨h.other (Fr.set1 _ _ _ _) h1 (by decide) (by decide) (by decide) (by decide) hgw, (Want.set ⟨cur, h1, h2, h3⟩ hgw y u l hu).1, hb.other (Fr.set1 _ _ _ _) h1 (by decide)⟩

theorem dvS_torn {s : List Sec} {j : Nat} {d : List UInt8} (h : s[j]? = some ⟨d, true⟩) : (dvS s []).seen j = none := by
  unfold Dv.seen
  simp [dvS, lastTo, h]
theorem dvS_seen {s : List Sec} {j : Nat} {d : List UInt8} (h : s[j]? = some ⟨d, false⟩) : (dvS s []).seen j = some d := by
  unfold Dv.seen
  simp [dvS, lastTo, h]

theorem Bs.slice {w0 w : World} {a : Option Addr} {n c : Nat} {l : List UInt8} (h : Bs w0 w (.slice a n c) l) : BytesIn w a l.length l ∧ (a = none → l = [] ∧ c = 0) := by
  obtain ⟨a2, c2, e, h1, h2, -⟩ := h.ex
  cases e
  exact ⟨h1, h2⟩

end Go.Proofs.Ytpimjachhfnlfaa
