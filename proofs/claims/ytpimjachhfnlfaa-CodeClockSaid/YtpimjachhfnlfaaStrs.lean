/-
  Lists of strings in memory; sound names. No condition.
-/
import Derived.Test.YtpimjachhfnlfaaBytes
import Derived.SliceStrings
namespace Go.Proofs.Ytpimjachhfnlfaa
open Go.ChangeShapes Go.WideShapes Go.ChangeAt Go.RowKit

/-- A slice of strings. -/
structure StrIn (w : World) (a : Option Addr) (n : Nat) (ls : List ByteArray) : Prop where
  len : ls.length = n
  nil : a = none → n = 0
  cell : ∀ ad, a = some ad → ∀ j s, ls[j]? = some s → w.cell? (ad.add j) = some (.string s)

theorem StrIn.at {w : World} {a : Option Addr} {n : Nat} {l : List ByteArray} (h : StrIn w a n l) (hn : 0 < n) :
    ∃ b o, a = some ⟨b, o, none⟩ ∧ b < w.heap.size ∧ ∀ j s, l[j]? = some s → w.cell? ⟨b, o + j, none⟩ = some (.string s) := by
  cases a with
  | none => have := h.nil rfl; omega
  | some ad =>
    obtain ⟨b, o, s⟩ := ad
    have h0 : ∃ u, l[0]? = some u := ⟨_, List.getElem?_eq_getElem (by rw [h.len]; exact hn)⟩
    obtain ⟨u, hu⟩ := h0
    have h1 := h.cell _ rfl 0 u hu
    have hs : s = none := by simpa [Addr.add] using World.cell?_spot h1
    subst hs
    refine ⟨b, o, rfl, ?_, fun j u hu => ?_⟩
    · have := block_lt_of_cell h1
      rwa [add_block] at this
    · have := h.cell _ rfl j u hu
      rwa [Addr.add_lit] at this

theorem StrIn.fr {S : Nat → Prop} {w w' : World} {a : Option Addr} {n : Nat} {l : List ByteArray} (h : StrIn w a n l) (f : Fr S w w') (hn : ∀ ad, a = some ad → ¬ S ad.block) : StrIn w' a n l :=
  ⟨h.len, h.nil, fun ad had j s hs => f.cell (h.cell ad had j s hs) (by rw [add_block]; exact hn ad had)⟩

theorem StrIn.fr0 {w w' : World} {a : Option Addr} {n : Nat} {l : List ByteArray} (h : StrIn w a n l) (f : Fr No w w') : StrIn w' a n l := h.fr f fun _ _ => id

theorem StrIn.nothing (w : World) : StrIn w none 0 [] := ⟨rfl, fun _ => rfl, fun ad h => by cases h⟩

theorem cells_str : Try.prog.cellsOf 9 = 1 := by kernel_rfl

set_option maxRecDepth 100000 in
theorem strs_of_trod {H : Type} {enc : TypeId × Value → H} {W : World} {v : Value} {d : DataW H} {ps : List MemPlace} {base : Nat} (hw : Value.okWide Try.prog W .any base 74 v) (h : DataW.Trod enc Try.prog W 0 (fun _ => true) true 74 v d ps) :
    ∃ a n c l, v = .slice a n c ∧ StrIn W a n l ∧ (a = none → n = 0 ∧ c = 0) ∧ n ≤ c ∧ c ≤ maxLen ∧ ∀ s ∈ l, s.size ≤ maxLen := by
  obtain ⟨a0, len, cap, rfl⟩ := okWide_slice Try.underlying74 hw
  obtain ⟨fuel, hf⟩ := h
  rcases open_strings Try.underlying74 Try.underlying9 cells_str hf with ⟨hcs, hx⟩ | ⟨a, len', cap', ss, hcs, _, hl, hm, hz, hx, hcell, hss⟩
  · simp [Value.cells] at hcs
    obtain ⟨rfl, rfl, rfl⟩ := hcs
    exact ⟨none, 0, 0, [], rfl, StrIn.nothing W, (fun _ => ⟨rfl, rfl⟩), Nat.le_refl _, Nat.zero_le _, fun s hs => by cases hs⟩
  · simp [Value.cells] at hcs
    obtain ⟨rfl, rfl, rfl⟩ := hcs
    simp only [if_true] at hz
    refine ⟨some a, len, cap, ss.take len, rfl, ⟨by rw [List.length_take]; omega, (fun e => by cases e), ?_⟩, (fun e => by cases e), hl, hm, fun s hs => hss s (List.mem_of_mem_take hs)⟩
    intro ad had j s hs
    cases had
    have hj := (List.getElem?_eq_some_iff.1 hs).1
    rw [List.length_take] at hj
    rw [hcell j (by omega)]
    rw [List.getElem?_take, if_pos (by omega)] at hs
    simp [List.getD, hs]

/-! ### Sound names -/

/-- May it be a label? -/
def goodL (s : ByteArray) : Bool := decide (1 ≤ s.size) && decide (s.size ≤ 63)

/-- How many bytes a name takes. -/
def sizeN (l : List ByteArray) : Nat := 1 + (l.map fun s => s.size + 1).sum

/-- May it be a name? -/
def soundB (l : List ByteArray) : Bool := l.all goodL && decide (sizeN l ≤ 255)

theorem sizeN_take (l : List ByteArray) (j : Nat) (h : j < l.length) : sizeN (l.take (j + 1)) = sizeN (l.take j) + (l[j].size + 1) := by
  unfold sizeN
  rw [List.take_succ_eq_append_getElem h, List.map_append, List.sum_append_nat]
  simp
  omega

theorem sizeN_le (l : List ByteArray) (h : ∀ s ∈ l, s.size ≤ 63) : sizeN l ≤ 1 + 64 * l.length := by
  induction l with
  | nil => exact Nat.le_refl _
  | cons s l ih =>
    have h1 := ih (fun x hx => h x (List.mem_cons_of_mem _ hx))
    have h2 := h s List.mem_cons_self
    unfold sizeN at *
    simp only [List.map_cons, List.sum_cons, List.length_cons]
    omega

theorem sizeN_ge (l : List ByteArray) (h : ∀ s ∈ l, 1 ≤ s.size) : 1 + 2 * l.length ≤ sizeN l := by
  induction l with
  | nil => exact Nat.le_refl _
  | cons s l ih =>
    have h1 := ih (fun x hx => h x (List.mem_cons_of_mem _ hx))
    have h2 := h s List.mem_cons_self
    unfold sizeN at *
    simp only [List.map_cons, List.sum_cons, List.length_cons]
    omega

theorem goodL_iff (s : ByteArray) : goodL s = true ↔ 1 ≤ s.size ∧ s.size ≤ 63 := by simp [goodL]

theorem soundB_few {l : List ByteArray} (h : soundB l = true) : l.length ≤ 127 := by
  unfold soundB at h
  simp only [Bool.and_eq_true, List.all_eq_true, decide_eq_true_eq] at h
  have := sizeN_ge l (fun s hs => ((goodL_iff s).1 (h.1 s hs)).1)
  omega

theorem StrIn.drewN {w : World} {a : Option Addr} {n : Nat} {l : List ByteArray} (h : StrIn w a n l) (k : Nat) : StrIn (w.drewN k) a n l := h.fr0 (Fr.drewN w k)

end Go.Proofs.Ytpimjachhfnlfaa
