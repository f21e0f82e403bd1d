/-
  The device's Read: what was written last, or what is sure. No condition.
-/
import Derived.Test.YtpimjachhfnlfaaDev2
import Derived.Test.YtpimjachhfnlfaaClone
namespace Go.Proofs.Ytpimjachhfnlfaa
open Go.RowKit

/-- The last write to a place. -/
def lastTo (l : List (Nat × List UInt8)) (pos : Nat) : Option (List UInt8) := (l.reverse.find? fun u => u.1 == pos).map (·.2)

/-- What Read finds at a place that is there; none: it is torn. -/
def Dv.seen (m : Dv) (pos : Nat) : Option (List UInt8) :=
  match lastTo m.unsure pos with
  | some b => some b
  | none => match m.sure[pos]? with
    | some s => if s.torn then none else some s.data
    | none => none

theorem DevAt.shape {w : World} {p bs : Nat} {uv : Value} {us : List UW} {m : Dv} (h : DevAt w p bs uv us m) :
    (uv = .slice none 0 0 ∧ us = []) ∨ ∃ ub c, uv = .slice (some ⟨ub, 0, none⟩) us.length c ∧ Row w ub 57 (us.flatMap UW.cells) := by
  rcases h.list.2 with ⟨h1, h2⟩ | ⟨g, cap, cur, h1, _, hg, _, _, _, ht⟩
  · exact .inl ⟨h1, List.eq_nil_of_length_eq_zero h2⟩
  · exact .inr ⟨g, cap, h1, cur, hg, by rw [h.list.1]; exact ht⟩

theorem uw_at {us : List UW} (j : Nat) (hj : j < us.length) : (us.flatMap UW.cells)[j * 2]? = some (.int .i64 (us[j]).pos) ∧ (us.flatMap UW.cells)[j * 2 + 1]? = some (.slice (some ⟨(us[j]).g, 0, none⟩) 512 (us[j]).c) := by
  have h0 := getElem?_flatMap_fixed us UW.cells 2 (fun _ _ => rfl) j 0 (by decide)
  have h1 := getElem?_flatMap_fixed us UW.cells 2 (fun _ _ => rfl) j 1 (by decide)
  rw [List.getElem?_eq_getElem hj] at h0 h1
  exact ⟨h0, h1⟩

theorem lastTo_none {us : List UW} {pos : Nat} (h : ∀ j (hj : j < us.length), (us[j]).pos ≠ pos) : lastTo (us.map UW.pair) pos = none := by
  unfold lastTo
  rw [Option.map_eq_none_iff, List.find?_eq_none]
  intro x hx
  rw [List.mem_reverse, List.mem_map] at hx
  obtain ⟨u, hu, rfl⟩ := hx
  obtain ⟨j, hj, rfl⟩ := List.getElem_of_mem hu
  simpa [UW.pair] using h j hj

theorem lastTo_some {us : List UW} {pos : Nat} (j : Nat) (hj : j < us.length) (e : (us[j]).pos = pos) (h : ∀ i (hi : i < us.length), j < i → (us[i]).pos ≠ pos) : lastTo (us.map UW.pair) pos = some (us[j]).data := by
  unfold lastTo
  have hs : us.map UW.pair = (us.take j).map UW.pair ++ (UW.pair us[j] :: (us.drop (j + 1)).map UW.pair) := by
    rw [← List.map_cons, ← List.map_append, ← List.drop_eq_getElem_cons hj, List.take_append_drop]
  have hn : ((us.drop (j + 1)).map UW.pair).reverse.find? (fun u => u.1 == pos) = none := by
    rw [List.find?_eq_none]
    intro x hx
    rw [List.mem_reverse, List.mem_map] at hx
    obtain ⟨u, hu, rfl⟩ := hx
    obtain ⟨i, hi, rfl⟩ := List.getElem_of_mem hu
    rw [List.getElem_drop]
    rw [List.length_drop] at hi
    simpa [UW.pair] using h (j + 1 + i) (by omega) (by omega)
  rw [hs, List.reverse_append, List.reverse_cons, List.find?_append, List.find?_append, hn]
  simp [UW.pair, e]

theorem read_nil (pos : Int) (w : World) : Calls Try.prog 23 #[.pointer none, .int .i64 pos] w fun e w' => e = .returned (.tuple #[.slice none 0 0, .int .i64 1]) ∧ w' = w := by
  go_enter Try.func23, Try.ntmps23
  go_wp2_with (go_at_call 75; refine (check_nil _ _).mono ?_; rintro e w' ⟨rfl, rfl⟩)
  go_ret2
  exact ⟨rfl, rfl⟩

theorem code_cases (m : Dv) (pos : Int) : m.code pos = 8 ∨ m.code pos = 1 ∨ m.code pos = 0 := by
  unfold Dv.code
  split
  · exact .inl rfl
  · split
    · exact .inr (.inl rfl)
    · split
      · exact .inr (.inl rfl)
      · exact .inr (.inr rfl)

theorem read_err {S : Nat → Prop} {p : Nat} {m : Dv} (pos : Int) (w : World) (hd : Dev w S p m) (hc : m.code pos ≠ 0) :
    Calls Try.prog 23 #[.pointer (some ⟨p, 0, none⟩), .int .i64 pos] w fun e w' => e = .returned (.tuple #[.slice none 0 0, .int .i64 (m.code pos)]) ∧ w' = w := by
  have hK := fun w' (h : w' = w) => check_any pos w' (h ▸ hd)
  have HK := hid hK
  have hq : ((m.code pos : Int) != 0) = true := by simpa using hc
  clear hK hd hc
  generalize m.code pos = q at *
  go_enter Try.func23, Try.ntmps23
  go_wp2_with (go_at_call 75; refine (HK.out _ rfl).mono ?_; rintro e w' ⟨rfl, rfl⟩)
  go_ret2
  exact ⟨rfl, rfl⟩

theorem code_zero {m : Dv} {pos : Int} (h : m.code pos = 0) : m.down = false ∧ ∃ k : Nat, pos = k ∧ k < m.sure.length := by
  unfold Dv.code at h
  split at h
  · omega
  · rename_i h0
    split at h
    · omega
    · split at h
      · omega
      · exact ⟨by simpa using h0, pos.toNat, by omega, by omega⟩

end Go.Proofs.Ytpimjachhfnlfaa
