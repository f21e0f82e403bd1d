/-
  slices.Clone of bytes and of sectors: new memory with the same cells. No condition but on the length.
-/
import Derived.Test.YtpimjachhfnlfaaBase
namespace Go.Proofs.Ytpimjachhfnlfaa
open Go.RowKit

theorem info_u8 : (Try.prog.info? 5).map (fun i => (i.zero, i.size, i.bytes)) = some (some (.int .u8 0), 1, 1) := by kernel_rfl

set_option maxRecDepth 100000 in
theorem eql_nil_u8 (w : World) (a : Option Addr) (n c n' c' : Nat) : (binOp .eql 23 (.slice a n c) (.slice none n' c')).run Try.prog w = .ok (.bool a.isNone) w :=
  Lib.run_eql_slice_nil w 23 5 a n c n' c' Try.underlying23

theorem cloneb_nil (w : World) : Calls Try.prog 78 #[.slice none 0 0] w fun e w' => e = .returned (.slice none 0 0) ∧ w' = w := by
  have he := eql_nil_u8
  go_enter Try.func78, Try.ntmps78
  go_wp2
  go_ret
  exact ⟨rfl, rfl⟩

theorem owns_shape2 {w : World} {base e size n : Nat} {v : Value} {xs : List Value} (h : w.ownsRow base e size v n xs) (hv : ¬ v = .slice none 0 0) :
    ∃ g c, v = .slice (some ⟨g, 0, none⟩) n c ∧ Row w g e xs ∧ (n ≤ c ∧ c ≤ maxLen) ∧ base ≤ g := by
  obtain ⟨hl, h2⟩ := h
  rcases h2 with ⟨h2, _⟩ | ⟨g', cap, cur, hv, hb, hg, hn, hm, _, ht⟩
  · exact absurd h2 hv
  · exact ⟨g', cap, hv, ⟨cur, hg, by rw [hl]; exact ht⟩, ⟨hn, hm⟩, hb⟩

set_option maxRecDepth 100000 in
theorem cloneb_any (a : Addr) (l : List UInt8) (n c : Nat) (w : World) (hn : l.length = n) (hl : n ≤ 140737488355328) (hc : ∀ j u, (bvs l)[j]? = some u → w.cell? (a.add j) = some u) :
    Calls Try.prog 78 #[.slice (some a) n c] w fun e w' => ∃ g c', e = .returned (.slice (some ⟨g, 0, none⟩) n c') ∧ Row w' g 5 (bvs l) ∧ (n ≤ c' ∧ c' ≤ maxLen) ∧ w.heap.size ≤ g ∧ Fr No w w' := by
  obtain ⟨i, hi, hz0, hz1, hz2⟩ := info_parts info_u8
  have HC := hid hc
  have HN := hid hn
  clear hc hn
  have he := eql_nil_u8
  go_enter Try.func78, Try.ntmps78
  go_wp2_with (at_builtin; go_must (refine wpList_append_own _ rfl _ _ 23 rfl w.heap.size 5 i (.int .u8 0) 1 1 Try.underlying23 hi hz0 hz1 hz2 rfl (by decide) _ 0 [] rfl (World.ownsRow_made w #[] 0 (Nat.le_refl _) (by decide) (by simp)) a n c (bvs l) rfl (by simp [bvs, HN.out]) ?c1 (bvs_one l) (by unfold maxLen; omega) (by omega) (by simp) ?_))
  case c1 =>
    intro j u hu
    have := HC.out j u hu
    rw [World.cell?_alloc_lt _ _ _ (block_lt_of_cell this)]
    exact this
  intro v' w1 hown hg hv
  try simp only [Nat.zero_add, List.nil_append] at hown
  obtain ⟨g, c', rfl, hrow, hn', hb⟩ := owns_shape2 hown hv
  have f : Fr No w w1 := (Fr.alloc (S := No) w _).trans (Fr.grown (S := fun k => k = w.heap.size) hg (fun k hk => by cases hk; exact .inl rfl)) (fun i hi => .inr (by rw [hi]; exact Nat.le_refl _))
  clear hown hv hg
  go_wp2
  go_ret
  exact ⟨g, c', rfl, hrow, hn', hb, f⟩

end Go.Proofs.Ytpimjachhfnlfaa
