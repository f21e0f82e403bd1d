/-
  gazetteerlaw10.answers and SuperNil. No condition.
-/
import Derived.Test.YtpimjachhfnlfaaSaveLaw
namespace Go.Proofs.Ytpimjachhfnlfaa
open Go.RowKit

def blk5 : Blk := ⟨0, 5, 0, 0, 0⟩
theorem blk5_fit : blk5.Fit := ⟨by decide, by decide, by decide, by decide, by decide⟩

theorem own_save {w0 w : World} {p : Nat} {m : Dv} (b : Blk) (h : Own w0 w p m) (hl : Live m) (hu : m.unsure = []) (hk : 2 ≤ m.sure.length) (hfit : b.Fit) (hg : nextGen (loadM m) b.gen) :
    Calls Try.prog 38 #[.pointer (some ⟨p, 0, none⟩), b.val] w fun e w' => e = .returned (.int .i64 0) ∧ Own w0 w' p (m.put b) ∧ Fr (Wr (New w0) w) w w' := by
  have := save_any b h hl.up hk (by rw [hu]; decide) hfit hg
  rw [saved_live hl hu hk b] at this
  exact this

theorem load_put {m : Dv} (hu : m.unsure = []) (hk : 2 ≤ m.sure.length) {b : Blk} (hf : b.Fit) (hg : nextGen (loadM m) b.gen) : loadM (m.put b) = some b := by
  have h0 := blkAt_put hu hf (k := 0) (by omega)
  have h1 := blkAt_put hu hf (k := 1) (by omega)
  show better (better none (blkAt (m.put b) 0)) (blkAt (m.put b) 1) = some b
  have hl : loadM m = better (blkAt m 0) (blkAt m 1) := rfl
  rw [hl] at hg
  rw [h0, h1]
  rcases Nat.mod_two_eq_zero_or_one b.gen with e | e
  · rw [e, if_pos rfl, if_neg (by decide)]
    cases h : blkAt m 1 with
    | none => rfl
    | some c =>
      have hc : c.gen ≤ b.gen := by
        rw [h] at hg
        cases h' : blkAt m 0 with
        | none => rw [h'] at hg; simp only [better, nextGen] at hg; omega
        | some a =>
          rw [h'] at hg
          simp only [better] at hg
          split at hg <;> simp only [nextGen] at hg <;> omega
      show (if b.gen < c.gen then some c else some b) = some b
      rw [if_neg (by omega)]
  · rw [e, if_neg (by decide), if_pos rfl]
    cases h : blkAt m 0 with
    | none => rfl
    | some a =>
      have ha : a.gen < b.gen := by
        rw [h] at hg
        cases h' : blkAt m 1 with
        | none => rw [h'] at hg; simp only [better, nextGen] at hg; omega
        | some c =>
          rw [h'] at hg
          simp only [better] at hg
          split at hg <;> simp only [nextGen] at hg <;> omega
      show (if a.gen < b.gen then some b else some a) = some b
      rw [if_pos ha]

set_option maxRecDepth 100000 in
set_option maxHeartbeats 1000000 in
theorem answers10_any (w : World) : Calls Try.prog 37 #[] w fun e w' => e = .returned (.bool true) ∧ Fr No w w' := by
  go_enter Try.func37, Try.ntmps37
  go_wp2_with fail
  refine (own_new 2 w w (Fr.refl _ _) (by decide) (by decide)).mono ?_
  rintro e w1 ⟨p, rfl, ho1, hf1⟩
  have O1 := hid ho1
  clear ho1 hf1
  go_wp2_with fail
  refine (own_save blk5 O1.out (zero_live 2) rfl (by rw [new_zero_len]; decide) blk5_fit (by rw [load_zero 2 (by decide)]; rfl)).mono ?_
  rintro e w2 ⟨rfl, ho2, hf2⟩
  have O2 := hid ho2
  clear ho2 hf2
  go_wp2_with fail
  refine (load_any O2.out (put_live (zero_live 2) _).up (by rw [put_len, new_zero_len]; decide) (by decide)).mono ?_
  rintro e w3 ⟨rfl, hf3⟩
  have F3 := hid (O2.out.fr.step hf3)
  rw [load_put rfl (by rw [new_zero_len]; decide) blk5_fit (by rw [load_zero 2 (by decide)]; rfl)]
  clear hf3
  unfold Option.getD Blk.val intv loadCode blk5
  go_wp2_with fail
  go_ret
  exact ⟨rfl, F3.out.step (Fr.alloc _ _)⟩

end Go.Proofs.Ytpimjachhfnlfaa
