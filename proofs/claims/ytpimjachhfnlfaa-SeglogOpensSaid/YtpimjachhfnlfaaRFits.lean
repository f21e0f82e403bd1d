/-
  gazetteerref01.Fits: whether a number has so many bytes. No condition but on the size.
-/
import Derived.Test.YtpimjachhfnlfaaNum
namespace Go.Proofs.Ytpimjachhfnlfaa
open Go.RowKit

set_option maxRecDepth 100000 in
theorem rfits_num (n : Int) (s : Nat) (h1 : 1 ≤ s) (h2 : s ≤ 7) (hr : -9223372036854775808 ≤ n ∧ n ≤ 9223372036854775807) (w : World) : Calls Try.prog 39 #[.int .i64 n, .int .i64 s] w fun e w' => e = .returned (.bool (fitsB n s)) ∧ w' = w := by
  have b1 : (1 : Int) ≤ (s : Int) := by omega
  have b2 : (s : Int) ≤ 7 := by omega
  by_cases hn : 0 ≤ n
  · obtain ⟨x, rfl⟩ := Int.eq_ofNat_of_zero_le hn
    have hx : x ≤ 9223372036854775807 := by omega
    clear hr
    go_enter Try.func39, Try.ntmps39
    go_wp2
    go_loop [0, 5] (fun v i => ∃ k : Nat, k ≤ s ∧ i = .int .i64 k ∧ v = .int .i64 ((x / 256 ^ k : Nat) : Int)) (fun _ i => s - (intOf i).toNat)
    case atStart => exact ⟨0, Nat.zero_le _, rfl, by simp⟩
    case round =>
      obtain ⟨k, hk, rfl, rfl⟩ := hrel
      have hq : x / 256 ^ k ≤ 9223372036854775807 := Nat.le_trans (Nat.div_le_self _ _) hx
      by_cases hlt : k < s
      · have hs : ((x / 256 ^ (k + 1) : Nat) : Int) = ((x / 256 ^ k : Nat) : Int) / 256 := by
          rw [Nat.pow_succ, ← Nat.div_div_eq_div_mul]; simp
        have HS := hid hs
        clear hs
        generalize x / 256 ^ k = y at *
        go_wp2
        go_round
        case rel => exact ⟨k + 1, by omega, by go_num, by rw [HS.out]⟩
        case measure => simp [intOf]; omega
      · obtain rfl : k = s := by omega
        have he : ((((x / 256 ^ k : Nat) : Int)) == 0) = fitsB (x : Int) k := by
          unfold fitsB
          rw [decide_eq_true (by omega : (0 : Int) ≤ (x : Int)), Bool.true_and]
          have := div_zero_iff (x : Int) (8 * k) (by omega)
          rw [← this, int_pow2, Nat.pow_mul, show (2 : Nat) ^ 8 = 256 from rfl, Int.natCast_ediv]
        have HE := hid he
        clear he
        generalize x / 256 ^ k = y at *
        go_wp2
        go_ret
        exact ⟨congrArg (fun b => Ending.returned (.bool b)) HE.out, rfl⟩
  · have hf : fitsB n s = false := by unfold fitsB; rw [decide_eq_false hn, Bool.false_and]
    rw [hf]
    clear hf
    go_enter Try.func39, Try.ntmps39
    go_wp2
    go_ret
    exact ⟨rfl, rfl⟩

end Go.Proofs.Ytpimjachhfnlfaa
