/-
  The answers that the flash laws ask first. No condition.
-/
import Derived.Test.YtpimjachhfnlfaaLive
namespace Go.Proofs.Ytpimjachhfnlfaa
open Go.RowKit

set_option maxRecDepth 100000 in
theorem answers_any (w : World) : Calls Try.prog 19 #[] w fun e w' => e = .returned (.bool true) ∧ Fr No w w' := by
  go_enter Try.func19, Try.ntmps19
  go_wp2_with (first
    | (go_at_call 18; go_must (refine (own_new 2 w _ (Fr.refl _ _) (by decide) (by decide)).mono ?_); rintro e w1 ⟨p, rfl, hd, hf⟩; have HD := hid (hd.next (Fr.alloc w1 (.cells #[.int .u8 7] 5))); have HB := hid (BytesIn.lit w1 [7] 1 rfl #[.int .u8 7] rfl); clear hd hf)
    | (go_at_call 20; go_must (refine (own_write 1 _ 1 _ [7] HD.out (zero_live 2) (by rw [new_zero_len]; decide) (by decide) (by decide) HB.out).mono ?_); rintro e w2 ⟨rfl, hd2, hf2⟩; have HD2 := hid hd2; clear hd2 hf2)
    | (go_at_call 23; go_must (refine (own_read 1 _ HD2.out ((zero_live 2).add _ _) (by show 1 < (Dv.zero 2).sure.length; rw [new_zero_len]; decide) (by decide) (seen_add_same _ _ _)).mono ?_); rintro e w3 ⟨g, c, rfl, hr, hc, hg, hf⟩; have c0 := hr.cell 0 (.int .u8 7) rfl; have HF3 := hid (HD2.out.fr.step hf); clear hr hf))
  go_ret
  exact ⟨rfl, HF3.out⟩
end Go.Proofs.Ytpimjachhfnlfaa
