/-
  gazetteerlaw11.answers and SeglogRound, walked. No condition.
-/
import Derived.Test.YtpimjachhfnlfaaSRoundLaw
import Derived.Test.YtpimjachhfnlfaaSAppend0
import Derived.Test.YtpimjachhfnlfaaSDrop
namespace Go.Proofs.Ytpimjachhfnlfaa
open Go.RowKit

/-- Append of a record, empty or not. -/
theorem append_any {w0 w : World} {q p : Nat} {m : Dv} {L : Lg} (bb bo n c : Nat) (b : List UInt8) (h : OwnL w0 w q p m L) (h1 : L.down = false) (h2 : m.down = false) (h3 : 3 ≤ m.sure.length) (hn : n ≤ 16384) (hr : (partsN n : Nat) ≤ L.room m) (hc : n ≤ c)
    (hb : ∀ W, Fr (LW w0 w) w W → BytesIn W (some ⟨bb, bo, none⟩) n b) (he : L.blk.epoch < 4294967296) (hsq : L.blk.first + L.list.length < 72057594037927936) (few : m.unsure.length + 40 < 1099511627776) (hfb : L.fin + 40 < 1152921504606846976) (hmb : L.list.length + 1 < 1099511627776) :
    Calls Try.prog 67 #[.pointer (some ⟨q, 0, none⟩), .slice (some ⟨bb, bo, none⟩) n c] w fun e w' => e = .returned (.tuple #[.int .i64 (appendM m L b).2.2.1, .int .i64 (appendM m L b).2.2.2]) ∧ OwnL w0 w' q p (appendM m L b).1 (appendM m L b).2.1 ∧ Fr (LW w0 w) w w' := by
  by_cases h0 : n = 0
  · subst h0
    have : b = [] := List.eq_nil_of_length_eq_zero (hb w (Fr.refl _ _)).len
    subst this
    exact append_empty bb bo c h h1 h2 h3 (by have : partsN 0 = 1 := rfl; omega) he hsq few hfb hmb
  · exact append_ok _ n c b h h1 h2 h3 hn hr hc (by omega) hb he hsq few hfb hmb

/-- A call of Append, in a log of the round. -/
theorem round_append {w0 w : World} {q p N i : Nat} {m : Dv} {L : Lg} (g n c : Nat) (b : List UInt8) (h : OwnL w0 w q p m L) (hi : RInv N m L i) (hn : n < 1900) (hr : (partsN n : Nat) ≤ L.room m) (hc : n ≤ c) (hb : Row w g 5 (bvs b)) (hl : b.length = n) (hi1 : i + 1 ≤ 70) :
    Calls Try.prog 67 #[.pointer (some ⟨q, 0, none⟩), .slice (some ⟨g, 0, none⟩) n c] w fun e w' => e = .returned (.tuple #[.int .i64 i, .int .i64 0]) ∧
      ∃ m' L', OwnL w0 w' q p m' L' ∧ RInv N m' L' (i + 1) ∧ Row w' g 5 (bvs b) ∧ Fr (LW w0 w) w w' ∧
        ∃ k, ∃ hk : k < L'.list.length, (i : Int) = (L'.blk.first : Int) + (k : Int) ∧ (L'.list[k]).2 ≤ 255 ∧ readM m' (L'.list[k]).1 (L'.list[k]).2 = some b := by
  have hnum := hi.num
  have h70 := hi.i70
  have hfin := hi.fin
  have hfew := hi.few
  have hlen := hi.len
  have hn4 := hi.n4
  have H := append_any g 0 n c b h hi.down hi.live.up (by omega) (by omega) hr hc (fun W f => (hb.lw f).bytes hl) (by rw [hi.ep]; decide) (by omega) (by omega) (by omega) (by omega)
  refine H.mono fun e w' hh => ?_
  obtain ⟨he, ho, hf⟩ := hh
  obtain ⟨a1, a2, a3, a4, a5, a6⟩ := hi.append (b := b) (by omega) (by rw [hl]; exact hr) hi1
  rw [a1, a2, hnum] at he
  refine ⟨he, _, _, ho, a3, hb.lw hf, hf, L.list.length, by rw [a4, List.length_append]; exact Nat.lt_succ_self _, ?_, ?_, ?_⟩
  · rw [a5]; omega
  · have e : (appendM m L b).2.1.list[L.list.length]? = some (L.fin, partsN b.length) := by rw [a4]; simp
    obtain ⟨hk, e⟩ := List.getElem?_eq_some_iff.1 e
    rw [e]
    show partsN b.length ≤ 255
    unfold partsN
    omega
  · have e : (appendM m L b).2.1.list[L.list.length]? = some (L.fin, partsN b.length) := by rw [a4]; simp
    obtain ⟨hk, e⟩ := List.getElem?_eq_some_iff.1 e
    rw [e]
    exact a6

/-- A call of Read, of the record that was appended. -/
theorem round_read {w0 w : World} {q p N i : Nat} {m : Dv} {L : Lg} {b : List UInt8} (x : Int) (h : OwnL w0 w q p m L) (hi : RInv N m L i) (hx : ∃ k, ∃ hk : k < L.list.length, x = (L.blk.first : Int) + (k : Int) ∧ (L.list[k]).2 ≤ 255 ∧ readM m (L.list[k]).1 (L.list[k]).2 = some b) :
    Calls Try.prog 68 #[.pointer (some ⟨q, 0, none⟩), .int .i64 x] w fun e w' => Fr No w w' ∧ ∃ a n c, e = .returned (.tuple #[.slice a n c, .int .i64 0]) ∧ BytesIn w' a n b := by
  obtain ⟨k, hk, rfl, h255, hm⟩ := hx
  have hfew := hi.few
  have h70 := hi.i70
  have hlen := hi.len
  have hn4 := hi.n4
  exact lread_ok k h hi.down hi.live.up (by omega) (by omega) hk h255 b hm

/-- A call of Drop, in a log of the round. -/
theorem round_drop {w0 w : World} {q p N i : Nat} {m : Dv} {L : Lg} (h : OwnL w0 w q p m L) (hi : RInv N m L i) (h1 : 1 ≤ L.list.length) :
    Calls Try.prog 65 #[.pointer (some ⟨q, 0, none⟩), .int .i64 ((L.blk.first : Int) + 1)] w fun e w' => e = .returned (.int .i64 0) ∧
      ∃ m' L', OwnL w0 w' q p m' L' ∧ RInv N m' L' i ∧ L'.list.length + 1 = L.list.length ∧ Fr (LW w0 w) w w' := by
  have hnum := hi.num
  have h70 := hi.i70
  have hfew := hi.few
  have hlen := hi.len
  have hn4 := hi.n4
  have H := drop_any 1 h hi.down hi.live.up (by omega) (by omega) h1 (hi.fit h1).1 (hi.fit h1).2 (hi.small h1 h.small)
  refine Calls.mono H fun e w' hh => ?_
  obtain ⟨he, ho, hf⟩ := hh
  have hwf : m.Wf := by obtain ⟨S, hd, -⟩ := h.dev; exact hd.wf
  obtain ⟨d1, d2, d3⟩ := hi.drop hwf h1
  rw [d1] at he
  exact ⟨he, _, _, ho, d2, d3, hf⟩

set_option maxRecDepth 100000 in
set_option maxHeartbeats 2000000 in
theorem answers11_any (w : World) : Calls Try.prog 62 #[] w fun e w' => e = .returned (.bool true) ∧ Fr No w w' := by
  go_enter Try.func62, Try.ntmps62
  go_wp2_with fail
  refine (own_new 8 w w (Fr.refl _ _) (by decide) (by decide)).mono ?_
  rintro e w1 ⟨p, rfl, ho1, hf1⟩
  have O1 := hid ho1
  clear ho1 hf1
  go_wp2_with fail
  refine (lopen_new 8 O1.out (by decide) (by decide)).mono ?_
  rintro e w2 ⟨q, rfl, ho2, hf2⟩
  have O2 := hid ho2
  clear ho2 hf2
  go_wp2_with fail
  have R2 : Hid (RInv 8 (Dv.first 8) Lg.new 0) := RInv.start (by decide)
  have B2 : Hid (Row (w2.alloc (.cells #[.int .u8 5] 5)) w2.heap.size 5 (bvs [5])) := ⟨#[.int .u8 5], heap_alloc_new _ _, rfl⟩
  have O3 := hid (O2.out.next (Fr.alloc w2 (.cells #[.int .u8 5] 5)))
  refine (round_append (i := 0) w2.heap.size 1 1 [5] O3.out R2.out (by decide) (by rw [R2.out.room]; decide) (Nat.le_refl _) B2.out rfl (by decide)).mono ?_
  rintro e w4 ⟨rfl, m', L', ho4, hi4, hr4, hf4, hk4⟩
  have O4 := hid ho4
  have I4 := hid hi4
  have K4 := hid hk4
  clear ho4 hi4 hr4 hf4 hk4
  go_wp2_with fail
  refine (round_read (b := [5]) 0 O4.out I4.out K4.out).mono ?_
  rintro e w5 ⟨hf5, a, n, c, rfl, hb5⟩
  have F5 := hid (O4.out.fr.step hf5)
  obtain rfl : n = 1 := hb5.len.symm
  obtain ⟨bb, bo, rfl, hc⟩ := hb5.at (by decide)
  have c0 := hc 0 _ rfl
  have c0 : w5.cell? ⟨bb, bo, none⟩ = some (.int .u8 5) := c0
  clear hf5 hb5 hc
  go_wp2_with fail
  go_ret
  exact ⟨rfl, F5.out⟩

end Go.Proofs.Ytpimjachhfnlfaa
