/-
  Plain laws of chapter 10: bytes of a block are a block. No program in sight.
-/
import Derived.Test.YtpimjachhfnlfaaSave
namespace Go.Proofs.Ytpimjachhfnlfaa
open Go.RowKit

theorem ofBe_take (s x : Nat) (hx : x < 2 ^ (8 * s)) : ∀ j, j ≤ s → ofBe ((be s x).take j) = x / 2 ^ (8 * (s - j))
  | 0, _ => by
    rw [List.take_zero, Nat.sub_zero, Nat.div_eq_of_lt hx]
    rfl
  | j + 1, h => by
    rw [be_take s x j (by omega), ofBe_snoc, ofBe_take s x hx j (by omega), UInt8.toNat_ofNat']
    have e : 8 * (s - j) = 8 * (s - 1 - j) + 8 := by omega
    have e2 : 8 * (s - (j + 1)) = 8 * (s - 1 - j) := by omega
    rw [e, e2, Nat.pow_add, ← Nat.div_div_eq_div_mul, show 2 ^ 8 = 256 from rfl]
    omega

theorem ofBe_be {s x : Nat} (hx : x < 2 ^ (8 * s)) : ofBe (be s x) = x := by
  have h := ofBe_take s x hx s (Nat.le_refl _)
  rw [List.take_of_length_le (by rw [be_len]; exact Nat.le_refl _), Nat.sub_self, Nat.mul_zero, Nat.pow_zero, Nat.div_one] at h
  exact h

set_option maxRecDepth 100000 in
theorem heads_seal {h : Hd} {d : List UInt8} (hf : h.Fit) (hd : d.length < 2 ^ (8 * 2)) : heads (sealB h d) = h.row d.length := by
  have e : heads (sealB h d) = [ofBe (be 1 h.kind), ofBe (be 4 h.epoch), ofBe (be 7 h.seq), ofBe (be 1 h.part), ofBe (be 1 h.parts), ofBe (be 2 d.length)] := rfl
  rw [e, ofBe_be hf.kind, ofBe_be hf.epoch, ofBe_be hf.seq, ofBe_be hf.part, ofBe_be hf.parts, ofBe_be hd]
  rfl

theorem seal_data (h : Hd) (d : List UInt8) : ((sealB h d).drop 16).take d.length = d := by
  have e : (sealB h d).drop 16 = d ++ List.replicate (496 - d.length) 0 := rfl
  rw [e, List.take_left]

theorem opened_seal {h : Hd} {d : List UInt8} (hf : h.Fit) (hb : h.bad = false) (hd : d.length ≤ 496) : opened (sealB h d) = some (h, d) := by
  have hh := heads_seal hf (Nat.lt_of_le_of_lt hd (by decide))
  have h1 : hdOf (sealB h d) = h := by unfold hdOf; rw [hh]; rfl
  have h2 : lenOf (sealB h d) = d.length := by unfold lenOf; rw [hh]; rfl
  unfold opened
  rw [h1, h2, seal_data, if_pos ⟨hd, hb, rfl⟩]

theorem opened_zero : opened (List.replicate 512 0) = none := by
  unfold opened
  rw [if_neg]
  rintro ⟨_, h, _⟩
  revert h
  decide +kernel

theorem blkNums_bytes {b : Blk} (h : b.Fit) : blkNums (bbytes b 5) = b := by
  have e : blkNums (bbytes b 5) = ⟨ofBe (be 7 b.gen), ofBe (be 7 b.epoch), ofBe (be 7 b.first), ofBe (be 7 b.from_), ofBe (be 7 b.count)⟩ := rfl
  rw [e, ofBe_be h.gen, ofBe_be h.epoch, ofBe_be h.first, ofBe_be h.from_, ofBe_be h.count]

theorem blkOf_sec {b : Blk} (h : b.Fit) (at_ : Nat) : blkOf at_ (blkSec b) = if b.gen % 2 = at_ then some b else none := by
  have ho : opened (blkSec b) = some (superHd, bbytes b 5) := opened_seal superHd_fit (by decide) (by rw [bbytes_len b (Nat.le_refl _)]; decide)
  rw [blkOf_some ho (bbytes_len b (Nat.le_refl _)), blkNums_bytes h]

theorem blkOf_zero (at_ : Nat) : blkOf at_ (List.replicate 512 0) = none := blkOf_none opened_zero

/-! ### What a Save does to the two places -/

theorem blkAt_clean {m : Dv} (h : m.unsure = []) {k : Nat} (hk : k < m.sure.length) : blkAt m k = if (m.sure[k]).torn then none else blkOf k (m.sure[k]).data := by
  unfold blkAt
  rw [seen_clean h hk]
  split <;> rfl

theorem pad_sec (b : Blk) : pad (blkSec b) = blkSec b := by
  unfold pad
  rw [blkSec_len]
  simp

/-- The device behind a Save that is done. -/
def Dv.put (m : Dv) (b : Blk) : Dv := { m with sure := m.sure.set (b.gen % 2) ⟨blkSec b, false⟩ }

theorem saved_live {m : Dv} (hl : Live m) (hu : m.unsure = []) (hk : 2 ≤ m.sure.length) (b : Blk) : m.saved b = (m.put b, 0) := by
  have hs : m.sync = (m, 0) := by
    rw [hl.sync, hu]
    cases m
    simp only [Prod.mk.injEq, and_true]
    simp only at hu
    subst hu
    rfl
  have hb2 : b.gen % 2 < m.sure.length := by omega
  unfold Dv.saved
  rw [hs, hl.write hb2 (by rw [blkSec_len]; decide), if_neg (by simp), if_neg (by simp), (hl.add _ _).sync]
  unfold Dv.add Dv.put settleAll
  rw [hu, pad_sec]
  rfl

theorem put_live {m : Dv} (h : Live m) (b : Blk) : Live (m.put b) := ⟨h.up, h.free⟩
theorem put_len (m : Dv) (b : Blk) : (m.put b).sure.length = m.sure.length := by simp [Dv.put]

theorem blkAt_put {m : Dv} (hu : m.unsure = []) {b : Blk} (hf : b.Fit) {k : Nat} (hk : k < m.sure.length) : blkAt (m.put b) k = if k = b.gen % 2 then some b else blkAt m k := by
  have hk' : k < (m.put b).sure.length := by rw [put_len]; exact hk
  rw [blkAt_clean (m := m.put b) hu hk', blkAt_clean hu hk]
  by_cases e : k = b.gen % 2
  · rw [if_pos e]
    have : (m.put b).sure[k] = ⟨blkSec b, false⟩ := by
      simp only [Dv.put]
      rw [List.getElem_set, if_pos e.symm]
    rw [this]
    simp only [Bool.false_eq_true, if_false]
    rw [blkOf_sec hf, if_pos e.symm]
  · rw [if_neg e]
    have : (m.put b).sure[k] = m.sure[k] := by
      simp only [Dv.put]
      rw [List.getElem_set, if_neg (fun h => e h.symm)]
    rw [this]

theorem zero_blk (n k : Nat) (hk : k < n) : blkAt (Dv.zero n) k = none := by
  rw [blkAt_clean (m := Dv.zero n) rfl (by rw [new_zero_len]; exact hk)]
  have : (Dv.zero n).sure[k]'(by rw [new_zero_len]; exact hk) = zeroSec := by simp [Dv.zero]
  have h2 : (if zeroSec.torn = true then none else blkOf k zeroSec.data) = blkOf k (List.replicate 512 0) := by unfold zeroSec; rw [if_neg (by simp)]
  rw [this, h2]
  exact blkOf_zero k

theorem load_zero (n : Nat) (h : 2 ≤ n) : loadM (Dv.zero n) = none := by
  show better (better none (blkAt (Dv.zero n) 0)) (blkAt (Dv.zero n) 1) = none
  rw [zero_blk n 0 (by omega), zero_blk n 1 (by omega)]
  rfl

end Go.Proofs.Ytpimjachhfnlfaa
