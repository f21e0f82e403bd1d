/-
  Plain laws of SuperCuts: a Save that is cut off, and a crash. No program in sight.
-/
import Derived.Test.YtpimjachhfnlfaaAnswers10
namespace Go.Proofs.Ytpimjachhfnlfaa
open Go.RowKit

/-- A device that is up, with nothing open, of two sectors and more. -/
structure Tidy (m : Dv) : Prop where
  live : Live m
  clean : m.unsure = []
  two : 2 ≤ m.sure.length

theorem Tidy.put {m : Dv} (h : Tidy m) (b : Blk) : Tidy (m.put b) := ⟨put_live h.live b, h.clean, by rw [put_len]; exact h.two⟩

theorem loadM_eq (m : Dv) : loadM m = better (blkAt m 0) (blkAt m 1) := rfl

theorem blkOf_gen {k : Nat} {l : List UInt8} {b : Blk} (h : blkOf k l = some b) : b.gen % 2 = k := by
  unfold blkOf at h
  split at h
  · cases h
  · split at h
    · split at h
      · cases h; assumption
      · cases h
    · cases h

theorem blkAt_gen {m : Dv} {k : Nat} {b : Blk} (h : blkAt m k = some b) : b.gen % 2 = k := by
  unfold blkAt at h
  obtain ⟨l, _, h⟩ := Option.bind_eq_some_iff.1 h
  exact blkOf_gen h

/-- What lies in the places is what counts: the blocks are the same, so is the one that counts. -/
theorem loadM_congr {m c : Dv} (h0 : blkAt c 0 = blkAt m 0) (h1 : blkAt c 1 = blkAt m 1) : loadM c = loadM m := by
  rw [loadM_eq, loadM_eq, h0, h1]

/-- The place that a new block takes is not the one that counts. -/
theorem loadM_lost {m c : Dv} {g : Nat} (hg : nextGen (loadM m) g) (h0 : blkAt c (g % 2) = none) (h1 : blkAt c ((g + 1) % 2) = blkAt m ((g + 1) % 2)) : loadM c = loadM m := by
  rw [loadM_eq] at hg ⊢
  rw [loadM_eq]
  cases ha : blkAt m 0 with
  | none =>
    cases hb : blkAt m 1 with
    | none =>
      rcases Nat.mod_two_eq_zero_or_one g with e | e
      · have e2 : (g + 1) % 2 = 1 := by omega
        rw [e] at h0; rw [e2, hb] at h1; rw [h0, h1]
      · have e2 : (g + 1) % 2 = 0 := by omega
        rw [e] at h0; rw [e2, ha] at h1; rw [h0, h1]
    | some b =>
      rw [ha, hb] at hg
      have hbg := blkAt_gen hb
      have hg' : g = b.gen + 1 := hg
      have e : g % 2 = 0 := by omega
      have e2 : (g + 1) % 2 = 1 := by omega
      rw [e] at h0; rw [e2, hb] at h1; rw [h0, h1]
  | some a =>
    have hag := blkAt_gen ha
    cases hb : blkAt m 1 with
    | none =>
      rw [ha, hb] at hg
      have hg' : g = a.gen + 1 := hg
      have e : g % 2 = 1 := by omega
      have e2 : (g + 1) % 2 = 0 := by omega
      rw [e] at h0; rw [e2, ha] at h1; rw [h0, h1]
    | some b =>
      have hbg := blkAt_gen hb
      rw [ha, hb] at hg
      simp only [better] at hg ⊢
      split at hg
      · rename_i hlt
        have hg' : g = b.gen + 1 := hg
        have e : g % 2 = 0 := by omega
        have e2 : (g + 1) % 2 = 1 := by omega
        rw [e] at h0; rw [e2, hb] at h1; rw [h0, h1, if_pos hlt]
      · rename_i hlt
        have hg' : g = a.gen + 1 := hg
        have e : g % 2 = 1 := by omega
        have e2 : (g + 1) % 2 = 0 := by omega
        rw [e] at h0; rw [e2, ha] at h1; rw [h0, h1, if_neg hlt]

/-- What a cut Save and a crash leave. -/
structure Cut (m : Dv) (b : Blk) (r : Dv × Int) (c : Dv) : Prop where
  tidy : Tidy c
  few : r.1.unsure.length ≤ 1
  what : (r.2 = 0 ∧ loadM c = some b) ∨ (r.2 = 8 ∧ (loadM c = loadM m ∨ loadM c = some b))

theorem crash_tidy {m : Dv} (h : 2 ≤ m.sure.length) (x y : Nat) : Tidy (m.crash x y) :=
  ⟨crash_live _ _ _, rfl, by show 2 ≤ (crashFrom _ _ 0 _ _).length; rw [crashFrom_len]; exact h⟩

theorem blkAt_of {m c : Dv} {k : Nat} (hm : Tidy m) (hc : Tidy c) (hk : k < m.sure.length) (hk2 : k < c.sure.length) (h : c.sure[k] = m.sure[k]) : blkAt c k = blkAt m k := by
  rw [blkAt_clean hc.clean hk2, blkAt_clean hm.clean hk, h]

theorem cut_same {m c : Dv} (hm : Tidy m) (hc : Tidy c) (h : c.sure = m.sure) : loadM c = loadM m := by
  have h2 := hm.two
  have h3 := hc.two
  refine loadM_congr (blkAt_of hm hc (by omega) (by omega) ?_) (blkAt_of hm hc (by omega) (by omega) ?_)
  all_goals simp only [h]

theorem cut_law {m : Dv} (hm : Tidy m) {b : Blk} (hf : b.Fit) (hg : nextGen (loadM m) b.gen) (L : Nat) (hL : L < 5) (mask torn : Nat) :
    Cut m b ({ m with limit := L }.saved b) (({ m with limit := L }.saved b).1.crash mask torn) := by
  obtain ⟨sure, unsure, limit, down, cap, spare⟩ := m
  have hu : unsure = [] := hm.clean
  have hd : down = false := hm.live.up
  have hl : limit = 0 := hm.live.free
  have h2 : 2 ≤ sure.length := hm.two
  subst hu hd hl
  have hlen := blkSec_len b
  have hnl : ¬ 512 < (blkSec b).length := by omega
  have hp := pad_sec b
  have hk : b.gen % 2 < sure.length := by omega
  have hcode : ∀ (u : List (Nat × List UInt8)) (l : Nat), (Dv.mk sure u l false cap spare).code ((b.gen % 2 : Nat) : Int) = 0 := by
    intro u l
    unfold Dv.code
    rw [if_neg (by simp), if_neg (by omega), if_neg (by simp only; omega)]
  have hw0 : ∀ l, 1 < l → (Dv.mk sure [] l false cap spare).sync = (⟨sure, [], l - 1, false, cap, spare⟩, 0) := by
    intro l hl
    have e1 : ¬ l = 0 := by omega
    have e2 : ¬ l = 1 := by omega
    simp [Dv.sync, Dv.spent, settleAll, e1, e2]
  have hw1 : (Dv.mk sure [] 1 false cap spare).write ((b.gen % 2 : Nat) : Int) (blkSec b) = (⟨sure, [], 0, true, cap, spare⟩, 8) := by
    unfold Dv.write
    rw [hcode, if_neg (by simp), if_neg hnl, if_pos rfl]
    rfl
  have hw2 : ∀ l, 1 < l → (Dv.mk sure [] l false cap spare).write ((b.gen % 2 : Nat) : Int) (blkSec b) = (⟨sure, [(b.gen % 2, blkSec b)], l - 1, false, cap, spare⟩, 0) := by
    intro l hl
    have e1 : ¬ l = 0 := by omega
    have e2 : ¬ l = 1 := by omega
    unfold Dv.write
    rw [hcode, if_neg (by simp), if_neg hnl, if_neg e2, hp, Int.toNat_natCast]
    simp [Dv.spent, e1, e2]
  have hw3 : ∀ l, 1 < l → (Dv.mk sure [(b.gen % 2, blkSec b)] l false cap spare).sync = (⟨sure.set (b.gen % 2) ⟨blkSec b, false⟩, [], l - 1, false, cap, spare⟩, 0) := by
    intro l hl
    have e1 : ¬ l = 0 := by omega
    have e2 : ¬ l = 1 := by omega
    simp [Dv.sync, Dv.spent, settleAll, e1, e2]
  have hw4 : (Dv.mk sure [(b.gen % 2, blkSec b)] 1 false cap spare).sync = (⟨sure, [(b.gen % 2, blkSec b)], 0, true, cap, spare⟩, 8) := by
    simp [Dv.sync, Dv.spent]
  have done : ∀ l, Cut ⟨sure, [], 0, false, cap, spare⟩ b (⟨sure.set (b.gen % 2) ⟨blkSec b, false⟩, [], l, false, cap, spare⟩, 0) ((Dv.mk (sure.set (b.gen % 2) ⟨blkSec b, false⟩) [] l false cap spare).crash mask torn) := by
    intro l
    have ht := hm.put b
    have hc : Tidy ((Dv.mk (sure.set (b.gen % 2) ⟨blkSec b, false⟩) [] l false cap spare).crash mask torn) := crash_tidy (by simpa using h2) _ _
    exact ⟨hc, Nat.zero_le _, .inl ⟨rfl, by rw [← load_put rfl h2 hf hg]; exact cut_same ht hc rfl⟩⟩
  match L, hL with
  | 0, _ =>
    have : (Dv.mk sure [] 0 false cap spare).saved b = (⟨sure.set (b.gen % 2) ⟨blkSec b, false⟩, [], 0, false, cap, spare⟩, 0) := saved_live hm.live rfl h2 b
    rw [this]
    exact done 0
  | 1, _ =>
    have : (Dv.mk sure [] 1 false cap spare).saved b = (⟨sure, [], 0, true, cap, spare⟩, 8) := by
      simp [Dv.saved, Dv.sync, Dv.spent]
    show Cut _ _ ((Dv.mk sure [] 1 false cap spare).saved b) (((Dv.mk sure [] 1 false cap spare).saved b).1.crash mask torn)
    rw [this]
    have hc : Tidy ((Dv.mk sure [] 0 true cap spare).crash mask torn) := crash_tidy h2 _ _
    exact ⟨hc, Nat.zero_le _, .inr ⟨rfl, .inl (cut_same hm hc rfl)⟩⟩
  | 2, _ =>
    have : (Dv.mk sure [] 2 false cap spare).saved b = (⟨sure, [], 0, true, cap, spare⟩, 8) := by
      unfold Dv.saved
      rw [hw0 2 (by decide), if_neg (by simp), hw1, if_pos (by simp)]
    show Cut _ _ ((Dv.mk sure [] 2 false cap spare).saved b) (((Dv.mk sure [] 2 false cap spare).saved b).1.crash mask torn)
    rw [this]
    have hc : Tidy ((Dv.mk sure [] 0 true cap spare).crash mask torn) := crash_tidy h2 _ _
    exact ⟨hc, Nat.zero_le _, .inr ⟨rfl, .inl (cut_same hm hc rfl)⟩⟩
  | 3, _ =>
    have : (Dv.mk sure [] 3 false cap spare).saved b = (⟨sure, [(b.gen % 2, blkSec b)], 0, true, cap, spare⟩, 8) := by
      unfold Dv.saved
      rw [hw0 3 (by decide), if_neg (by simp), hw2 2 (by decide), if_neg (by simp), hw4]
    show Cut _ _ ((Dv.mk sure [] 3 false cap spare).saved b) (((Dv.mk sure [] 3 false cap spare).saved b).1.crash mask torn)
    rw [this]
    have hc : Tidy ((Dv.mk sure [(b.gen % 2, blkSec b)] 0 true cap spare).crash mask torn) := crash_tidy h2 _ _
    refine ⟨hc, Nat.le_refl _, .inr ⟨rfl, ?_⟩⟩
    have hs : ((Dv.mk sure [(b.gen % 2, blkSec b)] 0 true cap spare).crash mask torn).sure = crashOne mask torn sure 0 (b.gen % 2, blkSec b) := rfl
    generalize ((Dv.mk sure [(b.gen % 2, blkSec b)] 0 true cap spare).crash mask torn) = c at hc hs
    unfold crashOne at hs
    have hclen := hc.two
    by_cases ht : bitAt torn 0 = true
    · rw [if_pos ht] at hs
      refine .inl (loadM_lost hg ?_ ?_)
      · rw [blkAt_clean hc.clean (by omega)]
        have : c.sure[b.gen % 2]'(by omega) = ⟨blkSec b, true⟩ := by simp only [hs]; rw [List.getElem_set, if_pos rfl]
        rw [this]; rfl
      · refine blkAt_of hm hc (by show _ < sure.length; omega) (by omega) ?_
        simp only [hs]
        rw [List.getElem_set, if_neg (by omega)]
    · rw [if_neg ht] at hs
      by_cases hk2 : bitAt mask 0 = true
      · rw [if_pos hk2] at hs
        refine .inr ?_
        have ht := hm.put b
        rw [← load_put rfl h2 hf hg]
        exact cut_same ht hc hs
      · rw [if_neg hk2] at hs
        exact .inl (cut_same hm hc hs)
  | 4, _ =>
    have : (Dv.mk sure [] 4 false cap spare).saved b = (⟨sure.set (b.gen % 2) ⟨blkSec b, false⟩, [], 1, false, cap, spare⟩, 0) := by
      unfold Dv.saved
      rw [hw0 4 (by decide), if_neg (by simp), hw2 3 (by decide), if_neg (by simp), hw3 2 (by decide)]
    show Cut _ _ ((Dv.mk sure [] 4 false cap spare).saved b) (((Dv.mk sure [] 4 false cap spare).saved b).1.crash mask torn)
    rw [this]
    exact done 1

end Go.Proofs.Ytpimjachhfnlfaa
