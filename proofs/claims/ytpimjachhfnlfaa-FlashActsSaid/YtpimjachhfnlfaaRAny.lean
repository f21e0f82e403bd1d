/-
  The document's device: its calls in short; alike. No condition but that fewer than 2^40 writes are open.
-/
import Derived.Test.YtpimjachhfnlfaaRCrash
namespace Go.Proofs.Ytpimjachhfnlfaa
open Go.RowKit

theorem RDev.grow {T : Nat → Prop} {w w' : World} {q : Nat} {m : Dv} (h : RDev w' T q m) : RDev w' (Grow T w w') q m := by
  obtain ⟨sv, uv, ss, us, h, hq, h1, h2, h3, h4, hl⟩ := h
  exact ⟨sv, uv, ss, us, h, .inl hq, fun k hk => .inl (h1 k hk), fun k hk => .inl (h2 k hk), fun s hs => .inl (h3 s hs), fun u hu => .inl (h4 u hu), fun k hk => by rcases hk with hk | hk; exact hl k hk; exact hk.2⟩

theorem RDev.lt {T : Nat → Prop} {w : World} {q : Nat} {m : Dv} (h : RDev w T q m) : ∀ k, T k → k < w.heap.size := by
  obtain ⟨_, _, _, _, _, _, _, _, _, _, hl⟩ := h; exact hl

theorem rwrite_any {w : World} {T : Nat → Prop} {q : Nat} {m : Dv} (pos : Int) (a : Option Addr) (n c : Nat) (b : List UInt8) (hd : RDev w T q m) (few : m.unsure.length < 1099511627776) (hb : BytesIn w a n b) :
    Calls Try.prog 27 #[.pointer (some ⟨q, 0, none⟩), .int .i64 pos, .slice a n c] w fun e w' => e = .returned (.int .i64 (m.write pos b).2) ∧ RDev w' (Grow T w w') q (m.write pos b).1 ∧ Fr T w w' := by
  obtain ⟨sv, uv, ss, us, h, hq, hs, hu, hg, hh, hl⟩ := hd
  have hd : RDev w T q m := ⟨sv, uv, ss, us, h, hq, hs, hu, hg, hh, hl⟩
  by_cases h0 : m.code pos = 0
  · by_cases h1 : 512 < b.length
    · have e : m.write pos b = (m, 1) := by simp [Dv.write, h0, h1]
      rw [e]
      refine (rwrite_err pos a n c h (.inr (by rw [← hb.len]; exact h1))).mono fun e w' hh => ?_
      obtain ⟨rfl, rfl⟩ := hh
      exact ⟨by rw [h0]; rfl, hd.grow, Fr.refl _ _⟩
    · obtain ⟨hdn, k, rfl, hk⟩ := code_zero h0
      by_cases h2 : m.limit = 1
      · have e : m.write k b = (m.spent, 8) := by simp [Dv.write, h0, h1, h2]
        rw [e]
        refine (rwrite_cut k a n c h hk hdn (by rw [← hb.len]; omega) h2).mono fun e w' hh' => ?_
        have hd' : RDev w' T q m.spent := ⟨sv, uv, ss, us, hh'.2.1, hq, hs, hu, hg, hh, fun k hk => Nat.lt_of_lt_of_le (hl k hk) hh'.2.2.size⟩
        exact ⟨hh'.1, hd'.grow, hh'.2.2.mono (fun i _ e => e ▸ hq)⟩
      · have e : m.write k b = ({ m.spent with unsure := m.unsure ++ [(k, pad b)] }, 0) := by simp [Dv.write, h0, h1, h2]
        rw [e]
        refine (rwrite_ok k a n c b h hk hdn (by have := h.eq; rw [this] at few; simpa using few) (by rw [← hb.len]; omega) h2 hb).mono fun e w' hh' => ?_
        obtain ⟨rfl, uv', us', hd', hf, hv', hu'⟩ := hh'
        refine ⟨rfl, ⟨sv, uv', ss, us', hd', .inl hq, fun k hk => .inl (hs k hk), ?_, fun s hs => .inl (hg s hs), ?_, ?_⟩, hf.mono (fun i _ e => by rcases e with e | e; exact e ▸ hq; exact hu i e)⟩
        · intro i hi
          rcases hv' i hi with h3 | h3
          · exact .inl (hu i h3)
          · exact .inr ⟨h3, (hd'.list.lt i hi).2⟩
        · intro u hu2
          rcases hu' u hu2 with h3 | h3
          · exact .inl (hh u h3)
          · exact .inr ⟨h3, (hd'.data u hu2).1.lt⟩
        · intro i hi
          rcases hi with hi | hi
          · exact Nat.lt_of_lt_of_le (hl i hi) hf.size
          · exact hi.2
  · have e : m.write pos b = (m, m.code pos) := by simp [Dv.write, h0]
    rw [e]
    refine (rwrite_err pos a n c h (.inl h0)).mono fun e w' hh => ?_
    obtain ⟨rfl, rfl⟩ := hh
    exact ⟨by rw [if_pos h0], hd.grow, Fr.refl _ _⟩

theorem rsync_any {w : World} {T : Nat → Prop} {q : Nat} {m : Dv} (hd : RDev w T q m) (few : m.unsure.length ≤ 1099511627776) :
    Calls Try.prog 28 #[.pointer (some ⟨q, 0, none⟩)] w fun e w' => e = .returned (.int .i64 m.sync.2) ∧ RDev w' T q m.sync.1 ∧ Fr T w w' := by
  obtain ⟨sv, uv, ss, us, h, hq, hs, hu, hg, hh, hl⟩ := hd
  by_cases hdn : m.down = true
  · have e : m.sync = (m, 8) := by simp [Dv.sync, hdn]
    rw [e]
    refine (rsync_down h hdn).mono fun e w' hh' => ?_
    obtain ⟨rfl, rfl⟩ := hh'
    exact ⟨rfl, ⟨sv, uv, ss, us, h, hq, hs, hu, hg, hh, hl⟩, Fr.refl _ _⟩
  · have hdn : m.down = false := by simpa using hdn
    by_cases h1 : m.limit = 1
    · have e : m.sync = (m.spent, 8) := by simp [Dv.sync, hdn, h1]
      rw [e]
      refine (rsync_cut h hdn h1).mono fun e w' hh' => ?_
      exact ⟨hh'.1, ⟨sv, uv, ss, us, hh'.2.1, hq, hs, hu, hg, hh, fun k hk => Nat.lt_of_lt_of_le (hl k hk) hh'.2.2.size⟩, hh'.2.2.mono (fun i _ e => e ▸ hq)⟩
    · have e : m.sync = ({ m.spent with sure := settleAll m.sure m.unsure, unsure := [] }, 0) := by simp [Dv.sync, hdn, h1]
      rw [e]
      refine (rsync_ok h hdn h1 (by have := h.eq; rw [this] at few; simpa using few)).mono fun e w' hh' => ?_
      obtain ⟨rfl, ss', hd', hf, hor⟩ := hh'
      refine ⟨rfl, ⟨sv, .slice none 0 0, ss', [], hd', hq, hs, (fun k hk => by cases hk), ?_, (fun u hu => by cases hu), fun k hk => Nat.lt_of_lt_of_le (hl k hk) hf.size⟩, hf.mono (fun i _ e => by rcases e with e | e; exact e ▸ hq; exact hs i e)⟩
      intro s hs'
      rcases hor s hs' with ⟨s0, h0, e⟩ | ⟨u, h0, e⟩
      · rw [e]; exact hg s0 h0
      · rw [e]; exact hh u h0

theorem rcrash_any {w : World} {T : Nat → Prop} {q : Nat} {m : Dv} (mask torn : Nat) (hd : RDev w T q m) (few : m.unsure.length ≤ 1099511627776) :
    Calls Try.prog 30 #[.pointer (some ⟨q, 0, none⟩), .int .u64 mask, .int .u64 torn] w fun e w' => e = .returned (.tuple #[]) ∧ RDev w' (Grow T w w') q (m.crash mask torn) ∧ Fr T w w' := by
  obtain ⟨sv, uv, ss, us, h, hq, hs, hu, hg, hh, hl⟩ := hd
  refine (rcrash_at mask torn h (by have := h.eq; rw [this] at few; simpa using few)).mono fun e w' hh' => ?_
  obtain ⟨rfl, ss', hd', hf, hor⟩ := hh'
  refine ⟨rfl, ⟨sv, .slice none 0 0, ss', [], hd', .inl hq, fun k hk => .inl (hs k hk), (fun k hk => by cases hk), ?_, (fun u hu => by cases hu), ?_⟩, hf.mono (fun i _ e => by rcases e with e | e; exact e ▸ hq; exact hs i e)⟩
  · intro s hs'
    rcases hor s hs' with ⟨s0, h0, e⟩ | ⟨u, h0, e⟩ | h0
    · rw [e]; exact .inl (hg s0 h0)
    · rw [e]; exact .inl (hh u h0)
    · exact .inr ⟨h0, (hd'.sdata s hs').1.lt⟩
  · intro i hi
    rcases hi with hi | hi
    · exact Nat.lt_of_lt_of_le (hl i hi) hf.size
    · exact hi.2

/-- The limit is set by a store. -/
theorem RDev.limit {w : World} {T : Nat → Prop} {q : Nat} {m : Dv} (hd : RDev w T q m) (n : Nat) (hn : n ≤ 9223372036854775807) :
    RDev (w.setCell ⟨q, 2, none⟩ (.int .i64 n)) T q { m with limit := n } ∧ Fr T w (w.setCell ⟨q, 2, none⟩ (.int .i64 n)) ∧ (∃ z, w.cell? ⟨q, 2, none⟩ = some (.int .i64 z)) ∧ w.frozen? ⟨q, 2, none⟩ = false := by
  obtain ⟨sv, uv, ss, us, h, hq, hs, hu, hg, hh, hl⟩ := hd
  have f := Fr.set1 w q 2 (.int .i64 n)
  refine ⟨⟨sv, uv, ss, us, h.rehead f n m.down hn ?_, hq, hs, hu, hg, hh, fun k hk => Nat.lt_of_lt_of_le (hl k hk) f.size⟩, f.mono (fun i _ e => e ▸ hq), ⟨_, h.c2⟩, h.free 2⟩
  rw [heap_setCell_same _ _ _ _ _ _ h.head]
  simp

theorem rd_len {m : Dv} (h : m.Wf) {pos : Int} {b : List UInt8} (hr : m.rd pos = .ok b) : b.length = 512 := by
  unfold Dv.rd at hr
  split at hr
  · cases hr
  · split at hr
    · cases hr
    · rename_i x hx
      cases hr
      exact seen_len h hx

theorem rd_code {m : Dv} {pos : Int} {c : Int} (hr : m.rd pos = .error c) : c = 8 ∨ c = 1 ∨ c = 9 := by
  unfold Dv.rd at hr
  split at hr
  · cases hr
    rcases code_cases m pos with h | h | h
    · exact .inl h
    · exact .inr (.inl h)
    · contradiction
  · split at hr
    · cases hr; exact .inr (.inr rfl)
    · cases hr

set_option maxRecDepth 100000 in
theorem alike_any {w : World} {S T : Nat → Prop} {p q : Nat} {m : Dv} (pos : Int) (hd : Dev w S p m) (hr : RDev w T q m) (few : m.unsure.length ≤ 1099511627776) :
    Calls Try.prog 34 #[.pointer (some ⟨p, 0, none⟩), .pointer (some ⟨q, 0, none⟩), .int .i64 pos] w fun e w' => e = .returned (.bool true) ∧ Fr No w w' := by
  have H1 := hid (read_any pos w hd few)
  have H2 := hid (fun W (f : Fr No w W) => rread_any pos (hr.fr f (fun _ _ => id)) few)
  have HW := hid hd.wf
  clear hd hr
  cases hm : m.rd pos with
  | error c =>
    have HC := rd_code hm
    rw [hm] at H1 H2
    clear hm
    rcases HC with rfl | rfl | rfl
    all_goals
      go_enter Try.func34, Try.ntmps34
      go_wp2_with fail
      refine H1.out.mono ?_
      rintro e w' ⟨rfl, rfl⟩
      go_wp2_with fail
      refine (H2.out _ (Fr.refl _ _)).mono ?_
      rintro e w' ⟨rfl, rfl⟩
      go_wp2_with fail
      refine (same_any 0 0 (BytesIn.nothing _) (BytesIn.nothing _) (by decide)).mono ?_
      rintro e w' ⟨⟨bb, rfl, hbb⟩, k, rfl⟩
      obtain rfl : bb = true := hbb.2 rfl
      go_wp2_with fail
      go_ret
      exact ⟨rfl, Fr.drewN _ _⟩
  | ok b =>
    have HL := hid (rd_len HW.out hm)
    rw [hm] at H1 H2
    clear hm
    go_enter Try.func34, Try.ntmps34
    go_wp2_with fail
    refine H1.out.mono ?_
    rintro e w1 ⟨g1, c1, rfl, hr1, hc1, hg1, hf1⟩
    have R1 := hid hr1
    have F1 := hid hf1
    clear hr1 hc1 hg1 hf1
    go_wp2_with fail
    refine (H2.out _ F1.out).mono ?_
    rintro e w2 ⟨g2, c2, rfl, hr2, hg2, hf2⟩
    have R2 := hid hr2
    have F2 := hid (F1.out.step hf2)
    have R1' := hid (R1.out.fr0 hf2)
    clear hr2 hg2 hf2 R1
    rw [HL.out]
    go_wp2_with fail
    refine (same_any _ _ (R1'.out.bytes HL.out) (R2.out.bytes HL.out) (by decide)).mono ?_
    rintro e w' ⟨⟨bb, rfl, hbb⟩, k, rfl⟩
    obtain rfl : bb = true := hbb.2 rfl
    go_wp2_with fail
    go_ret
    exact ⟨rfl, F2.out.step (Fr.drewN _ _)⟩

end Go.Proofs.Ytpimjachhfnlfaa
