/-
  seglog's part and found: is there a record? No condition but that the log's device is up, and the numbers are not great.
-/
import Derived.Test.YtpimjachhfnlfaaSLaw
import Derived.Deep.RegionHeld3
namespace Go.Proofs.Ytpimjachhfnlfaa
open Go.RowKit

/-- What a place holds. -/
def partAt (m : Dv) (place : Nat) : Option (Hd × List UInt8) := (m.seen (m.pos place)).bind opened

theorem part_any {w0 w : World} {q p : Nat} {m : Dv} {L : Lg} (place : Nat) (h : OwnL w0 w q p m L) (h2 : m.down = false) (h3 : 3 ≤ m.sure.length) (few : m.unsure.length ≤ 1099511627776) (hp : place < 2305843009213693952) :
    Calls Try.prog 120 #[.pointer (some ⟨q, 0, none⟩), .int .i64 place] w fun e w' => partPost w (partAt m place) e w' := by
  unfold partAt
  cases hs : m.seen (m.pos place) with
  | none => exact part_torn place h h2 h3 few hp hs
  | some l => exact part_seen place h h2 h3 few hp l hs (by obtain ⟨S, hd, -⟩ := h.dev; exact seen_len hd.wf hs)

/-- The head of a record's j-th part. -/
structure HdOk (m : Dv) (B : Blk) (next fin n j : Nat) (h : Hd) : Prop where
  kind : h.kind = 2
  seq : h.seq = next
  part : h.part = j
  parts : h.parts = n
  epoch : B.count ≤ next → h.epoch = B.epoch
  ring : fin + n + 2 ≤ B.from_ + m.sure.length

/-- A record of n places is there. -/
def Holds (m : Dv) (B : Blk) (next fin n : Nat) : Prop := 1 ≤ n ∧ ∀ j, j < n → ∃ h d, partAt m (fin + j) = some (h, d) ∧ HdOk m B next fin n j h

theorem opened_fit {l : List UInt8} {h : Hd} {d : List UInt8} (e : opened l = some (h, d)) : 1 ≤ h.parts ∧ h.part < h.parts := by
  unfold opened at e
  split at e
  · rename_i hc
    simp only [Option.some.injEq, Prod.mk.injEq] at e
    have := hc.2.1
    rw [e.1] at this
    unfold Hd.bad at this
    simp only [decide_eq_false_iff_not] at this
    omega
  · cases e

theorem partAt_fit {m : Dv} (hw : m.Wf) {place : Nat} {h : Hd} {d : List UInt8} (e : partAt m place = some (h, d)) : h.Fit ∧ 1 ≤ h.parts ∧ h.part < h.parts := by
  unfold partAt at e
  obtain ⟨l, hs, ho⟩ := Option.bind_eq_some_iff.1 e
  refine ⟨?_, opened_fit ho⟩
  have hf := heads_fit (seen_len hw hs)
  unfold opened at ho
  split at ho
  · simp only [Option.some.injEq, Prod.mk.injEq] at ho
    rw [← ho.1]
    exact hf
  · cases ho

/-- So far there is one: the first i parts. -/
def Upto (m : Dv) (B : Blk) (next fin n i : Nat) : Prop := (i = 0 ∧ n = 1) ∨ (1 ≤ i ∧ i ≤ n ∧ n < 256 ∧ ∀ j, j < i → ∃ h d, partAt m (fin + j) = some (h, d) ∧ HdOk m B next fin n j h)

theorem Upto.no {m : Dv} {B : Blk} {next fin n i : Nat} (h : Upto m B next fin n i) (hi : i < n) (hn : ∀ n' h d, partAt m (fin + i) = some (h, d) → HdOk m B next fin n' i h → (0 < i → n' = n) → False) (n' : Nat) : ¬ Holds m B next fin n' := by
  rintro ⟨h1, hall⟩
  rcases h with ⟨rfl, rfl⟩ | ⟨a1, a2, _, a3⟩
  · obtain ⟨h, d, e1, e2⟩ := hall 0 h1
    exact hn n' h d e1 e2 (fun h => by omega)
  · obtain ⟨h, d, e1, e2⟩ := a3 0 (by omega)
    obtain ⟨h', d', e1', e2'⟩ := hall 0 h1
    rw [e1] at e1'
    cases e1'
    have hnn : n = n' := e2.parts.symm.trans e2'.parts
    subst hnn
    obtain ⟨h, d, e1, e2⟩ := hall i hi
    exact hn n h d e1 e2 (fun _ => rfl)

theorem Upto.next {m : Dv} {B : Blk} {next fin n i : Nat} {h : Hd} {d : List UInt8} (hu : Upto m B next fin n i) (hi : i < n) (hp : partAt m (fin + i) = some (h, d)) (hk : HdOk m B next fin h.parts i h) (hn : 0 < i → h.parts = n) (h256 : h.parts < 256) (h1 : h.part < h.parts) : Upto m B next fin h.parts (i + 1) := by
  have := hk.part
  rcases hu with ⟨rfl, rfl⟩ | ⟨a1, a2, _, a3⟩
  · refine .inr ⟨Nat.le_refl _, by omega, h256, fun j hj => ?_⟩
    obtain rfl : j = 0 := by omega
    exact ⟨h, d, hp, hk⟩
  · have e := hn (by omega)
    rw [e] at hk ⊢
    refine .inr ⟨by omega, by omega, by omega, fun j hj => ?_⟩
    by_cases hji : j = i
    · subst hji; exact ⟨h, d, hp, hk⟩
    · exact a3 j (by omega)

theorem Upto.done {m : Dv} {B : Blk} {next fin n : Nat} (h : Upto m B next fin n n) : Holds m B next fin n := by
  rcases h with ⟨h1, h2⟩ | ⟨a1, a2, _, a3⟩
  · omega
  · exact ⟨a1, a3⟩

def fmeas (v i : Value) : Nat := if (intOf i).toNat = 0 then 300 else (intOf v).toNat - (intOf i).toNat

theorem fmeas_lt (n j e : Nat) (h1 : e < 256) (h2 : 0 < j → e = n) (h3 : j < n) : fmeas (.int .i64 e) (.int .i64 ((j : Int) + 1)) < fmeas (.int .i64 n) (.int .i64 j) := by
  have e1 : ((j : Int) + 1).toNat = j + 1 := by omega
  unfold fmeas intOf
  simp only [e1, Int.toNat_natCast]
  rw [if_neg (by omega)]
  split <;> omega

/-- What found answers. -/
def foundPost (m : Dv) (L : Lg) (w : World) (e : Ending) (w' : World) : Prop :=
  Fr No w w' ∧ ∃ r : Nat, e = .returned (.tuple #[.int .i64 r, .int .i64 0]) ∧ ((r = 0 ∧ ∀ n, ¬ Holds m L.blk (L.blk.first + L.list.length) L.fin n) ∨ (r < 256 ∧ Holds m L.blk (L.blk.first + L.list.length) L.fin r))

set_option maxRecDepth 100000 in
set_option maxHeartbeats 4000000 in
theorem found_any {w0 w : World} {q p : Nat} {m : Dv} {L : Lg} (h : OwnL w0 w q p m L) (h2 : m.down = false) (h3 : 3 ≤ m.sure.length) (few : m.unsure.length ≤ 1099511627776) :
    Calls Try.prog 163 #[.pointer (some ⟨q, 0, none⟩)] w fun e w' => foundPost m L w e w' := by
  have HO := hid h
  have HP := hid (fun i (hi : i < 256) W (h : OwnL w0 W q p m L) => part_any (L.fin + i) h h2 h3 few (by have := h.small.fin; omega))
  have HN := hid (fun W (h : OwnL w0 W q p m L) => next_any h)
  have HR := hid (fun W (h : OwnL w0 W q p m L) => ring_any h)
  have HW : Hid m.Wf := by obtain ⟨S, hd, -⟩ := h.dev; exact hd.wf
  have HBIG := hid h3
  clear h h2 h3 few
  go_enter Try.func163, Try.ntmps163
  go_wp2_with fail
  go_loopw [4, 5] (fun v i wr => ∃ n j : Nat, v = .int .i64 n ∧ i = .int .i64 j ∧ Hid (Upto m L.blk (L.blk.first + L.list.length) L.fin n j) ∧ Hid (Fr No w wr)) (fun v i _ => fmeas v i)
  case atStart => exact ⟨1, 0, rfl, rfl, .inl ⟨rfl, rfl⟩, Fr.refl _ _⟩
  case round =>
    obtain ⟨n, j, rfl, rfl, hu, hf⟩ := hrel
    by_cases hlt : j < n
    · have HJ := hid hlt
      have hj256 : j < 256 := by rcases hu.out with ⟨h1, h2⟩ | ⟨h1, h2, h3, h4⟩ <;> omega
      have hn256 : n < 256 := by rcases hu.out with ⟨h1, h2⟩ | ⟨h1, h2, h3, h4⟩ <;> omega
      have HPJ := hid (HP.out j hj256)
      have HPJ : Hid (∀ W, OwnL w0 W q p m L → Calls Try.prog 120 #[.pointer (some ⟨q, 0, none⟩), .int .i64 ((L.fin : Int) + (j : Int))] W fun e w' => partPost W (partAt m (L.fin + j)) e w') := HPJ.out
      have hwr : IntKind.i64.wrap ((L.fin : Int) + (j : Int)) = (L.fin : Int) + (j : Int) := IntWalk.i64_in _ (by have := HO.out.small.fin; omega)
      have O1 := hid (HO.out.next hf.out)
      obtain ⟨lv, hl, -⟩ := O1.out.log
      have c7 := hl.c7
      obtain ⟨o, ho⟩ : ∃ o, o = partAt m (L.fin + j) := ⟨_, rfl⟩
      have HOO := hid ho.symm
      rw [← ho] at HPJ
      clear hl ho HP
      go_wp2_with fail
      refine (HPJ.out _ O1.out).mono ?_
      rintro e w2 ⟨hf2, hcase⟩
      have F2 := hid (hf.out.step hf2)
      have O2 := hid (O1.out.next hf2)
      clear hf2 c7 hwr
      rcases hcase with ⟨⟨e0, e1, e2, e3, e4⟩, d, g2, c2, rfl, rfl, hr2, -, -⟩ | ⟨rfl, r, hr, rfl⟩
      · clear hr2
        have HFIT := hid (partAt_fit HW.out HOO.out)
        have HE4 : Hid (e4 < 256) := HFIT.out.1.parts
        unfold Hd.val intv
        by_cases k1 : e0 = 2
        · have K1 := hid k1
          have q1 : ((e0 : Int) != 2) = false := by rw [k1]; rfl
          clear k1
          go_wp2_with fail
          have A3 := hid (heap_alloc_new w2 (.cells #[.int .i64 e0, .int .i64 e1, .int .i64 e2, .int .i64 e3, .int .i64 e4] 144))
          have F3 := hid (F2.out.step (Fr.alloc w2 (.cells #[.int .i64 e0, .int .i64 e1, .int .i64 e2, .int .i64 e3, .int .i64 e4] 144)))
          have O3 := hid (O2.out.next (Fr.alloc w2 (.cells #[.int .i64 e0, .int .i64 e1, .int .i64 e2, .int .i64 e3, .int .i64 e4] 144)))
          generalize w2.heap.size = b at *
          generalize w2.alloc (.cells #[.int .i64 e0, .int .i64 e1, .int .i64 e2, .int .i64 e3, .int .i64 e4] 144) = w3 at *
          obtain ⟨s0, s1, s2, s3, s4⟩ := five_cells A3.out
          obtain ⟨nx, hnx⟩ : ∃ nx : Nat, nx = L.blk.first + L.list.length := ⟨_, rfl⟩
          have HNX := hid hnx
          rw [← hnx] at HN hu
          clear hnx O2 F2
          have HNO : Hid ((∀ n', HdOk m L.blk nx L.fin n' j ⟨e0, e1, e2, e3, e4⟩ → (0 < j → n' = n) → False) → ∀ n2, ¬ Holds m L.blk (L.blk.first + L.list.length) L.fin n2) := by
            intro hno n2
            rw [← HNX.out]
            refine hu.out.no HJ.out (fun n' h' d' e1' e2' e3' => ?_) n2
            rw [HOO.out] at e1'
            cases e1'
            exact hno n' e2' e3'
          by_cases k2 : e2 = nx
          · have K2 := hid k2
            have q2 : ((e2 : Int) != (nx : Int)) = false := by rw [k2]; simp
            clear k2
            go_region_held3 (fun W => W.cell? ⟨b, 2, none⟩ = some (.int .i64 e2))
              (first | assumption | go_keep)
              (first
              | (go_at_call 70; refine (HN.out _ (O3.out.next (by first | exact Fr.refl _ _ | exact Fr.drew _))).mono ?_; rintro e w9 ⟨rfl, k9, rfl⟩))
            all_goals
              have F4 := hid (F3.out.step (Fr.drewN (S := No) w3 (1 + k9)))
              have O4 := hid (O3.out.next (Fr.drewN (S := No) w3 (1 + k9)))
              have A4 := hid ((Fr.drewN (S := No) w3 (1 + k9)).heap0 A3.out)
              generalize w3.drewN (1 + k9) = w4 at *
              have FQ := hid (fun n => F4.out.step (Fr.drewN (S := No) w4 n))
              have OQ := hid (fun n => O4.out.next (Fr.drewN (S := No) w4 n))
              have AQ := hid (fun n => (Fr.drewN (S := No) w4 n).heap0 A4.out)
              clear s0 s1 s2 s3 s4 F3 O3 A3 q1 q2
              obtain ⟨s0, s1, s2, s3, s4⟩ := five_cells A4.out
              obtain ⟨lv4, hl4, -⟩ := O4.out.log
              have l2 := hl4.c2
              have l4 := hl4.c4
              have l5 := hl4.c5
              have l7 := hl4.c7
              clear hl4
              by_cases k3 : e3 = j
              · have K3 := hid k3
                have q3 : ((e3 : Int) != (j : Int)) = false := by rw [k3]; simp
                clear k3
                by_cases k4 : 0 < j ∧ ¬ e4 = n
                · have K4 := hid k4
                  have q4 : ((e4 : Int) != (n : Int)) = true := by rw [bne_iff_ne]; omega
                  obtain ⟨k40, -⟩ := k4
                  clear FQ OQ AQ
                  go_wp2_with fail
                  go_ret2
                  exact ⟨F4.out, 0, rfl, .inl ⟨rfl, HNO.out (fun n' e e0 => K4.out.2 (e.parts.trans (e0 K4.out.1)))⟩⟩
                · have K4 : Hid (0 < j → e4 = n) := by intro h; omega
                  clear k4
                  rcases (show (¬ 0 < j) ∨ (0 < j ∧ ((e4 : Int) != (n : Int)) = false) by
                    have := K4.out
                    by_cases hj0 : 0 < j
                    · exact .inr ⟨hj0, by rw [this hj0]; simp⟩
                    · exact .inl hj0) with hj0 | ⟨hj0, q4⟩
                  all_goals
                    go_wp2_with fail
                    by_cases p5 : L.blk.count ≤ e2
                    · by_cases p6 : e1 = L.blk.epoch
                      · have P6 : Hid (L.blk.count ≤ nx → e1 = L.blk.epoch) := fun _ => p6
                        have q6 : ((e1 : Int) != (L.blk.epoch : Int)) = false := by rw [p6]; simp
                        clear p6
                        go_quiet (fail)
                        go_wp2_with fail
                        generalize hw5 : w4.drewN _ = w5
                        have F5 := hid (hw5 ▸ FQ.out _)
                        have O5 := hid (hw5 ▸ OQ.out _)
                        have A5 := hid (hw5 ▸ AQ.out _)
                        clear hw5 FQ OQ AQ l2 l4 l5 l7 s0 s1 s2 s3 s4
                        have s4 := (five_cells A5.out).2.2.2.2
                        obtain ⟨lv5, hl5, -⟩ := O5.out.log
                        have l4 := hl5.c4
                        have l7 := hl5.c7
                        clear hl5
                        have hx1 : IntKind.i64.wrap ((L.fin : Int) + (e4 : Int)) = (L.fin : Int) + (e4 : Int) := IntWalk.i64_in _ (by have := HO.out.small.fin; have := HE4.out; omega)
                        have hx2 : IntKind.i64.wrap ((L.fin : Int) + (e4 : Int) - (L.blk.from_ : Int)) = (L.fin : Int) + (e4 : Int) - (L.blk.from_ : Int) := IntWalk.i64_in _ (by have := HO.out.small.fin; have := HO.out.small.from_; have := HE4.out; omega)
                        by_cases p7 : L.fin + e4 + 2 ≤ L.blk.from_ + m.sure.length
                        · have P7 := hid p7
                          have q7 : ¬ (m.sure.length : Int) - 2 < (L.fin : Int) + (e4 : Int) - (L.blk.from_ : Int) := by have := HBIG.out; omega
                          clear p7
                          go_quiet ((go_at_call 115; exact Calls.quiet_of_same (HR.out _ (O5.out.next (Fr.drewN _ _)))))
                          clear hx1 hx2
                          go_wp2_with fail
                          go_roundw
                          case rel => exact ⟨e4, j + 1, rfl, by go_num, by rw [← HNX.out]; exact hu.out.next HJ.out HOO.out ⟨K1.out, K2.out, K3.out, rfl, P6.out, P7.out⟩ K4.out HE4.out HFIT.out.2.2, F5.out.step (Fr.drewN _ _)⟩
                          case measure => have := HE4.out; have := HFIT.out.2.2; have := K4.out; have := HJ.out; have := K3.out; exact fmeas_lt n j e4 (by omega) (by omega) (by omega)
                        · have P7 := hid p7
                          have q7 : (m.sure.length : Int) - 2 < (L.fin : Int) + (e4 : Int) - (L.blk.from_ : Int) := by have := HBIG.out; omega
                          clear p7
                          go_quiet ((go_at_call 115; exact Calls.quiet_of_same (HR.out _ (O5.out.next (Fr.drewN _ _)))))
                          clear hx1 hx2
                          go_wp2_with fail
                          go_ret2
                          exact ⟨F5.out.step (Fr.drewN _ _), 0, rfl, .inl ⟨rfl, HNO.out (fun n' e _ => P7.out (by have := e.ring; rw [← e.parts] at this; exact this))⟩⟩
                      · have P6 := hid p6
                        have q6 : ((e1 : Int) != (L.blk.epoch : Int)) = true := by rw [bne_iff_ne]; omega
                        have P5 : Hid (L.blk.count ≤ nx) := by have := K2.out; show _ ≤ _; omega
                        clear p6
                        go_quiet (fail)
                        go_wp2_with fail
                        go_ret2
                        exact ⟨F4.out.step (Fr.drewN _ _), 0, rfl, .inl ⟨rfl, HNO.out (fun n' e _ => P6.out (e.epoch P5.out))⟩⟩
                    · have P6 : Hid (L.blk.count ≤ nx → e1 = L.blk.epoch) := fun h => absurd h (by have := K2.out; omega)
                      go_quiet (fail)
                      go_wp2_with fail
                      generalize hw5 : w4.drewN _ = w5
                      have F5 := hid (hw5 ▸ FQ.out _)
                      have O5 := hid (hw5 ▸ OQ.out _)
                      have A5 := hid (hw5 ▸ AQ.out _)
                      clear hw5 FQ OQ AQ l2 l4 l5 l7 s0 s1 s2 s3 s4
                      have s4 := (five_cells A5.out).2.2.2.2
                      obtain ⟨lv5, hl5, -⟩ := O5.out.log
                      have l4 := hl5.c4
                      have l7 := hl5.c7
                      clear hl5
                      have hx1 : IntKind.i64.wrap ((L.fin : Int) + (e4 : Int)) = (L.fin : Int) + (e4 : Int) := IntWalk.i64_in _ (by have := HO.out.small.fin; have := HE4.out; omega)
                      have hx2 : IntKind.i64.wrap ((L.fin : Int) + (e4 : Int) - (L.blk.from_ : Int)) = (L.fin : Int) + (e4 : Int) - (L.blk.from_ : Int) := IntWalk.i64_in _ (by have := HO.out.small.fin; have := HO.out.small.from_; have := HE4.out; omega)
                      by_cases p7 : L.fin + e4 + 2 ≤ L.blk.from_ + m.sure.length
                      · have P7 := hid p7
                        have q7 : ¬ (m.sure.length : Int) - 2 < (L.fin : Int) + (e4 : Int) - (L.blk.from_ : Int) := by have := HBIG.out; omega
                        clear p7
                        go_quiet ((go_at_call 115; exact Calls.quiet_of_same (HR.out _ (O5.out.next (Fr.drewN _ _)))))
                        clear hx1 hx2
                        go_wp2_with fail
                        go_roundw
                        case rel => exact ⟨e4, j + 1, rfl, by go_num, by rw [← HNX.out]; exact hu.out.next HJ.out HOO.out ⟨K1.out, K2.out, K3.out, rfl, P6.out, P7.out⟩ K4.out HE4.out HFIT.out.2.2, F5.out.step (Fr.drewN _ _)⟩
                        case measure => have := HE4.out; have := HFIT.out.2.2; have := K4.out; have := HJ.out; have := K3.out; exact fmeas_lt n j e4 (by omega) (by omega) (by omega)
                      · have P7 := hid p7
                        have q7 : (m.sure.length : Int) - 2 < (L.fin : Int) + (e4 : Int) - (L.blk.from_ : Int) := by have := HBIG.out; omega
                        clear p7
                        go_quiet ((go_at_call 115; exact Calls.quiet_of_same (HR.out _ (O5.out.next (Fr.drewN _ _)))))
                        clear hx1 hx2
                        go_wp2_with fail
                        go_ret2
                        exact ⟨F5.out.step (Fr.drewN _ _), 0, rfl, .inl ⟨rfl, HNO.out (fun n' e _ => P7.out (by have := e.ring; rw [← e.parts] at this; exact this))⟩⟩
              · have K3 := hid k3
                have q3 : ((e3 : Int) != (j : Int)) = true := by rw [bne_iff_ne]; omega
                clear k3
                go_wp2_with fail
                go_ret2
                exact ⟨F4.out, 0, rfl, .inl ⟨rfl, HNO.out (fun n' e _ => K3.out e.part)⟩⟩
          · have K2 := hid k2
            have q2 : ((e2 : Int) != (nx : Int)) = true := by rw [bne_iff_ne]; omega
            clear k2
            go_region_held3 (fun W => W.cell? ⟨b, 2, none⟩ = some (.int .i64 e2))
              (first | assumption | go_keep)
              (first
              | (go_at_call 70; refine (HN.out _ (O3.out.next (by first | exact Fr.refl _ _ | exact Fr.drew _))).mono ?_; rintro e w9 ⟨rfl, k9, rfl⟩))
            all_goals
              go_wp2_with fail
              go_ret2
              exact ⟨F3.out.step (Fr.drewN _ _), 0, rfl, .inl ⟨rfl, HNO.out (fun n' e _ => K2.out e.seq)⟩⟩
        · have K1 := hid k1
          have q1 : ((e0 : Int) != 2) = true := by rw [bne_iff_ne]; omega
          clear k1
          go_wp2_with fail
          go_ret2
          refine ⟨F2.out.step (Fr.alloc _ _), 0, rfl, .inl ⟨rfl, hu.out.no HJ.out (fun n' h' d' e1' e2' _ => ?_)⟩⟩
          rw [HOO.out] at e1'
          cases e1'
          exact K1.out e2'.kind
      · unfold zeroHd Hd.val intv
        rcases hr with rfl | rfl
        all_goals
          go_wp2_with fail
          go_ret2
          refine ⟨F2.out.step (Fr.alloc _ _), 0, rfl, .inl ⟨rfl, hu.out.no HJ.out (fun n' h' d' e1' e2' _ => ?_)⟩⟩
          rw [HOO.out] at e1'
          cases e1'
    · go_wp2_with fail
      go_ret2
      have hjn : j = n := by rcases hu.out with ⟨h1, h2⟩ | ⟨h1, h2, h3, h4⟩ <;> omega
      subst hjn
      exact ⟨hf.out, j, rfl, .inr ⟨by rcases hu.out with ⟨h1, h2⟩ | ⟨h1, h2, h3, h4⟩ <;> omega, hu.out.done⟩⟩

end Go.Proofs.Ytpimjachhfnlfaa
