/-
  seglog's Open of a device that holds a log. No condition but that the device is up, and the numbers are not great.
-/
import Derived.Test.YtpimjachhfnlfaaSScan
namespace Go.Proofs.Ytpimjachhfnlfaa
open Go.RowKit

theorem openLg_fit {B : Blk} {l : List (Nat × Nat)} {z N : Nat} (hB : B.Few) (h : Chain B.from_ l z) (hz : z + 2 ≤ B.from_ + N) (hN : N ≤ 4096) : (openLg B l z).blk.Fit := by
  obtain ⟨h1, -⟩ := chain_few h hz hN
  have h2 := hB.gen
  have h3 := hB.epoch
  have h4 := hB.first
  have h5 := hB.from_
  refine ⟨?_, ?_, ?_, ?_, ?_⟩
  · show B.gen + 1 < 72057594037927936; omega
  · show B.epoch + 1 < 72057594037927936; omega
  · show B.first < 72057594037927936; omega
  · show B.from_ < 72057594037927936; omega
  · show B.first + l.length < 72057594037927936; omega

/-- What Open answers. -/
def openPost (w0 w : World) (p : Nat) (m : Dv) (B : Blk) (e : Ending) (w' : World) : Prop :=
  ∃ l z, Scanned m B l z ∧ z + 2 ≤ B.from_ + m.sure.length ∧ Fr (LW w0 w) w w' ∧
    (((m.saved (openLg B l z).blk).2 = 0 ∧ ∃ q, e = .returned (.tuple #[.pointer (some ⟨q, 0, none⟩), .int .i64 0]) ∧ OwnL w0 w' q p (m.saved (openLg B l z).blk).1 (openLg B l z))
      ∨ ((m.saved (openLg B l z).blk).2 ≠ 0 ∧ e = .returned (.tuple #[.pointer none, .int .i64 (m.saved (openLg B l z).blk).2]) ∧ Own w0 w' p (m.saved (openLg B l z).blk).1))

set_option maxRecDepth 100000 in
set_option maxHeartbeats 4000000 in
theorem lopen_any {w0 w : World} {p : Nat} {m : Dv} {B : Blk} (h : Own w0 w p m) (hd : m.down = false) (h4 : 4 ≤ m.sure.length) (few : m.unsure.length < 1099511627775) (hl : loadM m = some B) (hB : B.Few) (he : 1 ≤ B.epoch) (hc : B.first ≤ B.count)
    (hlaw : ∀ l z, Scanned m B l z → B.count ≤ B.first + l.length) :
    Calls Try.prog 61 #[.pointer (some ⟨p, 0, none⟩)] w fun e w' => openPost w0 w p m B e w' := by
  have HO := hid h
  have hN : m.sure.length ≤ 4096 := by obtain ⟨S, hd, -⟩ := h; exact hd.wf.few
  have HL : Hid (∀ W, Own w0 W p m → Calls Try.prog 33 #[.pointer (some ⟨p, 0, none⟩)] W fun e w' => e = .returned (.int .i64 m.sure.length) ∧ w' = W) := by
    intro W hW
    obtain ⟨S, hd, -⟩ := hW
    exact len_any W hd
  have HD : Hid (∀ W, Own w0 W p m → Calls Try.prog 32 #[.pointer (some ⟨p, 0, none⟩)] W fun e w' => e = .returned (.bool false) ∧ w' = W) := by
    intro W hW
    obtain ⟨S, hd2, -⟩ := hW
    have := down_any W hd2
    rw [hd] at this
    exact this
  have HLD : Hid (∀ W, Own w0 W p m → Calls Try.prog 36 #[.pointer (some ⟨p, 0, none⟩)] W fun e w' => e = .returned (.tuple #[B.val, .int .i64 0]) ∧ Fr No W w') := by
    intro W hW
    have := load_any hW hd (by omega) (by omega)
    rw [hl] at this
    exact this
  have HSC := hid (fun q W (h : OwnL w0 W q p m (scanLg zeroBlk [] 0)) => scan_any B h hd (by omega) hN (by omega) hB he hc hlaw)
  have HSV := hid (fun l z (hs : Scanned m B l z) (hz : z + 2 ≤ B.from_ + m.sure.length) W (h : Own w0 W p m) => save_any (openLg B l z).blk h hd (by omega) few (openLg_fit hB hs.chain hz hN) (by rw [hl]; rfl))
  have hi4 : ¬ (m.sure.length : Int) < 4 := by omega
  have HM := hid (fun W (h : Own w0 W p m) => OwnL.make h (scanLg zeroBlk [] 0) ⟨by decide, by decide, by decide, by decide, by decide, by decide, by decide, fun r hr => by cases hr⟩ rfl)
  clear h hd h4 few hl hB he hc hlaw hN
  obtain ⟨b0, b1, b2, b3, b4⟩ := B
  unfold Blk.val intv at HLD
  go_enter Try.func61, Try.ntmps61
  go_wp2_with fail
  refine (HL.out _ HO.out).mono ?_
  rintro e w' ⟨rfl, rfl⟩
  go_wp2_with fail
  refine (HD.out _ HO.out).mono ?_
  rintro e w' ⟨rfl, rfl⟩
  have O1 : Hid (OwnL w0 (w'.alloc (.cells #[.pointer (some ⟨p, 0, none⟩), .int .i64 0, .int .i64 0, .int .i64 0, .int .i64 0, .int .i64 0, .slice none 0 0, .int .i64 0, .bool false] 176)) w'.heap.size p m (scanLg zeroBlk [] 0)) := HM.out _ HO.out
  have F1 := hid (Fr.alloc (S := No) w' (.cells #[.pointer (some ⟨p, 0, none⟩), .int .i64 0, .int .i64 0, .int .i64 0, .int .i64 0, .int .i64 0, .slice none 0 0, .int .i64 0, .bool false] 176))
  clear HM HL HD
  go_wp2_with fail
  refine (HLD.out _ O1.out.dev).mono ?_
  rintro e w2 ⟨rfl, hf2⟩
  have O2 := hid (O1.out.next hf2)
  have F2 := hid (F1.out.step hf2)
  clear hf2
  go_wp2_with fail
  have O3 := hid (O2.out.next (Fr.alloc w2 (.cells #[.int .i64 b0, .int .i64 b1, .int .i64 b2, .int .i64 b3, .int .i64 b4] 61)))
  have F3 := hid (F2.out.step (Fr.alloc w2 (.cells #[.int .i64 b0, .int .i64 b1, .int .i64 b2, .int .i64 b3, .int .i64 b4] 61)))
  refine (HSC.out _ _ O3.out).mono ?_
  rintro e w4 ⟨rfl, l, z, hsc, hz, ho4, hf4⟩
  have S4 := hid hsc
  have Z4 := hid hz
  have O4 := hid ho4
  have F4 := hid ((F3.out.any (T := LW w0 w')).lws hf4)
  clear hsc hz ho4 hf4 O1 O2 O3 F1 F2 F3 HLD
  generalize w'.heap.size = q at *
  obtain ⟨lv, hl, -⟩ := O4.out.log
  have c1 : w4.cell? ⟨q, 1, none⟩ = some (.int .i64 ((b0 + 1 : Nat) : Int)) := hl.c1
  have c2 : w4.cell? ⟨q, 2, none⟩ = some (.int .i64 ((b1 + 1 : Nat) : Int)) := hl.c2
  have c3 : w4.cell? ⟨q, 3, none⟩ = some (.int .i64 b2) := hl.c3
  have c4 : w4.cell? ⟨q, 4, none⟩ = some (.int .i64 b3) := hl.c4
  have c5 : w4.cell? ⟨q, 5, none⟩ = some (.int .i64 ((b2 + l.length : Nat) : Int)) := hl.c5
  have HSVL := hid (HSV.out l z S4.out Z4.out)
  obtain ⟨d, r, hr⟩ : ∃ d r, (d, r) = m.saved (openLg ⟨b0, b1, b2, b3, b4⟩ l z).blk := ⟨_, _, rfl⟩
  have HR := hid hr
  rw [← hr] at HSVL
  have HSVL : Hid (∀ W, Own w0 W p m → Calls Try.prog 38 #[.pointer (some ⟨p, 0, none⟩), .agg #[.int .i64 ((b0 : Int) + 1), .int .i64 ((b1 : Int) + 1), .int .i64 b2, .int .i64 b3, .int .i64 ((b2 : Int) + (l.length : Int))]] W fun e w' => e = .returned (.int .i64 r) ∧ Own w0 w' p d ∧ Fr (Wr (New w0) W) W w') := HSVL.out
  clear hl hr HSC HSV
  go_wp2_with fail
  refine (HSVL.out _ O4.out.dev).mono ?_
  rintro e w6 ⟨rfl, ho6, hf6⟩
  have O6 := hid (O4.out.dev' ho6 hf6)
  have D6 := hid ho6
  have F6 := hid (F4.out.lws hf6.ofWrL)
  clear ho6 hf6
  by_cases hz : r = 0
  · subst hz
    go_wp2_with fail
    go_ret2
    refine ⟨l, z, S4.out, Z4.out, F6.out, .inl ?_⟩
    rw [← HR.out]
    exact ⟨rfl, q, rfl, O6.out⟩
  · have HZ := hid hz
    go_wp2_with fail
    go_ret2
    refine ⟨l, z, S4.out, Z4.out, F6.out, .inr ?_⟩
    rw [← HR.out]
    exact ⟨HZ.out, rfl, D6.out⟩

end Go.Proofs.Ytpimjachhfnlfaa
