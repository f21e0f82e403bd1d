/-
  seglog's Open of a device that holds nothing. No condition but that the device is up, and new.
-/
import Derived.Test.YtpimjachhfnlfaaSLaw
namespace Go.Proofs.Ytpimjachhfnlfaa
open Go.RowKit

def zeros512 : List UInt8 := List.replicate 512 0

theorem zeros512_at (j : Nat) (h : j < 512) : (bvs zeros512)[j]? = some (.int .u8 0) := by
  unfold bvs zeros512
  rw [List.map_replicate, List.getElem?_replicate, if_pos h]
  rfl

set_option maxRecDepth 100000 in
set_option maxHeartbeats 2000000 in
theorem blank_any {w0 w : World} {p : Nat} {m : Dv} (h : Own w0 w p m) (hd : m.down = false) (hn : m.sure.length ≤ 4096) (few : m.unsure.length ≤ 1099511627776) (hs : ∀ k, k < m.sure.length → m.seen k = some zeros512) :
    Calls Try.prog 113 #[.pointer (some ⟨p, 0, none⟩)] w fun e w' => e = .returned (.tuple #[.bool true, .int .i64 0]) ∧ Fr No w w' := by
  have HO := hid h
  have HL : Hid (∀ W, Own w0 W p m → Calls Try.prog 33 #[.pointer (some ⟨p, 0, none⟩)] W fun e w' => e = .returned (.int .i64 m.sure.length) ∧ w' = W) := by
    intro W hW
    obtain ⟨S, hd, -⟩ := hW
    exact len_any W hd
  have HR := hid (fun k (hk : k < m.sure.length) W (h : Own w0 W p m) => own_readU k zeros512 h hd hk few (hs k hk))
  obtain ⟨n, hnn⟩ : ∃ n, n = m.sure.length := ⟨_, rfl⟩
  rw [← hnn] at HL HR hn
  clear h hd few hs hnn
  go_enter Try.func113, Try.ntmps113
  go_wp2_with fail
  refine (HL.out _ HO.out).mono ?_
  rintro e w' ⟨rfl, rfl⟩
  go_wp2_with fail
  go_loopw [11] (fun i wr => ∃ j : Nat, j ≤ n ∧ i = .int .i64 j ∧ Hid (Fr No w' wr)) (fun i _ => n - (intOf i).toNat)
  case atStart => exact ⟨0, Nat.zero_le _, rfl, Fr.refl _ _⟩
  case round =>
    obtain ⟨j, hj, rfl, hf⟩ := hrel
    by_cases hlt : j < n
    · have HJ := hid hlt
      go_wp2_with fail
      refine (HR.out j HJ.out _ (HO.out.next hf.out)).mono ?_
      rintro e w2 ⟨g, c, rfl, hr, hc, hg, hf2⟩
      have R2 := hid hr
      have F2 := hid (hf.out.step hf2)
      clear hr hc hg hf2
      go_wp2_with fail
      go_loopw [27] (fun i wr => ∃ t : Nat, t ≤ 512 ∧ i = .int .i64 t ∧ wr = w2) (fun i _ => 512 - (intOf i).toNat)
      case atStart => exact ⟨0, Nat.zero_le _, rfl, rfl⟩
      case round =>
        obtain ⟨t, ht, rfl, rfl⟩ := hrel
        by_cases hlt2 : t < 512
        · have hc := R2.out.cell t _ (zeros512_at t hlt2)
          go_wp2_with fail
          go_roundw
          case rel => exact ⟨t + 1, by omega, by go_num, by trivial⟩
          case measure => simp [intOf]; omega
        · go_wp2_with fail
          go_roundw
          case rel => exact ⟨j + 1, HJ.out, by go_num, F2.out⟩
          case measure => have := HJ.out; simp [intOf]; omega
    · go_wp2_with fail
      go_ret2
      exact ⟨rfl, hf.out⟩

/-- The log of a new device. -/
def Lg.new : Lg := ⟨⟨0, 1, 0, 0, 0⟩, [], 0, false⟩

theorem Lg.new_fit : Lg.new.blk.Fit := ⟨by decide, by decide, by decide, by decide, by decide⟩

theorem OwnL.make {w0 w : World} {p : Nat} {m : Dv} (h : Own w0 w p m) (L : Lg) (hs : L.Small) (hl : L.list = []) :
    OwnL w0 (w.alloc (.cells #[.pointer (some ⟨p, 0, none⟩), .int .i64 L.blk.gen, .int .i64 L.blk.epoch, .int .i64 L.blk.first, .int .i64 L.blk.from_, .int .i64 L.blk.count, .slice none 0 0, .int .i64 L.fin, .bool L.down] 176)) w.heap.size p m L := by
  refine ⟨h.next (Fr.alloc _ _), ⟨.slice none 0 0, ⟨heap_alloc_new _ _, ?_⟩, fun k hk => by cases hk⟩, h.fr.size, hs⟩
  rw [hl]
  exact World.ownsRow_nil _ _ _ _

theorem OwnL.setBlk {w0 w w' : World} {q p : Nat} {m : Dv} {L : Lg} (h : OwnL w0 w q p m L) (B : Blk) (hs : Lg.Small { L with blk := B }) (f : Fr (· = q) w w')
    (hh : ∀ lv, w.heap[q]? = some (.cells #[.pointer (some ⟨p, 0, none⟩), .int .i64 L.blk.gen, .int .i64 L.blk.epoch, .int .i64 L.blk.first, .int .i64 L.blk.from_, .int .i64 L.blk.count, lv, .int .i64 L.fin, .bool L.down] 176 (0, 0)) →
      w'.heap[q]? = some (.cells #[.pointer (some ⟨p, 0, none⟩), .int .i64 B.gen, .int .i64 B.epoch, .int .i64 B.first, .int .i64 B.from_, .int .i64 B.count, lv, .int .i64 L.fin, .bool L.down] 176 (0, 0))) :
    OwnL w0 w' q p m { L with blk := B } ∧ Fr (LW w0 w) w w' := by
  obtain ⟨hd, ⟨lv, hl, hk⟩, hn, -⟩ := h
  refine ⟨⟨hd.other f hl.head (by decide) (by decide) (by decide) (by decide) hn, ⟨lv, ⟨hh lv hl.head, owns_fr hl.list f hl.q_ne⟩, hk⟩, hn, hs⟩, f.mono fun i _ hi => ?_⟩
  rw [hi]
  exact ⟨hn, .inr (.inl ⟨_, _, hl.head⟩)⟩

theorem nine {w : World} {q : Nat} {e : TypeId} {a0 a1 a2 a3 a4 a5 a6 a7 a8 : Value} (h : w.heap[q]? = some (.cells #[a0, a1, a2, a3, a4, a5, a6, a7, a8] e (0, 0))) (v1 v2 v3 v4 v5 : Value) :
    (((((w.setCell ⟨q, 1, none⟩ v1).setCell ⟨q, 2, none⟩ v2).setCell ⟨q, 3, none⟩ v3).setCell ⟨q, 4, none⟩ v4).setCell ⟨q, 5, none⟩ v5).heap[q]? = some (.cells #[a0, v1, v2, v3, v4, v5, a6, a7, a8] e (0, 0))
      ∧ Fr (· = q) w (((((w.setCell ⟨q, 1, none⟩ v1).setCell ⟨q, 2, none⟩ v2).setCell ⟨q, 3, none⟩ v3).setCell ⟨q, 4, none⟩ v4).setCell ⟨q, 5, none⟩ v5) := by
  refine ⟨?_, ((((Fr.set1 _ _ _ _).step (Fr.set1 _ _ _ _)).step (Fr.set1 _ _ _ _)).step (Fr.set1 _ _ _ _)).step (Fr.set1 _ _ _ _)⟩
  have h1 := heap_setCell_same w q 1 _ _ v1 h
  have h2 := heap_setCell_same _ q 2 _ _ v2 h1
  have h3 := heap_setCell_same _ q 3 _ _ v3 h2
  have h4 := heap_setCell_same _ q 4 _ _ v4 h3
  have h5 := heap_setCell_same _ q 5 _ _ v5 h4
  rw [h5]
  simp

theorem bagg_small : Lg.Small Lg.new := ⟨by decide, by decide, by decide, by decide, by decide, by decide, by decide, fun r hr => by cases hr⟩

/-- The device behind the first Open. -/
def Dv.first (n : Nat) : Dv := (Dv.zero n).put Lg.new.blk

set_option maxRecDepth 100000 in
set_option maxHeartbeats 2000000 in
theorem lopen_new {w0 w : World} {p : Nat} (n : Nat) (h : Own w0 w p (Dv.zero n)) (h4 : 4 ≤ n) (hn : n ≤ 4096) :
    Calls Try.prog 61 #[.pointer (some ⟨p, 0, none⟩)] w fun e w' => ∃ q, e = .returned (.tuple #[.pointer (some ⟨q, 0, none⟩), .int .i64 0]) ∧ OwnL w0 w' q p (Dv.first n) Lg.new ∧ Fr (LW w0 w) w w' := by
  have HO := hid h
  have hlen : (Dv.zero n).sure.length = n := new_zero_len n
  have HL : Hid (∀ W, Own w0 W p (Dv.zero n) → Calls Try.prog 33 #[.pointer (some ⟨p, 0, none⟩)] W fun e w' => e = .returned (.int .i64 n) ∧ w' = W) := by
    intro W hW
    obtain ⟨S, hd, -⟩ := hW
    have := len_any W hd
    rw [hlen] at this
    exact this
  have HD : Hid (∀ W, Own w0 W p (Dv.zero n) → Calls Try.prog 32 #[.pointer (some ⟨p, 0, none⟩)] W fun e w' => e = .returned (.bool false) ∧ w' = W) := by
    intro W hW
    obtain ⟨S, hd, -⟩ := hW
    exact down_any W hd
  have hload : loadM (Dv.zero n) = none := load_zero n (by omega)
  have HLD : Hid (∀ W, Own w0 W p (Dv.zero n) → Calls Try.prog 36 #[.pointer (some ⟨p, 0, none⟩)] W fun e w' => e = .returned (.tuple #[.agg #[.int .i64 0, .int .i64 0, .int .i64 0, .int .i64 0, .int .i64 0], .int .i64 11]) ∧ Fr No W w') := by
    intro W hW
    have := load_any hW rfl (by rw [hlen]; omega) (by show 0 ≤ _; omega)
    rw [hload] at this
    exact this
  have HB := hid (fun W (h : Own w0 W p (Dv.zero n)) => blank_any h rfl (by rw [hlen]; exact hn) (by show 0 ≤ _; omega) (fun k hk => by
    rw [seen_clean rfl hk]
    have e : (Dv.zero n).sure[k] = zeroSec := by simp [Dv.zero]
    rw [e]
    rfl))
  have HS : Hid (∀ W, Own w0 W p (Dv.zero n) → Calls Try.prog 38 #[.pointer (some ⟨p, 0, none⟩), .agg #[.int .i64 0, .int .i64 1, .int .i64 0, .int .i64 0, .int .i64 0]] W fun e w' => e = .returned (.int .i64 0) ∧ Own w0 w' p (Dv.first n) ∧ Fr (Wr (New w0) W) W w') := by
    intro W hW
    exact own_save Lg.new.blk hW (zero_live n) rfl (by rw [hlen]; omega) Lg.new_fit (by rw [hload]; rfl)
  have hi4 : ¬ (n : Int) < 4 := by omega
  have HM := hid (fun W (h : Own w0 W p (Dv.zero n)) => OwnL.make h (⟨⟨0, 0, 0, 0, 0⟩, [], 0, false⟩ : Lg) ⟨by decide, by decide, by decide, by decide, by decide, by decide, by decide, fun r hr => by cases hr⟩ rfl)
  clear h hlen hload hn h4
  go_enter Try.func61, Try.ntmps61
  go_wp2_with fail
  refine (HL.out _ HO.out).mono ?_
  rintro e w' ⟨rfl, rfl⟩
  go_wp2_with fail
  refine (HD.out _ HO.out).mono ?_
  rintro e w' ⟨rfl, rfl⟩
  have O1 := hid (HM.out _ HO.out)
  have F1 := hid (Fr.alloc (S := No) w' (.cells #[.pointer (some ⟨p, 0, none⟩), .int .i64 0, .int .i64 0, .int .i64 0, .int .i64 0, .int .i64 0, .slice none 0 0, .int .i64 0, .bool false] 176))
  clear HM HL HD
  go_wp2_with fail
  refine (HLD.out _ O1.out.dev).mono ?_
  rintro e w2 ⟨rfl, hf2⟩
  have O2 := hid (O1.out.next hf2)
  have F2 := hid (F1.out.step hf2)
  have G2 : Hid (w'.heap.size < w2.heap.size) := by have := hf2.size; simp at this; show _ < _; omega
  clear hf2
  go_wp2_with fail
  have O3 := hid (O2.out.next (Fr.alloc w2 (.cells #[.int .i64 0, .int .i64 0, .int .i64 0, .int .i64 0, .int .i64 0] 61)))
  have F3 := hid (F2.out.step (Fr.alloc w2 (.cells #[.int .i64 0, .int .i64 0, .int .i64 0, .int .i64 0, .int .i64 0] 61)))
  refine (HB.out _ O3.out.dev).mono ?_
  rintro e w3 ⟨rfl, hf3⟩
  have O4 := hid (O3.out.next hf3)
  have F4 := hid (F3.out.step hf3)
  generalize w'.heap.size = q at *
  clear hf3 HB HLD O1 F1 O2 F2 O3 F3
  obtain ⟨lv, hl, -⟩ := O4.out.log
  have c1 := hl.c1
  have c2 := hl.c2
  have c3 := hl.c3
  have c4 := hl.c4
  have c5 := hl.c5
  have g1 := hl.free 1
  have g2 := hl.free 2
  have g3 := hl.free 3
  have g4 := hl.free 4
  have g5 := hl.free 5
  have HH := hid hl.head
  clear hl
  go_wp2_with fail
  have HN := hid (nine HH.out (.int .i64 0) (.int .i64 1) (.int .i64 0) (.int .i64 0) (.int .i64 0))
  have HSB : Hid (∀ W, Fr (· = q) w3 W → W.heap[q]? = some (.cells #[.pointer (some ⟨p, 0, none⟩), .int .i64 0, .int .i64 1, .int .i64 0, .int .i64 0, .int .i64 0, lv, .int .i64 0, .bool false] 176 (0, 0)) → OwnL w0 W q p (Dv.zero n) Lg.new ∧ Fr (LW w0 w3) w3 W) := by
    intro W f hh
    refine O4.out.setBlk Lg.new.blk bagg_small f (fun lv2 h2 => ?_)
    have := HH.out
    rw [this] at h2
    injection h2 with h2
    injection h2 with h2
    have e : lv = lv2 := by
      have := congrArg (fun a : Array Value => a[6]?) h2
      simpa using this
    rw [← e]
    exact hh
  have HS2 := hid (HSB.out _ HN.out.2 HN.out.1)
  clear HSB HN HH c1 c2 c3 c4 c5 g1 g2 g3 g4 g5 O4
  generalize (((((w3.setCell ⟨q, 1, none⟩ (.int .i64 0)).setCell ⟨q, 2, none⟩ (.int .i64 1)).setCell ⟨q, 3, none⟩ (.int .i64 0)).setCell ⟨q, 4, none⟩ (.int .i64 0)).setCell ⟨q, 5, none⟩ (.int .i64 0)) = w5 at *
  refine (HS.out _ HS2.out.1.dev).mono ?_
  rintro e w6 ⟨rfl, ho6, hf6⟩
  have O6 := hid (HS2.out.1.dev' ho6 hf6)
  have F6 := hid (((F4.out.any (T := LW w0 w')).lws HS2.out.2).lws hf6.ofWrL)
  clear ho6 hf6 HS2
  go_wp2_with fail
  go_ret2
  exact ⟨_, rfl, O6.out, F6.out⟩

end Go.Proofs.Ytpimjachhfnlfaa
