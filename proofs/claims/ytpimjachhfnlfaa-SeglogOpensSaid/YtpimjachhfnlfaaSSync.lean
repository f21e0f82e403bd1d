/-
  seglog's Sync and part. No condition but that the log is up.
-/
import Derived.Test.YtpimjachhfnlfaaSlog
import Derived.Deep.RegionHeld3
namespace Go.Proofs.Ytpimjachhfnlfaa
open Go.RowKit

set_option maxRecDepth 100000 in
theorem lsync_any {w0 w : World} {q p : Nat} {m : Dv} {L : Lg} (h : OwnL w0 w q p m L) (h1 : L.down = false) (h2 : m.down = false) (few : m.unsure.length ≤ 1099511627776) :
    Calls Try.prog 69 #[.pointer (some ⟨q, 0, none⟩)] w fun e w' => e = .returned (.int .i64 m.sync.2) ∧ OwnL w0 w' q p m.sync.1 { L with down := m.sync.2 == 8 } ∧ Fr (LW w0 w) w w' := by
  have H1 := hid (lcheck_ok h h1 h2)
  have H2 := hid (own_syncU h.dev few)
  have HO := hid h
  have HD := hid h1
  obtain ⟨lv, hl, -⟩ := h.log
  have c0 := hl.c0
  obtain ⟨m1, r, hr⟩ : ∃ m1 r, (m1, r) = m.sync := ⟨_, _, rfl⟩
  rw [← hr] at H2 ⊢
  clear h h1 h2 hl hr
  go_enter Try.func69, Try.ntmps69
  go_wp2_with fail
  refine H1.out.mono ?_
  rintro e w' ⟨rfl, rfl⟩
  go_wp2_with fail
  refine H2.out.mono ?_
  rintro e w2 ⟨rfl, h2, f2⟩
  have O2 := hid (HO.out.dev' h2 f2)
  have F2 := hid (f2.ofWrL)
  clear h2 f2 c0
  go_wp2_with fail
  refine (did_any r O2.out).mono ?_
  rintro e w3 ⟨rfl, h3, f3⟩
  have O3 := hid h3
  have F3 := hid (Fr.lws (w0 := w0) F2.out f3)
  clear h3 f3
  go_wp2_with fail
  go_ret
  have h := O3.out
  rw [HD.out, Bool.false_or] at h
  exact ⟨rfl, h, F3.out⟩

/-- What part answers. -/
def partPost (w : World) (o : Option (Hd × List UInt8)) (e : Ending) (w' : World) : Prop :=
  Fr No w w' ∧ ((∃ h d g c', o = some (h, d) ∧ e = .returned (.tuple #[h.val, .slice (some ⟨g, 0, none⟩) d.length c', .int .i64 0]) ∧ Row w' g 5 (bvs d) ∧ (d.length ≤ c' ∧ c' ≤ maxLen) ∧ w.heap.size ≤ g)
      ∨ (o = none ∧ ∃ r, (r = 9 ∨ r = 14) ∧ e = .returned (.tuple #[zeroHd.val, .slice none 0 0, .int .i64 r])))

set_option maxRecDepth 100000 in
set_option maxHeartbeats 2000000 in
theorem part_torn {w0 w : World} {q p : Nat} {m : Dv} {L : Lg} (place : Nat) (h : OwnL w0 w q p m L) (h2 : m.down = false) (h3 : 3 ≤ m.sure.length) (few : m.unsure.length ≤ 1099511627776) (hp : place < 2305843009213693952) (hs : m.seen (m.pos place) = none) :
    Calls Try.prog 120 #[.pointer (some ⟨q, 0, none⟩), .int .i64 place] w fun e w' => partPost w none e w' := by
  have hpos : m.pos place < m.sure.length := by unfold Dv.pos; have := Nat.mod_lt place (show 0 < m.sure.length - 2 by omega); omega
  have HO := hid h
  have HP := hid (fun W (h : OwnL w0 W q p m L) => lat_any place h h3 hp)
  have HR := hid (fun W (h : OwnL w0 W q p m L) => own_tornU (m.pos place) h.dev h2 hpos few hs)
  generalize m.pos place = pos at *
  obtain ⟨lv, hl, -⟩ := h.log
  have c0 := hl.c0
  have HA : Hid ((w.alloc (.cells #[.int .i64 0, .int .i64 0, .int .i64 0, .int .i64 0, .int .i64 0] 144)).heap[w.heap.size]? = some (.cells #[.int .i64 0, .int .i64 0, .int .i64 0, .int .i64 0, .int .i64 0] 144 (0, 0))) := heap_alloc_new w _
  have e0 := (fun (o : Obj) => (Fr.alloc (S := No) w o).cell c0 id)
  have O1 := hid (HO.out.next ((Fr.alloc (S := No) w (.cells #[.int .i64 0, .int .i64 0, .int .i64 0, .int .i64 0, .int .i64 0] 144)).step (Fr.drew _)))
  clear h h2 hs hl
  go_enter Try.func120, Try.ntmps120
  go_wp2_with fail
  go_region_held3 (fun W => W.cell? ⟨q, 0, none⟩ = some (.pointer (some ⟨p, 0, none⟩)))
    (first | assumption | go_keep)
    (first
    | (go_at_call 119; refine (HP.out _ O1.out).mono ?_; rintro e w' ⟨rfl, rfl⟩)
    | (go_at_call 23; refine (HR.out _ O1.out).mono ?_; rintro e w' ⟨rfl, rfl⟩))
  have A1 := hid ((Fr.drew (S := No) (w.alloc (.cells #[.int .i64 0, .int .i64 0, .int .i64 0, .int .i64 0, .int .i64 0] 144))).heap0 HA.out)
  have F1 := hid ((Fr.alloc (S := No) w (.cells #[.int .i64 0, .int .i64 0, .int .i64 0, .int .i64 0, .int .i64 0] 144)).step (Fr.drew _))
  go_wp2_with fail
  obtain ⟨q0, q1, q2, q3, q4⟩ := five_cells A1.out
  exact bodyPost_ret (v := .tuple #[zeroHd.val, .slice none 0 0, .int .i64 9]) (by simp [results, Try.results120, go_sem, zeroHd, Hd.val, intv]) rfl ⟨F1.out, .inr ⟨rfl, 9, .inl rfl, rfl⟩⟩

set_option maxRecDepth 100000 in
set_option maxHeartbeats 2000000 in
theorem part_seen {w0 w : World} {q p : Nat} {m : Dv} {L : Lg} (place : Nat) (h : OwnL w0 w q p m L) (h2 : m.down = false) (h3 : 3 ≤ m.sure.length) (few : m.unsure.length ≤ 1099511627776) (hp : place < 2305843009213693952) (l : List UInt8) (hs : m.seen (m.pos place) = some l) (hll : l.length = 512) :
    Calls Try.prog 120 #[.pointer (some ⟨q, 0, none⟩), .int .i64 place] w fun e w' => partPost w (opened l) e w' := by
  have hpos : m.pos place < m.sure.length := by unfold Dv.pos; have := Nat.mod_lt place (show 0 < m.sure.length - 2 by omega); omega
  have HO := hid h
  have HLL := hid hll
  have HP := hid (fun W (h : OwnL w0 W q p m L) => lat_any place h h3 hp)
  have HR := hid (fun W (h : OwnL w0 W q p m L) => own_readU (m.pos place) l h.dev h2 hpos few hs)
  generalize m.pos place = pos at *
  obtain ⟨lv, hl, -⟩ := h.log
  have c0 := hl.c0
  have HA : Hid ((w.alloc (.cells #[.int .i64 0, .int .i64 0, .int .i64 0, .int .i64 0, .int .i64 0] 144)).heap[w.heap.size]? = some (.cells #[.int .i64 0, .int .i64 0, .int .i64 0, .int .i64 0, .int .i64 0] 144 (0, 0))) := heap_alloc_new w _
  have e0 := (fun (o : Obj) => (Fr.alloc (S := No) w o).cell c0 id)
  have O1 := hid (HO.out.next ((Fr.alloc (S := No) w (.cells #[.int .i64 0, .int .i64 0, .int .i64 0, .int .i64 0, .int .i64 0] 144)).step (Fr.drew _)))
  have A0 := hid ((Fr.drew (S := No) (w.alloc (.cells #[.int .i64 0, .int .i64 0, .int .i64 0, .int .i64 0, .int .i64 0] 144))).heap0 HA.out)
  have F0 := hid ((Fr.alloc (S := No) w (.cells #[.int .i64 0, .int .i64 0, .int .i64 0, .int .i64 0, .int .i64 0] 144)).step (Fr.drew _))
  clear h h2 hs hl hll
  go_enter Try.func120, Try.ntmps120
  go_wp2_with fail
  go_region_held3 (fun W => W.cell? ⟨q, 0, none⟩ = some (.pointer (some ⟨p, 0, none⟩)))
    (first | assumption | go_keep)
    (first
    | (go_at_call 119; refine (HP.out _ O1.out).mono ?_; rintro e w' ⟨rfl, rfl⟩)
    | (go_at_call 23; refine (HR.out _ O1.out).mono ?_; rintro e w1 ⟨g1, c1, rfl, hr1, hcm1, hg1, hf1⟩; have A1 := hid (hf1.heap0 A0.out); have F1 := hid (F0.out.step hf1); have R1 := hid (hr1.bytes HLL.out); have CM := hid hcm1; have k1 := hf1.cell (e0 (.cells #[.int .i64 0, .int .i64 0, .int .i64 0, .int .i64 0, .int .i64 0] 144)) id; clear hr1 hcm1 hg1 hf1))
  all_goals
    go_wp2_with fail
    refine (open_any g1 0 c1 l w1 R1.out CM.out.1 CM.out.2).mono ?_
    rintro e w2 ⟨hf2, hcase⟩
    have A2 := hid (hf2.heap0 A1.out)
    have F2 := hid (F1.out.step hf2)
    clear hf2
    obtain ⟨f0, f1, f2, f3, f4⟩ := five_free A2.out
    obtain ⟨j0, j1, j2, j3, j4⟩ := five_cells A2.out
    rcases hcase with ⟨h, d, g2, c2, ho, rfl, hr2, hcm2, hg2⟩ | ⟨ho, rfl⟩
    · have HOP := hid ho
      have R2 := hid hr2
      have C2 := hid hcm2
      have G2 : Hid (w.heap.size ≤ g2) := by have := F1.out.size; show _ ≤ _; omega
      have G3 : Hid (g2 ≠ w.heap.size) := by
        have := lt_of_some A1.out
        show _ ≠ _
        omega
      clear ho hr2 hcm2 hg2
      obtain ⟨e0, e1, e2, e3, e4⟩ := h
      unfold Hd.val intv
      have HZ := hid (five A2.out (.int .i64 e0) (.int .i64 e1) (.int .i64 e2) (.int .i64 e3) (.int .i64 e4))
      go_wp2_with fail
      obtain ⟨Z, ZF⟩ := HZ.out
      revert Z ZF
      generalize (((((w2.setCell ⟨w.heap.size, 0, none⟩ (.int .i64 e0)).setCell ⟨w.heap.size, 1, none⟩ (.int .i64 e1)).setCell ⟨w.heap.size, 2, none⟩ (.int .i64 e2)).setCell ⟨w.heap.size, 3, none⟩ (.int .i64 e3)).setCell ⟨w.heap.size, 4, none⟩ (.int .i64 e4)) = W
      intro Z ZF
      obtain ⟨q0, q1, q2, q3, q4⟩ := five_cells Z
      exact bodyPost_ret (v := .tuple #[Hd.val ⟨e0, e1, e2, e3, e4⟩, .slice (some ⟨g2, 0, none⟩) d.length c2, .int .i64 0]) (by simp [results, Try.results120, go_sem, q0, q1, q2, q3, q4, Hd.val, intv]) rfl ⟨F2.out.trans ZF (fun k hk => .inr (by rw [hk]; exact Nat.le_refl _)), .inl ⟨_, d, g2, c2, HOP.out, rfl, R2.out.fr ZF G3.out, C2.out, G2.out⟩⟩
    · have HOP := hid ho
      clear ho
      unfold zeroHd Hd.val intv
      have HZ := hid (five A2.out (.int .i64 0) (.int .i64 0) (.int .i64 0) (.int .i64 0) (.int .i64 0))
      go_wp2_with fail
      obtain ⟨Z, ZF⟩ := HZ.out
      revert Z ZF
      generalize (((((w2.setCell ⟨w.heap.size, 0, none⟩ (.int .i64 0)).setCell ⟨w.heap.size, 1, none⟩ (.int .i64 0)).setCell ⟨w.heap.size, 2, none⟩ (.int .i64 0)).setCell ⟨w.heap.size, 3, none⟩ (.int .i64 0)).setCell ⟨w.heap.size, 4, none⟩ (.int .i64 0)) = W
      intro Z ZF
      obtain ⟨q0, q1, q2, q3, q4⟩ := five_cells Z
      exact bodyPost_ret (v := .tuple #[zeroHd.val, .slice none 0 0, .int .i64 14]) (by simp [results, Try.results120, go_sem, q0, q1, q2, q3, q4, zeroHd, Hd.val, intv]) rfl ⟨F2.out.trans ZF (fun k hk => .inr (by rw [hk]; exact Nat.le_refl _)), .inr ⟨HOP.out, 14, .inr rfl, rfl⟩⟩

end Go.Proofs.Ytpimjachhfnlfaa
