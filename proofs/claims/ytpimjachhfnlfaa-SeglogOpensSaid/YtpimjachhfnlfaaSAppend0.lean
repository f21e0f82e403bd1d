/-
  seglog's Append of an empty record. No condition but that the log is up, and the numbers are not great.
-/
import Derived.Test.YtpimjachhfnlfaaSAppend
namespace Go.Proofs.Ytpimjachhfnlfaa
open Go.RowKit

set_option maxRecDepth 100000 in
set_option maxHeartbeats 16000000 in
theorem append_empty {w0 w : World} {q p : Nat} {m : Dv} {L : Lg} (bb bo c : Nat) (h : OwnL w0 w q p m L) (h1 : L.down = false) (h2 : m.down = false) (h3 : 3 ≤ m.sure.length) (hr : (1 : Int) ≤ L.room m)
    (he : L.blk.epoch < 4294967296) (hsq : L.blk.first + L.list.length < 72057594037927936) (few : m.unsure.length + 40 < 1099511627776) (hfb : L.fin + 40 < 1152921504606846976) (hmb : L.list.length + 1 < 1099511627776) :
    Calls Try.prog 67 #[.pointer (some ⟨q, 0, none⟩), .slice (some ⟨bb, bo, none⟩) 0 c] w fun e w' => e = .returned (.tuple #[.int .i64 (appendM m L []).2.2.1, .int .i64 (appendM m L []).2.2.2]) ∧ OwnL w0 w' q p (appendM m L []).1 (appendM m L []).2.1 ∧ Fr (LW w0 w) w w' := by
  have H1 := hid (lcheck_ok h h1 h2)
  have H2 : Hid (Calls Try.prog 118 #[.int .i64 0] w fun e w' => e = .returned (.int .i64 1) ∧ w' = w) := parts_any 0 w (by omega)
  have H3 := hid (room_any h)
  have HO := hid h
  have HE := hid he
  have HSQ := hid hsq
  have HD1 := hid h1
  have hrr : ¬ L.room m < 1 := by omega
  have HB0 : Hid (∀ W k, BytesIn W (some ⟨bb, bo + k, none⟩) 0 (piece [] 0)) := fun W k => ⟨rfl, (fun h => by cases h), (fun ad h j u hu => by simp [piece, bvs] at hu)⟩
  obtain ⟨b, hbb⟩ : ∃ b : List UInt8, b = [] := ⟨_, rfl⟩
  rw [← hbb]
  have HBB := hid hbb
  have HAM : Hid (appendM m L b = if (wrs m L b 1 1).2 ≠ 0 then ((wrs m L b 1 1).1, { L with down := (wrs m L b 1 1).2 == 8 }, 0, (wrs m L b 1 1).2) else ((wrs m L b 1 1).1, { L with list := L.list ++ [(L.fin, 1)], fin := L.fin + 1 }, ((L.blk.first + L.list.length : Nat) : Int), 0)) := by
    show _ = _
    rw [hbb]
    rfl
  obtain ⟨res, hres⟩ : ∃ res, res = appendM m L b := ⟨_, rfl⟩
  rw [← hres] at HAM ⊢
  obtain ⟨rm, hrm⟩ : ∃ rm, rm = L.room m := ⟨_, rfl⟩
  rw [← hrm] at hrr H3
  clear h h1 h2 he hsq hr hres hrm hbb
  go_enter Try.func67, Try.ntmps67
  go_wp2_with fail
  refine H1.out.mono ?_
  rintro e w' ⟨rfl, rfl⟩
  go_wp2_with fail
  refine H2.out.mono ?_
  rintro e w' ⟨rfl, rfl⟩
  go_wp2_with fail
  refine H3.out.mono ?_
  rintro e w' ⟨rfl, k0, rfl⟩
  have O1 := hid (HO.out.next (Fr.drewN w' k0))
  have HN1 := hid (next_any O1.out)
  go_wp2_with fail
  refine HN1.out.mono ?_
  rintro e w2 ⟨rfl, k1, rfl⟩
  have O2 := hid (O1.out.next (Fr.drewN _ k1))
  have F2 : Hid (Fr (LW w0 w') w' ((w'.drewN k0).drewN k1)) := (Fr.drewN _ _).step (Fr.drewN _ _)
  generalize (w'.drewN k0).drewN k1 = w2 at *
  clear H1 H2 H3 HN1
  go_wp2_with fail
  go_loopw [4, 33] (fun v i wr => ∃ j : Nat, j ≤ 1 ∧ i = .int .i64 j ∧ v = .int .i64 ((L.blk.first : Int) + (L.list.length : Int)) ∧ Hid ((wrs m L b 1 j).2 = 0) ∧ Hid (OwnL w0 wr q p (wrs m L b 1 j).1 L) ∧ Hid (Fr (LW w0 w') w' wr)) (fun _ i _ => 1 - (intOf i).toNat)
  case atStart => exact ⟨0, Nat.zero_le _, rfl, rfl, rfl, O2.out, F2.out⟩
  case round =>
    obtain ⟨j, hj, rfl, rfl, hok, ho, hf⟩ := hrel
    rcases (show j = 0 ∨ j = 1 by omega) with rfl | rfl
    · obtain ⟨lv, hl, hlk⟩ := ho.out.log
      have c0 := hl.c0
      have c2 := hl.c2
      have c7 := hl.c7
      have HLA := hid hl
      have hsl := hid (fun k => show Calls Try.prog 86 #[.agg #[.int .i64 2, .int .i64 L.blk.epoch, .int .i64 ((L.blk.first : Int) + (L.list.length : Int)), .int .i64 0, .int .i64 1], .slice (some ⟨bb, bo + k, none⟩) 0 c] wr _ from seal_rec L 1 0 (some ⟨bb, bo + k, none⟩) 0 c b wr (by have := HB0.out wr k; rw [HBB.out]; exact this) (fun e => by cases e) HE.out HSQ.out (by omega) (by omega))
      have hlat := hid (fun W (h : OwnL w0 W q p m L) => (show Calls Try.prog 119 #[.pointer (some ⟨q, 0, none⟩), .int .i64 (L.fin : Int)] W _ from lat_any L.fin h h3 (by have := ho.out.small.fin; omega)))
      have hwrap : IntKind.i64.wrap (L.fin : Int) = (L.fin : Int) := IntWalk.i64_in _ (by have := ho.out.small.fin; omega)
      have hfew : Hid (m.unsure.length < 1099511627776) := by show _ < _; omega
      have h00 : Hid (wrs m L b 1 0 = (m, 0)) := rfl
      rw [h00.out] at ho
      clear hl
      go_wp2_with fail
      refine (hsl.out 0).mono ?_
      rintro e w4 ⟨hf4, g4, c4, rfl, hr4, hc4, hg4⟩
      have O4 := hid (ho.out.next hf4)
      have F4 := hid (hf.out.step hf4.any)
      have R4 := hid hr4
      have d0 := hf4.cell c0 id
      have d7 := hf4.cell c7 id
      clear hf4 hr4 hc4 hg4 c0 c2 c7
      have hwr := hid (fun (pos : Int) W (h : Own w0 W p m) (hb : BytesIn W (some ⟨g4, 0, none⟩) 512 (recSec L b 1 0)) => own_writeU pos (some ⟨g4, 0, none⟩) 512 c4 (recSec L b 1 0) h hfew.out hb)
      obtain ⟨r1, r2, hr⟩ : ∃ r1 r2, (r1, r2) = m.write ((m.pos L.fin : Nat) : Int) (recSec L b 1 0) := ⟨_, _, rfl⟩
      have hwr := hid (hwr.out ((m.pos L.fin : Nat) : Int))
      rw [← hr] at hwr
      have HR : Hid (wrs m L b 1 1 = (r1, r2)) := by
        show _ = _
        rw [hr]
        show (if (wrs m L b 1 0).2 ≠ 0 then _ else _) = _
        rw [if_neg (by rw [hok.out]; decide)]
        rfl
      clear hr
      generalize ((m.pos L.fin : Nat) : Int) = pos at *
      have O5 := hid (O4.out.next (Fr.drew (S := No) w4))
      have R5 := hid (R4.out.fr0 (Fr.drew (S := No) w4))
      have F5 := hid (F4.out.step (Fr.drew (S := LW w0 w') w4))
      go_wp2_with fail
      go_region_held3 (fun W => W.cell? ⟨q, 0, none⟩ = some (.pointer (some ⟨p, 0, none⟩)) ∧ W.cell? ⟨q, 7, none⟩ = some (.int .i64 L.fin))
        (first | exact ⟨by assumption, by assumption⟩ | go_keep)
        (first
        | (go_at_call 119; refine (hlat.out _ O5.out).mono ?_; rintro e w' ⟨rfl, rfl⟩)
        | (go_at_call 20; refine (hwr.out _ O5.out.dev (R5.out.bytes (recSec_len L b 1 0))).mono ?_; rintro e w6 ⟨rfl, h6, f6⟩; have O6 := hid (O5.out.dev' h6 f6); have F6 := hid (Fr.lws (w0 := w0) F5.out f6.ofWrL); obtain ⟨lv6, hl6, -⟩ := O6.out.log; have e0 := hl6.c0; have e7 := hl6.c7; clear h6 f6 hl6)
        | (go_at_call 117; refine (did_any r2 O6.out).mono ?_; rintro e w7 ⟨rfl, h7, f7⟩; have O7 := hid h7; have F7 := hid (Fr.lws (w0 := w0) F6.out f7); obtain ⟨lv7, hl7, -⟩ := O7.out.log; have x0 := hl7.c0; have x7 := hl7.c7; clear h7 f7 hl7))
      all_goals
        by_cases hz : r2 = 0
        · subst hz
          have HZZ := hid (down_stays HD1.out)
          rw [HZZ.out] at O7
          go_wp2_with fail
          go_roundw
          case rel => exact ⟨1, by omega, by go_num, rfl, by show _ = _; rw [HR.out], by show OwnL _ _ _ _ _ _; rw [HR.out]; exact O7.out, F7.out⟩
          case measure => simp [intOf]
        · have HZZ := hid hz
          go_wp2_with fail
          go_ret2
          rw [HAM.out, HR.out, if_pos HZZ.out]
          refine ⟨rfl, ?_, F7.out⟩
          have := O7.out
          rw [HD1.out, Bool.false_or] at this
          exact this
    · obtain ⟨lv, hl, hlk⟩ := ho.out.log
      have c6 := hl.c6
      have c7 := hl.c7
      have e6 := (fun (o : Obj) => (Fr.alloc (S := No) wr o).cell c6 id)
      have e7 := (fun (o : Obj) => (Fr.alloc (S := No) wr o).cell c7 id)
      have HLA := hid hl
      have HLK := hid hlk
      obtain ⟨ir, hir, hr0, hr1, hr2⟩ := info_parts info_rec
      have hbn : IntKind.i64.wrap ((L.fin : Int) + (1 : Int)) = (L.fin : Int) + (1 : Int) := IntWalk.i64_in _ (by have := ho.out.small.fin; omega)
      have hmany := ho.out.small.many
      have hfin := ho.out.small.fin
      clear hl hlk
      go_wp2_with fail
      go_region_law (first
        | (have FX : Hid (Fr No wr ((wr.alloc (.cells #[.int .i64 L.fin, .int .i64 1] 181)).drew)) := (Fr.alloc wr _).step (Fr.drew _); refine step_append_at rfl (.tmp 84) (.tmp 91) 174 rfl 181 ir _ 2 16 Try.underlying174 hir hr0 hr1 hr2 rfl (by decide) lv L.list.length (L.list.flatMap recCells) rfl (owns_fr HLA.out.list FX.out (fun _ _ => id)) ⟨wr.heap.size, 0, none⟩ 1 1 [.int .i64 L.fin, .int .i64 1] rfl rfl (by intro i u hi; match i, hi with | 0, hi => simp at hi; subst hi; simp [Addr.add] | 1, hi => simp at hi; subst hi; simp [Addr.add]) (by intro u hu; simp at hu; rcases hu with rfl | rfl <;> rfl) (by decide) (by unfold maxLen; omega) (by omega) ?_; intro g3 c3 w3 ho3 hg3 hf3; have hh3 := hf3.out.heap (FX.out.heap0 HLA.out.head) (fun e => HLA.out.q_ne q e rfl); have d6 := cell_of_row w3 q 6 _ _ _ hh3; have d7 := cell_of_row w3 q 7 _ _ _ hh3; have g6 := frozen_of_row w3 q 6 _ _ hh3; have g7 := frozen_of_row w3 q 7 _ _ hh3; have HH3 := hid hh3; clear hh3)
        | (have FX : Hid (Fr No wr (wr.drew.alloc (.cells #[.int .i64 L.fin, .int .i64 1] 181))) := (Fr.drew wr).step (Fr.alloc _ _); refine step_append_at rfl (.tmp 84) (.tmp 91) 174 rfl 181 ir _ 2 16 Try.underlying174 hir hr0 hr1 hr2 rfl (by decide) lv L.list.length (L.list.flatMap recCells) rfl (owns_fr HLA.out.list FX.out (fun _ _ => id)) ⟨wr.drew.heap.size, 0, none⟩ 1 1 [.int .i64 L.fin, .int .i64 1] rfl rfl (by intro i u hi; match i, hi with | 0, hi => simp at hi; subst hi; simp [Addr.add] | 1, hi => simp at hi; subst hi; simp [Addr.add]) (by intro u hu; simp at hu; rcases hu with rfl | rfl <;> rfl) (by decide) (by unfold maxLen; omega) (by omega) ?_; intro g3 c3 w3 ho3 hg3 hf3; have hh3 := hf3.out.heap (FX.out.heap0 HLA.out.head) (fun e => HLA.out.q_ne q e rfl); have d6 := cell_of_row w3 q 6 _ _ _ hh3; have d7 := cell_of_row w3 q 7 _ _ _ hh3; have g6 := frozen_of_row w3 q 6 _ _ hh3; have g7 := frozen_of_row w3 q 7 _ _ hh3; have HH3 := hid hh3; clear hh3))
      all_goals
        clear e6 e7 c6 c7
        go_wp2_with fail
        go_ret2
        have hpush := OwnL.pushed (g := g3) (c := c3) 1 (ho.out.dev.next FX.out) (HLA.out.fr FX.out id (fun _ _ => id)) HLK.out ho.out.new ho.out.small hf3.out ho3.out hg3.out (by omega) (by omega)
        rw [HAM.out, if_neg (by rw [hok.out]; decide)]
        exact ⟨rfl, hpush.1, (hf.out.step FX.out.any).lws hpush.2⟩

end Go.Proofs.Ytpimjachhfnlfaa
