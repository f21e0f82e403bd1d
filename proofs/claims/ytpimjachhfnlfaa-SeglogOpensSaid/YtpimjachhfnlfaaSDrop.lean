/-
  seglog's Drop of a number that the log holds, or of the one behind. No condition but that the log is up, and the numbers are not great.
-/
import Derived.Test.YtpimjachhfnlfaaSOpen0
import Derived.Deep.RegionHeld3
namespace Go.Proofs.Ytpimjachhfnlfaa
open Go.RowKit

/-- append of a list onto an empty slice literal, as it runs: a row of the call's own. -/
theorem run_append_list {P : Program} (w : World) (t ty : TypeId) (e : TypeId) (i : TypeInfo) (z : Value) (size bytes : Nat) (ht : P.underlying t = some (.slice e)) (hi : P.info? e = some i) (hz : i.zero = some z)
    (hsize : i.size = size) (hby : i.bytes = bytes) (hzs : z.cells.size = size) (hsz : 0 < size)
    (g0 : Nat) (hown : w.ownsRow 0 e size (.slice (some ⟨g0, 0, none⟩) 0 0) 0 [])
    (ao : Option Addr) (m c : Nat) (news : List Value) (hnil : ao = none → m = 0 ∧ c = 0) (hl : news.length = m * size) (hnews : ∀ ad, ao = some ad → ∀ j u, news[j]? = some u → w.cell? (ad.add j) = some u) (h1 : ∀ u ∈ news, u.oneCell' = true)
    (h63 : m ≤ maxLen) (hbytes : m * bytes ≤ 140737488355328) :
    ∃ g c' w', (Builtin.append_ #[t, t] ty #[.slice (some ⟨g0, 0, none⟩) 0 0, .slice ao m c]).run P w = .ok (.slice (some ⟨g, 0, none⟩) m c') w' ∧ w'.ownsRow 0 e size (.slice (some ⟨g, 0, none⟩) m c') m news ∧ (g = g0 ∨ w.heap.size ≤ g) ∧ Fr No w w' := by
  by_cases hm : m = 0
  · subst hm
    have hn0 : news = [] := List.eq_nil_of_length_eq_zero (by rw [hl]; omega)
    subst hn0
    cases ao with
    | none =>
      obtain ⟨-, rfl⟩ := hnil rfl
      exact ⟨g0, 0, w, run_append_owned_none (P := P) (w := w) 0 t ty e i size ht hi _ 0 [] hown, hown, .inl rfl, Fr.refl _ _⟩
    | some ad =>
      obtain ⟨w', hr, how, hgr⟩ := run_append_fits (P := P) w 0 t ty e i size ht hi hsize g0 0 0 [] hown ad 0 c [] (by simp) (fun j u hu => by cases hu) (fun u hu => by cases hu) (Nat.le_refl _)
      refine ⟨g0, 0, w', hr, how, .inl rfl, hgr.os, hgr.tape, hgr.output, hgr.size, fun k hk _ => ?_⟩
      by_cases hk0 : k = g0
      · subst hk0
        rcases how.2 with ⟨hv, _⟩ | ⟨g', cap', cur', hv, _, hg', _, _, hcs', _⟩
        · cases hv
        · cases hv
          rcases hown.2 with ⟨hv, _⟩ | ⟨g2, cap2, cur2, hv, _, hg2, _, _, hcs2, _⟩
          · cases hv
          · cases hv
            rw [hg', hg2]
            have e1 : cur' = #[] := Array.eq_empty_of_size_eq_zero (by omega)
            have e2 : cur2 = #[] := Array.eq_empty_of_size_eq_zero (by omega)
            rw [e1, e2]
      · exact hgr.block k hk (fun e => hk0 (Option.some.inj e))
  · cases ao with
    | none => exact absurd (hnil rfl).1 hm
    | some ad =>
      obtain ⟨v', w', hr, how, hgr⟩ := run_append_arg_grows (P := P) w t ty e i z size bytes ht hi hz hsize hby hzs hsz ⟨g0, 0, none⟩ 0 0 [] (by simp) (fun j u hu => by cases hu) ad m c news hl (hnews ad rfl) (by omega) (by omega) (by simpa using hbytes)
      rw [Nat.zero_add, List.nil_append] at how
      rcases how.2 with ⟨_, h0⟩ | ⟨g', cap', cur', rfl, hb, r⟩
      · exact absurd h0 hm
      · exact ⟨g', cap', w', hr, ⟨how.1, .inr ⟨g', cap', cur', rfl, Nat.zero_le _, r⟩⟩, .inr hb, Fr.grown hgr (fun k hk => by cases hk)⟩

/-- The same as one step of a region that draws its order. -/
theorem step_append_list {P : Program} {ops : Array Oper} {o : Oper} {a : Act} {w : World} {K : Act → World → Prop} {Q : Exit → Act → World → Prop} {E : Prop} (hgd : o.guard = none) (s x : Operand) (t : TypeId)
    (ho : o.op = .call { callee := .builtin .append, args := #[s, x], argTypes := #[t, t] })
    (e : TypeId) (i : TypeInfo) (z : Value) (size bytes : Nat) (ht : P.underlying t = some (.slice e)) (hi : P.info? e = some i) (hz : i.zero = some z)
    (hsize : i.size = size) (hby : i.bytes = bytes) (hzs : z.cells.size = size) (hsz : 0 < size)
    (g0 : Nat) (hs : a.eval s = .slice (some ⟨g0, 0, none⟩) 0 0) (hown : w.ownsRow 0 e size (.slice (some ⟨g0, 0, none⟩) 0 0) 0 [])
    (ao : Option Addr) (m c : Nat) (news : List Value) (hx : a.eval x = .slice ao m c) (hnil : ao = none → m = 0 ∧ c = 0) (hl : news.length = m * size) (hnews : ∀ ad, ao = some ad → ∀ j u, news[j]? = some u → w.cell? (ad.add j) = some u) (h1 : ∀ u ∈ news, u.oneCell' = true)
    (h63 : m ≤ maxLen) (hbytes : m * bytes ≤ 140737488355328)
    (h : ∀ g c' w', Hid (w'.ownsRow 0 e size (.slice (some ⟨g, 0, none⟩) m c') m news) → Hid (g = g0 ∨ w.heap.size ≤ g) → Hid (Fr No w w') → K (a.put o.dst (.slice (some ⟨g, 0, none⟩) m c')) w') :
    if Region.wanted o (yielded ops a.tmps) = true then Oper.wp P o a w K Q else E := by
  have hw : Region.wanted o (yielded ops a.tmps) = true := by simp [Region.wanted, hgd]
  rw [if_pos hw]
  obtain ⟨g, c', w', hr, h2, h3, h4⟩ := run_append_list (P := P) w t o.type e i z size bytes ht hi hz hsize hby hzs hsz g0 hown ao m c news hnil hl hnews h1 h63 hbytes
  unfold Oper.wp
  simp [execOp, ho, resolve, invoke, builtin, hs, hx, hr, Result.andThen]
  exact h g c' w' h2 h3 h4

/-- A block that is no log's and no device's stays. -/
theorem heap_lw {w0 w w' : World} {g e : Nat} {cur : Array Value} {fr : Nat × Nat} (f : Fr (LW w0 w) w w') (h : w.heap[g]? = some (.cells cur e fr)) (h1 : e ≠ 127) (h2 : e ≠ 132) (h3 : e ≠ 57) (h4 : e ≠ 176) (h5 : e ≠ 181) : w'.heap[g]? = some (.cells cur e fr) := by
  refine f.heap h (fun hw => ?_)
  rcases hw.2 with ⟨cur2, e2, f2, hc, ht⟩ | ⟨cur2, f2, hc⟩ | ⟨cur2, f2, hc⟩
  · rw [h] at hc
    cases hc
    rcases ht with ht | ht | ht
    · exact h1 ht
    · exact h2 ht
    · exact h3 ht
  · rw [h] at hc
    cases hc
    exact h4 rfl
  · rw [h] at hc
    cases hc
    exact h5 rfl

theorem sets3 {w : World} {g : Nat} {e : TypeId} {a0 a1 a2 a3 a4 : Value} (h : w.heap[g]? = some (.cells #[a0, a1, a2, a3, a4] e (0, 0))) (v2 v4 v3 : Value) :
    (((w.setCell ⟨g, 2, none⟩ v2).setCell ⟨g, 4, none⟩ v4).setCell ⟨g, 3, none⟩ v3).heap[g]? = some (.cells #[a0, a1, v2, v3, v4] e (0, 0)) ∧ Fr (· = g) w (((w.setCell ⟨g, 2, none⟩ v2).setCell ⟨g, 4, none⟩ v4).setCell ⟨g, 3, none⟩ v3) := by
  refine ⟨?_, ((Fr.set1 _ _ _ _).step (Fr.set1 _ _ _ _)).step (Fr.set1 _ _ _ _)⟩
  rw [heap_setCell_same _ _ _ _ _ _ (heap_setCell_same _ _ _ _ _ _ (heap_setCell_same _ _ _ _ _ _ h))]
  rfl

theorem set13 {w : World} {g : Nat} {e : TypeId} {a0 a1 a2 a3 a4 : Value} (h : w.heap[g]? = some (.cells #[a0, a1, a2, a3, a4] e (0, 0))) (v3 : Value) :
    (w.setCell ⟨g, 3, none⟩ v3).heap[g]? = some (.cells #[a0, a1, a2, v3, a4] e (0, 0)) ∧ Fr (· = g) w (w.setCell ⟨g, 3, none⟩ v3) := by
  refine ⟨?_, Fr.set1 _ _ _ _⟩
  rw [heap_setCell_same _ _ _ _ _ _ h]
  rfl

set_option maxRecDepth 100000 in
/-- did: an error of the device; the store that it makes. -/
theorem did_at {w : World} {q p : Nat} {lv : Value} {L : Lg} (c : Int) (hl : LogAt w q p lv L) :
    Calls Try.prog 117 #[.pointer (some ⟨q, 0, none⟩), .int .i64 c] w fun e w' => e = .returned (.int .i64 c) ∧ w' = w.setCell ⟨q, 8, none⟩ (.bool (L.down || (c == 8))) := by
  have c8 := hl.c8
  have g8 := hl.free 8
  clear hl
  cases hdn : L.down with
  | true =>
    rw [hdn] at c8
    clear hdn
    rw [Bool.true_or]
    go_enter Try.func117, Try.ntmps117
    go_wp2_with fail
    go_ret
    exact ⟨rfl, rfl⟩
  | false =>
    rw [hdn] at c8
    clear hdn
    rw [Bool.false_or]
    obtain ⟨b, hb⟩ : ∃ b, b = (c == 8) := ⟨_, rfl⟩
    rw [← hb]
    have hb2 := hb.symm
    have HB := hid hb.symm
    clear hb
    go_enter Try.func117, Try.ntmps117
    go_wp2_with fail
    go_ret
    exact ⟨rfl, rfl⟩

theorem LogAt.setDown {w : World} {q p : Nat} {lv : Value} {L : Lg} (h : LogAt w q p lv L) (d : Bool) : LogAt (w.setCell ⟨q, 8, none⟩ (.bool d)) q p lv { L with down := d } := by
  refine ⟨?_, owns_fr h.list (Fr.set1 w q 8 (.bool d)) h.q_ne⟩
  rw [heap_setCell_same _ _ _ _ _ _ h.head]
  simp

theorem cutAt_val (L : Lg) (k : Nat) (x nx : Int) (pl : Nat) (hx : x = (L.blk.first : Int) + (k : Int)) (hnx : nx = ((L.blk.first + L.list.length : Nat) : Int)) (hp : pl = placeAt L.list L.fin k) :
    (L.cutAt k).val = .agg #[.int .i64 ((L.blk.gen : Int) + 1), .int .i64 L.blk.epoch, .int .i64 x, .int .i64 pl, .int .i64 nx] := by
  have e1 : (((L.blk.gen + 1 : Nat)) : Int) = (L.blk.gen : Int) + 1 := by omega
  have e2 : (((L.blk.first + k : Nat)) : Int) = (L.blk.first : Int) + (k : Int) := by omega
  unfold Lg.cutAt Blk.val intv
  simp only
  rw [e1, e2, ← hx, ← hnx, ← hp]

/-- A log behind a Drop. -/
theorem OwnL.dropped {w0 w w9 : World} {q p g c : Nat} {m : Dv} {L : Lg} {lv : Value} (B : Blk) (k : Nat) (z1 z3 z5 : Int) (z4 : Nat) (hd : Own w0 w p m) (hl : LogAt w q p lv L) (hn : w0.heap.size ≤ q) (hs : Lg.Small { L with blk := B, list := L.list.drop k }) (f : Fr No w w9)
    (ho : w9.ownsRow 0 181 2 (.slice (some ⟨g, 0, none⟩) (L.list.length - k) c) (L.list.length - k) ((L.list.drop k).flatMap recCells)) (hg : w.heap.size ≤ g) (hB : B.val = .agg #[.int .i64 z1, .int .i64 L.blk.epoch, .int .i64 z3, .int .i64 z4, .int .i64 z5]) :
    OwnL w0 ((((((w9.setCell ⟨q, 1, none⟩ (.int .i64 z1)).setCell ⟨q, 2, none⟩ (.int .i64 L.blk.epoch)).setCell ⟨q, 3, none⟩ (.int .i64 z3)).setCell ⟨q, 4, none⟩ (.int .i64 z4)).setCell ⟨q, 5, none⟩ (.int .i64 z5)).setCell ⟨q, 6, none⟩ (.slice (some ⟨g, 0, none⟩) (L.list.length - k) c)) q p m { L with blk := B, list := L.list.drop k } ∧
      Fr (LW w0 w) w ((((((w9.setCell ⟨q, 1, none⟩ (.int .i64 z1)).setCell ⟨q, 2, none⟩ (.int .i64 L.blk.epoch)).setCell ⟨q, 3, none⟩ (.int .i64 z3)).setCell ⟨q, 4, none⟩ (.int .i64 z4)).setCell ⟨q, 5, none⟩ (.int .i64 z5)).setCell ⟨q, 6, none⟩ (.slice (some ⟨g, 0, none⟩) (L.list.length - k) c)) := by
  unfold Blk.val intv at hB
  simp only [Value.agg.injEq, Array.mk.injEq, List.cons.injEq, Value.int.injEq, true_and, and_true] at hB
  obtain ⟨e1, e2, e3, e4, e5⟩ := hB
  have hh := f.heap0 hl.head
  have HN := nine hh (.int .i64 z1) (.int .i64 L.blk.epoch) (.int .i64 z3) (.int .i64 z4) (.int .i64 z5)
  generalize ((((w9.setCell ⟨q, 1, none⟩ (.int .i64 z1)).setCell ⟨q, 2, none⟩ (.int .i64 L.blk.epoch)).setCell ⟨q, 3, none⟩ (.int .i64 z3)).setCell ⟨q, 4, none⟩ (.int .i64 z4)).setCell ⟨q, 5, none⟩ (.int .i64 z5) = w10 at *
  have f11 : Fr (· = q) w9 (w10.setCell ⟨q, 6, none⟩ (.slice (some ⟨g, 0, none⟩) (L.list.length - k) c)) := HN.2.step (Fr.set1 _ _ _ _)
  have h11 := heap_setCell_same w10 q 6 _ _ (.slice (some ⟨g, 0, none⟩) (L.list.length - k) c) HN.1
  generalize w10.setCell ⟨q, 6, none⟩ (.slice (some ⟨g, 0, none⟩) (L.list.length - k) c) = w11 at *
  have hne : ∀ j, (Value.slice (some ⟨g, 0, none⟩) (L.list.length - k) c).ownBlock = some j → j ≠ q := fun j hj => owns_ne ho hh (by decide) j hj
  refine ⟨⟨(hd.next f).other f11 hh (by decide) (by decide) (by decide) (by decide) hn, ⟨.slice (some ⟨g, 0, none⟩) (L.list.length - k) c, ⟨?_, ?_⟩, ?_⟩, hn, hs⟩, ?_⟩
  · rw [h11]
    simp [e1, e2, e3, e4, e5]
  · rw [List.length_drop]
    exact owns_fr ho f11 hne
  · intro j hj
    cases hj
    exact Nat.le_trans hd.fr.size hg
  · exact (f.any (T := LW w0 w)).lws (f11.mono fun i _ hi => by rw [hi]; exact ⟨hn, .inr (.inl ⟨_, _, hh⟩)⟩)

set_option maxRecDepth 100000 in
set_option maxHeartbeats 4000000 in
theorem drop_any {w0 w : World} {q p : Nat} {m : Dv} {L : Lg} (k : Nat) (h : OwnL w0 w q p m L) (h1 : L.down = false) (h2 : m.down = false) (h3 : 3 ≤ m.sure.length) (few : m.unsure.length < 1099511627775) (hk : k ≤ L.list.length) (hfit : (L.cutAt k).Fit) (hg : nextGen (loadM m) (L.cutAt k).gen) (hsm : Lg.Small { L with blk := L.cutAt k, list := L.list.drop k }) :
    Calls Try.prog 65 #[.pointer (some ⟨q, 0, none⟩), .int .i64 ((L.blk.first : Int) + (k : Int))] w fun e w' => e = .returned (.int .i64 (dropM m L k).2.2) ∧ OwnL w0 w' q p (dropM m L k).1 (dropM m L k).2.1 ∧ Fr (LW w0 w) w w' := by
  have H1 := hid (lcheck_ok h h1 h2)
  have HN := hid (fun W (f : Fr No w W) => next_any (h.next f))
  have HF := hid (fun W (f : Fr No w W) => first_any (h.next f))
  have HO := hid h
  have HD := hid h1
  have HSV := hid (fun W (h : Own w0 W p m) => save_any (L.cutAt k) h h2 (by omega) few hfit hg)
  obtain ⟨lv, hl, hlk⟩ := h.log
  have c0 := hl.c0
  have c1 := hl.c1
  have c2 := hl.c2
  have c3 := hl.c3
  have c4 := hl.c4
  have c5 := hl.c5
  have HL := hid hl
  have HLK := hid hlk
  have HSM := hid hsm
  have HK := hid hk
  have b1 : (L.blk.first : Int) < 1152921504606846976 := by have := h.small.first; omega
  have b2 : (L.list.length : Int) < 1099511627776 := by have := h.small.many; omega
  have b3 : (L.blk.gen : Int) < 1152921504606846976 := by have := h.small.gen; omega
  have hkk : (k : Int) ≤ (L.list.length : Int) := by omega
  obtain ⟨x, hxx⟩ : ∃ x : Int, x = (L.blk.first : Int) + (k : Int) := ⟨_, rfl⟩
  have i1 : ¬ x < (L.blk.first : Int) := by omega
  obtain ⟨nx, hnx⟩ : ∃ nx : Int, nx = ((L.blk.first + L.list.length : Nat) : Int) := ⟨_, rfl⟩
  have HNX := hid hnx
  have i2 : ¬ nx < x := by omega
  rw [← hnx] at HN
  clear hnx
  have i3 : x - (L.blk.first : Int) = (k : Int) := by omega
  have i4 : x < 2305843009213693952 := by omega
  have HX := hid hxx
  rw [← hxx]
  obtain ⟨r1, r2, hr⟩ : ∃ r1 r2, (r1, r2) = m.saved (L.cutAt k) := ⟨_, _, rfl⟩
  have HDM : Hid (dropM m L k = if r2 ≠ 0 then (r1, { L with down := r2 == 8 }, r2) else (r1, { L with blk := L.cutAt k, list := L.list.drop k }, 0)) := by
    show _ = _
    unfold dropM
    rw [← hr]
  rw [← hr] at HSV
  obtain ⟨res, hres⟩ : ∃ res, res = dropM m L k := ⟨_, rfl⟩
  rw [← hres] at HDM ⊢
  clear hr hres
  clear b1 b2 b3 hkk
  clear hxx h h1 h2 h3 few hk hfit hg hsm hl hlk
  go_enter Try.func65, Try.ntmps65
  go_wp2_with fail
  refine H1.out.mono ?_
  rintro e w' ⟨rfl, rfl⟩
  go_wp2_with fail
  refine (HN.out _ (Fr.refl _ _)).mono ?_
  rintro e w2 ⟨rfl, k1, rfl⟩
  have F2 := hid (Fr.drewN (S := No) w' k1)
  replace c0 := F2.out.cell c0 id
  replace c1 := F2.out.cell c1 id
  replace c2 := F2.out.cell c2 id
  replace c3 := F2.out.cell c3 id
  replace c4 := F2.out.cell c4 id
  replace c5 := F2.out.cell c5 id
  clear H1
  generalize w'.drewN k1 = w2 at *
  go_wp2_with fail
  refine (HF.out _ F2.out).mono ?_
  rintro e w3 ⟨rfl, rfl⟩
  have hgw : IntKind.i64.wrap ((L.blk.gen : Int) + 1) = (L.blk.gen : Int) + 1 := IntWalk.i64_in _ (by have := HO.out.small.gen; omega)
  go_wp2_with fail
  have A3 := hid (heap_alloc_new w3 (.cells #[.int .i64 ((L.blk.gen : Int) + 1), .int .i64 L.blk.epoch, .int .i64 L.blk.first, .int .i64 L.blk.from_, .int .i64 L.blk.count] 61))
  have F3 := hid (F2.out.step (Fr.alloc w3 (.cells #[.int .i64 ((L.blk.gen : Int) + 1), .int .i64 L.blk.epoch, .int .i64 L.blk.first, .int .i64 L.blk.from_, .int .i64 L.blk.count] 61)))
  have hB : Hid (w'.heap.size ≤ w3.heap.size) := F2.out.size
  have hqB : q ≠ w3.heap.size := by have := lt_of_some HL.out.head; have := hB.out; omega
  have hBq : w3.heap.size ≠ q := fun e => hqB e.symm
  generalize w3.heap.size = B at *
  generalize w3.alloc (.cells #[.int .i64 ((L.blk.gen : Int) + 1), .int .i64 L.blk.epoch, .int .i64 L.blk.first, .int .i64 L.blk.from_, .int .i64 L.blk.count] 61) = w4 at *
  have HL4 := hid (HL.out.fr F3.out id (fun _ _ => id))
  have d7 := HL4.out.c7
  clear c0 c1 c2 c3 c4 c5 hgw F2
  obtain ⟨j0, j1, j2, j3, j4⟩ := five_cells A3.out
  obtain ⟨f0, f1, f2, f3, f4⟩ := five_free A3.out
  have HN4 := hid (fun W (f : Fr No w4 W) => HN.out W (F3.out.step f))
  go_region_held3 (fun W => W.cell? ⟨q, 7, none⟩ = some (.int .i64 L.fin))
    (first | assumption | go_keep)
    (first
    | (go_at_call 70; refine (HN4.out _ (by first | exact Fr.refl _ _ | exact Fr.drew _)).mono ?_; rintro e w9 ⟨rfl, k9, rfl⟩))
  all_goals
    have HZ6 := hid (HL4.out.shape)
    obtain ⟨ao, lc, hlv⟩ := HZ6.out
    have d6 := HL4.out.c6
    have HV := hid hlv
    rw [hlv] at d6
    clear hlv
    by_cases hkl : k < L.list.length
    · obtain ⟨lg, lc2, hv2, hrow, hnc, hcm⟩ := lrow_place HL4.out.list (by omega)
      have e1 : ao = some ⟨lg, 0, none⟩ ∧ lc = lc2 := by
        have := HV.out.symm.trans hv2
        injection this with h1 _ h3
        exact ⟨h1, h3⟩
      obtain ⟨rfl, rfl⟩ := e1
      have hat := lreads_at k hkl
      have r0 := hrow.cell _ _ hat.1
      have hlB : lg ≠ B := hrow.ne A3.out (by decide)
      have hBl : B ≠ lg := fun e => hlB e.symm
      have hkl2 : (k : Int) < (L.list.length : Int) := by omega
      have hkw : IntKind.i64.wrap (k : Int) = (k : Int) := IntWalk.i64_in _ (by have := HO.out.small.many; omega)
      obtain ⟨pl, hpl⟩ : ∃ pl, pl = (L.list[k]).1 := ⟨_, rfl⟩
      rw [← hpl] at r0
      have HPV : Hid (pl = placeAt L.list L.fin k) := by
        show _ = _
        unfold placeAt
        rw [List.getElem?_eq_getElem hkl]
        exact hpl
      have HROW := hid hrow
      have HNC := hid hnc
      clear hpl hrow hat hv2 hnc hcm
      go_wp2_with fail
      have HS3 := sets3 ((Fr.drewN (S := No) w4 (1 + k9)).heap0 A3.out) (.int .i64 x) (.int .i64 nx) (.int .i64 L.fin)
      have HS4 := set13 HS3.1 (.int .i64 pl)
      have A5 := hid HS4.1
      have F5 := hid ((Fr.drewN (S := (· = B)) w4 (1 + k9)).step (HS3.2.step HS4.2))
      have HNS : Hid (k = L.list.length → lc = k → (some (⟨lg, 0, none⟩ : Addr)) = none) := fun h => absurd h (by omega)
      clear HS3 HS4 HROW r0 hkw
      generalize ((((w4.drewN (1 + k9)).setCell ⟨B, 2, none⟩ (.int .i64 x)).setCell ⟨B, 4, none⟩ (.int .i64 nx)).setCell ⟨B, 3, none⟩ (.int .i64 L.fin)).setCell ⟨B, 3, none⟩ (.int .i64 pl) = w5 at *
      have F6 : Hid (Fr No w' w5) := F3.out.trans F5.out (fun i hi => .inr (by rw [hi]; exact hB.out))
      have O6 := hid (HO.out.next (F6.out.step (Fr.drew (S := No) w5)))
      have L6 := hid (HL.out.fr (F6.out.step (Fr.drew (S := No) w5)) id (fun _ _ => id))
      have HSV6 := hid (fun W (h : Own w0 W p m) => (show Calls Try.prog 38 #[.pointer (some ⟨p, 0, none⟩), .agg #[.int .i64 ((L.blk.gen : Int) + 1), .int .i64 L.blk.epoch, .int .i64 x, .int .i64 pl, .int .i64 nx]] W _ from cutAt_val L k x nx pl HX.out HNX.out HPV.out ▸ HSV.out W h))
      have A6 := hid ((Fr.drew (S := No) w5).heap0 A5.out)
      have s0 := (HL.out.fr F6.out id (fun _ _ => id)).c0
      clear HSV HN HF HN4 d6 d7 j0 j1 j2 j3 j4 f0 f1 f2 f3 f4 hqB hBq hkl2 i1 i2 i3 i4 A3 HL4 HZ6
      obtain ⟨j0, j1, j2, j3, j4⟩ := five_cells A5.out
      go_region_held3 (fun W => W.cell? ⟨q, 0, none⟩ = some (.pointer (some ⟨p, 0, none⟩)) ∧ W.cell? ⟨B, 0, none⟩ = some (.int .i64 ((L.blk.gen : Int) + 1)) ∧ W.cell? ⟨B, 1, none⟩ = some (.int .i64 L.blk.epoch) ∧ W.cell? ⟨B, 2, none⟩ = some (.int .i64 x) ∧ W.cell? ⟨B, 3, none⟩ = some (.int .i64 pl) ∧ W.cell? ⟨B, 4, none⟩ = some (.int .i64 nx))
        (first | exact ⟨by assumption, by assumption, by assumption, by assumption, by assumption, by assumption⟩ | go_keep)
        (first
        | (go_at_call 38; refine (HSV6.out _ O6.out.dev).mono ?_; rintro e w6 ⟨rfl, h6, f6⟩; have O7 := hid (O6.out.dev' h6 f6); have L7 := hid (L6.out.wr f6); have F7 := hid ((F6.out.step (Fr.drew (S := No) w5)).any.step f6.ofWr); have A7 := hid (heap_wr f6 A6.out (by decide) (by decide) (by decide)); have e0 := L7.out.c0; obtain ⟨e1, e2, e3, e4, e5⟩ := five_cells A7.out; have W7 := hid f6.ofWrL; clear h6 f6)
        | (go_at_call 117; refine (did_at r2 L7.out).mono ?_; rintro e w7 ⟨rfl, hw7⟩; have hs7 := O7.out.setDown _ hw7; have O8 := hid hs7.1; have L8 := L7.out.setDown (L.down || (r2 == 8)); rw [← hw7] at L8; have L8 := hid L8; have A8 := hid (heap_lw hs7.2 A7.out (by decide) (by decide) (by decide) (by decide) (by decide)); have W8 := hid hs7.2; have y0 := L8.out.c0; obtain ⟨y1, y2, y3, y4, y5⟩ := five_cells A8.out; clear hs7 hw7))
      all_goals
        have F8 := hid ((((F6.out.step (Fr.drew (S := No) w5)).any (T := LW w0 w')).lws W7.out).lws W8.out)
        by_cases hz : r2 = 0
        · subst hz
          have HZZ := hid (down_stays HD.out)
          rw [HZZ.out] at O8 L8
          have z6 := L8.out.c6
          have z1 := L8.out.c1
          have z2 := L8.out.c2
          have z3 := L8.out.c3
          have z4 := L8.out.c4
          have z5 := L8.out.c5
          have zf1 := L8.out.free 1
          have zf2 := L8.out.free 2
          have zf3 := L8.out.free 3
          have zf4 := L8.out.free 4
          have zf5 := L8.out.free 5
          have zf6 := L8.out.free 6
          rw [HV.out] at z6
          clear e0 e1 e2 e3 e4 e5 s0 j0 j1 j2 j3 j4 W7 W8 O7 L7 A7 A6 O6 L6 F7 HSV6
          obtain ⟨ir, hir, hr0, hr1, hr2⟩ := info_parts info_rec
          have Z6 := fun (o : Obj) => (Fr.alloc (S := No) w7 o).cell z6 id
          have Y1 := fun (o : Obj) => (Fr.alloc (S := No) w7 o).cell y1 id
          have Y2 := fun (o : Obj) => (Fr.alloc (S := No) w7 o).cell y2 id
          have Y3 := fun (o : Obj) => (Fr.alloc (S := No) w7 o).cell y3 id
          have Y4 := fun (o : Obj) => (Fr.alloc (S := No) w7 o).cell y4 id
          have Y5 := fun (o : Obj) => (Fr.alloc (S := No) w7 o).cell y5 id
          have HONE : Hid (∀ u ∈ (L.list.drop k).flatMap recCells, u.oneCell' = true) := by
            intro u hu
            obtain ⟨r, _, hr⟩ := List.mem_flatMap.1 hu
            simp [recCells] at hr
            rcases hr with rfl | rfl <;> rfl
          have HMANY : Hid (L.list.length < 1099511627776) := HO.out.small.many
          have HLEN : Hid (((L.list.drop k).flatMap recCells).length = (L.list.length - k) * 2) := by
            show _ = _
            rw [length_flatMap_fixed _ recCells 2 (fun _ _ => rfl), List.length_drop]
          have hkn : k ≤ L.list.length := by omega
          have hkc : ¬ lc = k := by have : _ ≤ lc := HNC.out; omega
          have HCL : Hid (∀ W, Fr No w7 W → ∀ j u, ((L.list.drop k).flatMap recCells)[j]? = some u → W.cell? ((⟨lg, k * 2, none⟩ : Addr).add j) = some u) := by
            intro W f j u hu
            obtain ⟨lg', lc', hv', hrow', -, -⟩ := lrow_place L8.out.list (by omega)
            have e : lg' = lg := by
              have h1 := HV.out.symm.trans hv'
              injection h1 with h1 _ _
              injection h1 with h1
              injection h1 with h1
              exact h1.symm
            subst e
            rw [Addr.add_lit]
            refine (hrow'.fr0 f).cell _ _ ?_
            have h2 : L.list.flatMap recCells = (L.list.take k).flatMap recCells ++ (L.list.drop k).flatMap recCells := by rw [← List.flatMap_append, List.take_append_drop]
            rw [h2, List.getElem?_append_right (by rw [length_flatMap_fixed _ recCells 2 (fun _ _ => rfl), List.length_take]; omega), length_flatMap_fixed _ recCells 2 (fun _ _ => rfl), List.length_take, Nat.min_eq_left (by omega), Nat.add_sub_cancel_left]
            exact hu
          go_wp2_with fail
          go_region_law (first
            | (have FX : Hid (Fr No w7 ((w7.alloc (.cells #[] 181)).drew)) := (Fr.alloc w7 (.cells #[] 181)).step (Fr.drew _); have OW : Hid (((w7.alloc (.cells #[] 181)).drew).ownsRow 0 181 2 (.slice (some ⟨w7.heap.size, 0, none⟩) 0 0) 0 []) := ⟨rfl, .inr ⟨_, 0, #[], rfl, Nat.zero_le _, (Fr.drew (S := No) _).heap0 (heap_alloc_new w7 _), Nat.le_refl _, Nat.zero_le _, rfl, rfl⟩⟩; refine step_append_list rfl (.tmp 77) (.tmp 83) 174 rfl 181 ir _ 2 16 Try.underlying174 hir hr0 hr1 hr2 rfl (by decide) w7.heap.size (by rfl) OW.out (some ⟨lg, k * 2, none⟩) (L.list.length - k) (lc - k) ((L.list.drop k).flatMap recCells) (by rfl) (fun e => by cases e) HLEN.out (fun ad had => by cases had; exact HCL.out _ FX.out) HONE.out (by unfold maxLen; have := HMANY.out; omega) (by have := HMANY.out; omega) ?_; intro g9 c9 w9 ho9 hg9 hf9; have LA9 := hid ((L8.out.fr FX.out id (fun _ _ => id)).fr hf9.out id (fun _ _ => id)); have B9 := hid (hf9.out.heap0 (FX.out.heap0 A8.out)); have F9 := hid (FX.out.step hf9.out); have v1 := LA9.out.c1; have v2 := LA9.out.c2; have v3 := LA9.out.c3; have v4 := LA9.out.c4; have v5 := LA9.out.c5; have v6 := LA9.out.c6; have vf1 := LA9.out.free 1; have vf2 := LA9.out.free 2; have vf3 := LA9.out.free 3; have vf4 := LA9.out.free 4; have vf5 := LA9.out.free 5; have vf6 := LA9.out.free 6; obtain ⟨t1, t2, t3, t4, t5⟩ := five_cells B9.out)
            | (have FX : Hid (Fr No w7 (w7.drew.alloc (.cells #[] 181))) := (Fr.drew w7).step (Fr.alloc w7.drew (.cells #[] 181)); have OW : Hid ((w7.drew.alloc (.cells #[] 181)).ownsRow 0 181 2 (.slice (some ⟨w7.heap.size, 0, none⟩) 0 0) 0 []) := ⟨rfl, .inr ⟨_, 0, #[], rfl, Nat.zero_le _, heap_alloc_new w7.drew _, Nat.le_refl _, Nat.zero_le _, rfl, rfl⟩⟩; refine step_append_list rfl (.tmp 77) (.tmp 83) 174 rfl 181 ir _ 2 16 Try.underlying174 hir hr0 hr1 hr2 rfl (by decide) w7.heap.size (by rfl) OW.out (some ⟨lg, k * 2, none⟩) (L.list.length - k) (lc - k) ((L.list.drop k).flatMap recCells) (by rfl) (fun e => by cases e) HLEN.out (fun ad had => by cases had; exact HCL.out _ FX.out) HONE.out (by unfold maxLen; have := HMANY.out; omega) (by have := HMANY.out; omega) ?_; intro g9 c9 w9 ho9 hg9 hf9; have LA9 := hid ((L8.out.fr FX.out id (fun _ _ => id)).fr hf9.out id (fun _ _ => id)); have B9 := hid (hf9.out.heap0 (FX.out.heap0 A8.out)); have F9 := hid (FX.out.step hf9.out); have v1 := LA9.out.c1; have v2 := LA9.out.c2; have v3 := LA9.out.c3; have v4 := LA9.out.c4; have v5 := LA9.out.c5; have v6 := LA9.out.c6; have vf1 := LA9.out.free 1; have vf2 := LA9.out.free 2; have vf3 := LA9.out.free 3; have vf4 := LA9.out.free 4; have vf5 := LA9.out.free 5; have vf6 := LA9.out.free 6; obtain ⟨t1, t2, t3, t4, t5⟩ := five_cells B9.out))
          all_goals
            have hdr := OwnL.dropped (L.cutAt k) k ((L.blk.gen : Int) + 1) x nx pl (O8.out.dev.next (Fr.refl _ _)) L8.out HO.out.new HSM.out F9.out ho9.out (by rcases hg9.out with h | h; exact Nat.le_of_eq h.symm; exact Nat.le_trans FX.out.size h) (cutAt_val L k x nx pl HX.out HNX.out HPV.out)
            have HDR := hid hdr
            clear hdr
            go_wp2_with fail
            go_ret
            rw [HDM.out, if_neg (by decide)]
            exact ⟨rfl, HDR.out.1, F8.out.lws HDR.out.2⟩
        · have HZZ := hid hz
          go_wp2_with fail
          go_ret
          rw [HDM.out, if_pos HZZ.out]
          refine ⟨rfl, ?_, F8.out⟩
          have := O8.out
          rw [HD.out, Bool.false_or] at this
          exact this
    · have hkl2 : ¬ (k : Int) < (L.list.length : Int) := by omega
      go_wp2_with fail
      have HS3 := sets3 ((Fr.drewN (S := No) w4 (1 + k9)).heap0 A3.out) (.int .i64 x) (.int .i64 nx) (.int .i64 L.fin)
      have A5 := hid HS3.1
      have F5 := hid ((Fr.drewN (S := (· = B)) w4 (1 + k9)).step HS3.2)
      clear HS3
      generalize (((w4.drewN (1 + k9)).setCell ⟨B, 2, none⟩ (.int .i64 x)).setCell ⟨B, 4, none⟩ (.int .i64 nx)).setCell ⟨B, 3, none⟩ (.int .i64 L.fin) = w5 at *
      have HPV : Hid (L.fin = placeAt L.list L.fin k) := by
        show _ = _
        unfold placeAt
        rw [List.getElem?_eq_none (by omega)]
      have F6 : Hid (Fr No w' w5) := F3.out.trans F5.out (fun i hi => .inr (by rw [hi]; exact hB.out))
      have O6 := hid (HO.out.next (F6.out.step (Fr.drew (S := No) w5)))
      have L6 := hid (HL.out.fr (F6.out.step (Fr.drew (S := No) w5)) id (fun _ _ => id))
      have HSV6 := hid (fun W (h : Own w0 W p m) => (show Calls Try.prog 38 #[.pointer (some ⟨p, 0, none⟩), .agg #[.int .i64 ((L.blk.gen : Int) + 1), .int .i64 L.blk.epoch, .int .i64 x, .int .i64 L.fin, .int .i64 nx]] W _ from cutAt_val L k x nx L.fin HX.out HNX.out HPV.out ▸ HSV.out W h))
      have A6 := hid ((Fr.drew (S := No) w5).heap0 A5.out)
      have s0 := (HL.out.fr F6.out id (fun _ _ => id)).c0
      clear HSV HN HF HN4 d6 d7 j0 j1 j2 j3 j4 f0 f1 f2 f3 f4 hqB hBq hkl2 i1 i2 i3 i4 A3 HL4 HZ6
      obtain ⟨j0, j1, j2, j3, j4⟩ := five_cells A5.out
      go_region_held3 (fun W => W.cell? ⟨q, 0, none⟩ = some (.pointer (some ⟨p, 0, none⟩)) ∧ W.cell? ⟨B, 0, none⟩ = some (.int .i64 ((L.blk.gen : Int) + 1)) ∧ W.cell? ⟨B, 1, none⟩ = some (.int .i64 L.blk.epoch) ∧ W.cell? ⟨B, 2, none⟩ = some (.int .i64 x) ∧ W.cell? ⟨B, 3, none⟩ = some (.int .i64 L.fin) ∧ W.cell? ⟨B, 4, none⟩ = some (.int .i64 nx))
        (first | exact ⟨by assumption, by assumption, by assumption, by assumption, by assumption, by assumption⟩ | go_keep)
        (first
        | (go_at_call 38; refine (HSV6.out _ O6.out.dev).mono ?_; rintro e w6 ⟨rfl, h6, f6⟩; have O7 := hid (O6.out.dev' h6 f6); have L7 := hid (L6.out.wr f6); have F7 := hid ((F6.out.step (Fr.drew (S := No) w5)).any.step f6.ofWr); have A7 := hid (heap_wr f6 A6.out (by decide) (by decide) (by decide)); have e0 := L7.out.c0; obtain ⟨e1, e2, e3, e4, e5⟩ := five_cells A7.out; have W7 := hid f6.ofWrL; clear h6 f6)
        | (go_at_call 117; refine (did_at r2 L7.out).mono ?_; rintro e w7 ⟨rfl, hw7⟩; have hs7 := O7.out.setDown _ hw7; have O8 := hid hs7.1; have L8 := L7.out.setDown (L.down || (r2 == 8)); rw [← hw7] at L8; have L8 := hid L8; have A8 := hid (heap_lw hs7.2 A7.out (by decide) (by decide) (by decide) (by decide) (by decide)); have W8 := hid hs7.2; have y0 := L8.out.c0; obtain ⟨y1, y2, y3, y4, y5⟩ := five_cells A8.out; clear hs7 hw7))
      all_goals
        have F8 := hid ((((F6.out.step (Fr.drew (S := No) w5)).any (T := LW w0 w')).lws W7.out).lws W8.out)
        by_cases hz : r2 = 0
        · subst hz
          have HZZ := hid (down_stays HD.out)
          rw [HZZ.out] at O8 L8
          have z6 := L8.out.c6
          have z1 := L8.out.c1
          have z2 := L8.out.c2
          have z3 := L8.out.c3
          have z4 := L8.out.c4
          have z5 := L8.out.c5
          have zf1 := L8.out.free 1
          have zf2 := L8.out.free 2
          have zf3 := L8.out.free 3
          have zf4 := L8.out.free 4
          have zf5 := L8.out.free 5
          have zf6 := L8.out.free 6
          rw [HV.out] at z6
          clear e0 e1 e2 e3 e4 e5 s0 j0 j1 j2 j3 j4 W7 W8 O7 L7 A7 A6 O6 L6 F7 HSV6
          obtain ⟨ir, hir, hr0, hr1, hr2⟩ := info_parts info_rec
          have Z6 := fun (o : Obj) => (Fr.alloc (S := No) w7 o).cell z6 id
          have Y1 := fun (o : Obj) => (Fr.alloc (S := No) w7 o).cell y1 id
          have Y2 := fun (o : Obj) => (Fr.alloc (S := No) w7 o).cell y2 id
          have Y3 := fun (o : Obj) => (Fr.alloc (S := No) w7 o).cell y3 id
          have Y4 := fun (o : Obj) => (Fr.alloc (S := No) w7 o).cell y4 id
          have Y5 := fun (o : Obj) => (Fr.alloc (S := No) w7 o).cell y5 id
          have HONE : Hid (∀ u ∈ (L.list.drop k).flatMap recCells, u.oneCell' = true) := by
            intro u hu
            obtain ⟨r, _, hr⟩ := List.mem_flatMap.1 hu
            simp [recCells] at hr
            rcases hr with rfl | rfl <;> rfl
          have HMANY : Hid (L.list.length < 1099511627776) := HO.out.small.many
          have HLEN : Hid (((L.list.drop k).flatMap recCells).length = (L.list.length - k) * 2) := by
            show _ = _
            rw [length_flatMap_fixed _ recCells 2 (fun _ _ => rfl), List.length_drop]
          have hkn : k ≤ L.list.length := HK.out
          obtain ⟨a2, ha2⟩ : ∃ a2, (if lc = k then ao else Option.map (fun x => x.add (k * 2)) ao) = a2 := ⟨_, rfl⟩
          have HN2 : Hid (a2 = none → L.list.length - k = 0 ∧ lc - k = 0) := by
            intro hn
            have hao : ao = none := by
              rw [hn] at ha2
              split at ha2
              · exact ha2
              · cases ao with
                | none => rfl
                | some _ => cases ha2
            subst hao
            rcases L8.out.list.2 with ⟨h1, h0⟩ | ⟨g', cap, cur, h1, _⟩
            · have h2 := HV.out.symm.trans h1
              injection h2 with _ _ h3
              omega
            · have h2 := HV.out.symm.trans h1
              injection h2 with h3 _ _
              cases h3
          have HCL : Hid (∀ (j : Nat) (u : Value), ((L.list.drop k).flatMap recCells)[j]? = some u → False) := by
            intro j u hu
            rw [List.drop_of_length_le (by omega)] at hu
            simp at hu
          go_wp2_with fail
          go_region_law (first
            | (have FX : Hid (Fr No w7 ((w7.alloc (.cells #[] 181)).drew)) := (Fr.alloc w7 (.cells #[] 181)).step (Fr.drew _); have OW : Hid (((w7.alloc (.cells #[] 181)).drew).ownsRow 0 181 2 (.slice (some ⟨w7.heap.size, 0, none⟩) 0 0) 0 []) := ⟨rfl, .inr ⟨_, 0, #[], rfl, Nat.zero_le _, (Fr.drew (S := No) _).heap0 (heap_alloc_new w7 _), Nat.le_refl _, Nat.zero_le _, rfl, rfl⟩⟩; refine step_append_list rfl (.tmp 77) (.tmp 83) 174 rfl 181 ir _ 2 16 Try.underlying174 hir hr0 hr1 hr2 rfl (by decide) w7.heap.size (by rfl) OW.out a2 (L.list.length - k) (lc - k) ((L.list.drop k).flatMap recCells) (by rfl) HN2.out HLEN.out (fun ad had j u hu => (HCL.out j u hu).elim) HONE.out (by unfold maxLen; have := HMANY.out; omega) (by have := HMANY.out; omega) ?_; intro g9 c9 w9 ho9 hg9 hf9; have LA9 := hid ((L8.out.fr FX.out id (fun _ _ => id)).fr hf9.out id (fun _ _ => id)); have B9 := hid (hf9.out.heap0 (FX.out.heap0 A8.out)); have F9 := hid (FX.out.step hf9.out); have v1 := LA9.out.c1; have v2 := LA9.out.c2; have v3 := LA9.out.c3; have v4 := LA9.out.c4; have v5 := LA9.out.c5; have v6 := LA9.out.c6; have vf1 := LA9.out.free 1; have vf2 := LA9.out.free 2; have vf3 := LA9.out.free 3; have vf4 := LA9.out.free 4; have vf5 := LA9.out.free 5; have vf6 := LA9.out.free 6; obtain ⟨t1, t2, t3, t4, t5⟩ := five_cells B9.out)
            | (have FX : Hid (Fr No w7 (w7.drew.alloc (.cells #[] 181))) := (Fr.drew w7).step (Fr.alloc w7.drew (.cells #[] 181)); have OW : Hid ((w7.drew.alloc (.cells #[] 181)).ownsRow 0 181 2 (.slice (some ⟨w7.heap.size, 0, none⟩) 0 0) 0 []) := ⟨rfl, .inr ⟨_, 0, #[], rfl, Nat.zero_le _, heap_alloc_new w7.drew _, Nat.le_refl _, Nat.zero_le _, rfl, rfl⟩⟩; refine step_append_list rfl (.tmp 77) (.tmp 83) 174 rfl 181 ir _ 2 16 Try.underlying174 hir hr0 hr1 hr2 rfl (by decide) w7.heap.size (by rfl) OW.out a2 (L.list.length - k) (lc - k) ((L.list.drop k).flatMap recCells) (by rfl) HN2.out HLEN.out (fun ad had j u hu => (HCL.out j u hu).elim) HONE.out (by unfold maxLen; have := HMANY.out; omega) (by have := HMANY.out; omega) ?_; intro g9 c9 w9 ho9 hg9 hf9; have LA9 := hid ((L8.out.fr FX.out id (fun _ _ => id)).fr hf9.out id (fun _ _ => id)); have B9 := hid (hf9.out.heap0 (FX.out.heap0 A8.out)); have F9 := hid (FX.out.step hf9.out); have v1 := LA9.out.c1; have v2 := LA9.out.c2; have v3 := LA9.out.c3; have v4 := LA9.out.c4; have v5 := LA9.out.c5; have v6 := LA9.out.c6; have vf1 := LA9.out.free 1; have vf2 := LA9.out.free 2; have vf3 := LA9.out.free 3; have vf4 := LA9.out.free 4; have vf5 := LA9.out.free 5; have vf6 := LA9.out.free 6; obtain ⟨t1, t2, t3, t4, t5⟩ := five_cells B9.out))
          all_goals
            have hdr := OwnL.dropped (L.cutAt k) k ((L.blk.gen : Int) + 1) x nx L.fin (O8.out.dev.next (Fr.refl _ _)) L8.out HO.out.new HSM.out F9.out ho9.out (by rcases hg9.out with h | h; exact Nat.le_of_eq h.symm; exact Nat.le_trans FX.out.size h) (cutAt_val L k x nx L.fin HX.out HNX.out HPV.out)
            have HDR := hid hdr
            clear hdr
            go_wp2_with fail
            go_ret
            rw [HDM.out, if_neg (by decide)]
            exact ⟨rfl, HDR.out.1, F8.out.lws HDR.out.2⟩
        · have HZZ := hid hz
          go_wp2_with fail
          go_ret
          rw [HDM.out, if_pos HZZ.out]
          refine ⟨rfl, ?_, F8.out⟩
          have := O8.out
          rw [HD.out, Bool.false_or] at this
          exact this

end Go.Proofs.Ytpimjachhfnlfaa
