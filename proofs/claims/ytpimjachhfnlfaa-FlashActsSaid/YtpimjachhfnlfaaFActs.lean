/-
  FlashActs, walked. No condition.
-/
import Derived.Test.YtpimjachhfnlfaaTwo
import Derived.Deep.DeepCutAuto
import Derived.Deep.CutBlock
namespace Go.Proofs.Ytpimjachhfnlfaa
open Go.RowKit

/-- A list of acts that came in. -/
structure ActList (w : World) (a : Option Addr) (n : Nat) : Prop where
  elem : 0 < n → ∃ b o, a = some ⟨b, o, none⟩ ∧ ∀ i, i < n → ∃ (z0 z1 : Int) (da : Option Addr) (dn dc : Nat) (l : List UInt8) (k t : Nat), (w.cell? ⟨b, o + i * 5, none⟩ = some (.int .i64 z0) ∧ w.cell? ⟨b, o + i * 5 + 1, none⟩ = some (.int .i64 z1) ∧ w.cell? ⟨b, o + i * 5 + 2, none⟩ = some (.slice da dn dc) ∧ w.cell? ⟨b, o + i * 5 + 3, none⟩ = some (.int .u64 k) ∧ w.cell? ⟨b, o + i * 5 + 4, none⟩ = some (.int .u64 t)) ∧
    BytesIn w da dn l ∧ (da = none → dn = 0 ∧ dc = 0) ∧ k < 18446744073709551616 ∧ t < 18446744073709551616 ∧ -9223372036854775808 ≤ z1 ∧ z1 ≤ 9223372036854775807

/-- append onto an empty slice literal, as it runs. -/
theorem run_append_copy {P : Program} (w : World) (t ty : TypeId) (e : TypeId) (i : TypeInfo) (z : Value) (size bytes : Nat) (ht : P.underlying t = some (.slice e)) (hi : P.info? e = some i) (hz : i.zero = some z)
    (hsize : i.size = size) (hby : i.bytes = bytes) (hzs : z.cells.size = size) (hsz : 0 < size)
    (g0 : Nat) (hown : w.ownsRow 0 e size (.slice (some ⟨g0, 0, none⟩) 0 0) 0 [])
    (ao : Option Addr) (m c : Nat) (news : List Value) (hnil : ao = none → m = 0 ∧ c = 0) (hl : news.length = m * size) (hnews : ∀ ad, ao = some ad → ∀ j u, news[j]? = some u → w.cell? (ad.add j) = some u) (h1 : ∀ u ∈ news, u.oneCell' = true)
    (h63 : m ≤ maxLen) (hbytes : m * bytes ≤ 140737488355328) :
    ∃ g c' w', (Builtin.append_ #[t, t] ty #[.slice (some ⟨g0, 0, none⟩) 0 0, .slice ao m c]).run P w = .ok (.slice (some ⟨g, 0, none⟩) m c') w' ∧ Row w' g e news ∧ m ≤ c' ∧ (g = g0 ∨ w.heap.size ≤ g) ∧ Fr No w w' := by
  have hrow0 := row_of_owns hown
  by_cases hm : m = 0
  · subst hm
    have hn0 : news = [] := List.eq_nil_of_length_eq_zero (by rw [hl]; omega)
    subst hn0
    cases ao with
    | none =>
      obtain ⟨-, rfl⟩ := hnil rfl
      exact ⟨g0, 0, w, run_append_owned_none (P := P) (w := w) 0 t ty e i size ht hi _ 0 [] hown, hrow0, Nat.le_refl _, .inl rfl, Fr.refl _ _⟩
    | some ad =>
      obtain ⟨w', hr, how, hgr⟩ := run_append_fits (P := P) w 0 t ty e i size ht hi hsize g0 0 0 [] hown ad 0 c [] (by simp) (fun j u hu => by cases hu) (fun u hu => by cases hu) (Nat.le_refl _)
      refine ⟨g0, 0, w', hr, row_of_owns how, Nat.le_refl _, .inl rfl, hgr.os, hgr.tape, hgr.output, hgr.size, fun k hk _ => ?_⟩
      by_cases hk0 : k = g0
      · subst hk0
        rcases how.2 with ⟨hv, _⟩ | ⟨g', cap', cur', hv, _, hg', _, _, hcs', _⟩
        · cases hv
        · cases hv
          rcases hown.2 with ⟨hv, _⟩ | ⟨g2, cap2, cur2, hv, _, hg2, _, _, hcs2, _⟩
          · cases hv
          · cases hv
            rw [hg', hg2]
            have e1 : cur' = #[] := Array.eq_empty_of_size_eq_zero (by omega)
            have e2 : cur2 = #[] := Array.eq_empty_of_size_eq_zero (by omega)
            rw [e1, e2]
      · exact hgr.block k hk (fun e => hk0 (Option.some.inj e))
  · cases ao with
    | none => exact absurd (hnil rfl).1 hm
    | some ad =>
      obtain ⟨v', w', hr, how, hgr⟩ := run_append_arg_grows (P := P) w t ty e i z size bytes ht hi hz hsize hby hzs hsz ⟨g0, 0, none⟩ 0 0 [] (by simp) (fun j u hu => by cases hu) ad m c news hl (hnews ad rfl) (by omega) (by omega) (by simpa using hbytes)
      rw [Nat.zero_add, List.nil_append] at how
      rcases how.2 with ⟨_, h0⟩ | ⟨g', cap', cur', rfl, hb, hg, hnc, _⟩
      · exact absurd h0 hm
      · exact ⟨g', cap', w', hr, row_of_owns how, hnc, .inr hb, Fr.grown hgr (fun k hk => by cases hk)⟩

/-- The same as one step of a region that draws its order. -/
theorem step_append_copy {P : Program} {ops : Array Oper} {o : Oper} {a : Act} {w : World} {K : Act → World → Prop} {Q : Exit → Act → World → Prop} {E : Prop} (hgd : o.guard = none) (s x : Operand) (t : TypeId)
    (ho : o.op = .call { callee := .builtin .append, args := #[s, x], argTypes := #[t, t] })
    (e : TypeId) (i : TypeInfo) (z : Value) (size bytes : Nat) (ht : P.underlying t = some (.slice e)) (hi : P.info? e = some i) (hz : i.zero = some z)
    (hsize : i.size = size) (hby : i.bytes = bytes) (hzs : z.cells.size = size) (hsz : 0 < size)
    (g0 : Nat) (hs : a.eval s = .slice (some ⟨g0, 0, none⟩) 0 0) (hown : w.ownsRow 0 e size (.slice (some ⟨g0, 0, none⟩) 0 0) 0 [])
    (ao : Option Addr) (m c : Nat) (news : List Value) (hx : a.eval x = .slice ao m c) (hnil : ao = none → m = 0 ∧ c = 0) (hl : news.length = m * size) (hnews : ∀ ad, ao = some ad → ∀ j u, news[j]? = some u → w.cell? (ad.add j) = some u) (h1 : ∀ u ∈ news, u.oneCell' = true)
    (h63 : m ≤ maxLen) (hbytes : m * bytes ≤ 140737488355328)
    (h : ∀ g c' w', Hid (Row w' g e news) → Hid (m ≤ c') → Hid (g = g0 ∨ w.heap.size ≤ g) → Hid (Fr No w w') → K (a.put o.dst (.slice (some ⟨g, 0, none⟩) m c')) w') :
    if Region.wanted o (yielded ops a.tmps) = true then Oper.wp P o a w K Q else E := by
  have hw : Region.wanted o (yielded ops a.tmps) = true := by simp [Region.wanted, hgd]
  rw [if_pos hw]
  obtain ⟨g, c', w', hr, h2, h3, h4, h5⟩ := run_append_copy (P := P) w t o.type e i z size bytes ht hi hz hsize hby hzs hsz g0 hown ao m c news hnil hl hnews h1 h63 hbytes
  unfold Oper.wp
  simp [execOp, ho, resolve, invoke, builtin, hs, hx, hr, Result.andThen]
  exact h g c' w' h2 h3 h4 h5

theorem act_cells {w : World} {g : Nat} {e : TypeId} {a0 a1 a2 a3 a4 : Value} (h : w.heap[g]? = some (.cells #[a0, a1, a2, a3, a4] e (0, 0))) :
    w.cell? ⟨g, 0, none⟩ = some a0 ∧ w.cell? ⟨g, 1, none⟩ = some a1 ∧ w.cell? ⟨g, 2, none⟩ = some a2 ∧ w.cell? ⟨g, 3, none⟩ = some a3 ∧ w.cell? ⟨g, 4, none⟩ = some a4 :=
  ⟨cell_of_row w g 0 _ _ _ h, cell_of_row w g 1 _ _ _ h, cell_of_row w g 2 _ _ _ h, cell_of_row w g 3 _ _ _ h, cell_of_row w g 4 _ _ _ h⟩

theorem write_sure (m : Dv) (k : Int) (b : List UInt8) : (m.write k b).1.sure = m.sure := by
  unfold Dv.write
  split
  · rfl
  · split
    · rfl
    · split
      · exact spent_sure m
      · exact spent_sure m

theorem sync_sure (m : Dv) : m.sync.1.sure.length = m.sure.length := by
  unfold Dv.sync
  split
  · rfl
  · split
    · rw [spent_sure]
    · simp only [settleAll_len]

theorem crash_sure (m : Dv) (x y : Nat) : (m.crash x y).sure.length = m.sure.length := by
  show (crashFrom _ _ _ _ _).length = _
  rw [crashFrom_len]

theorem wfew (m : Dv) (k : Int) (b : List UInt8) : (m.write k b).1.unsure.length ≤ m.unsure.length + 1 := by
  unfold Dv.write
  split
  · exact Nat.le_succ _
  · split
    · exact Nat.le_succ _
    · split
      · rw [spent_unsure]; exact Nat.le_succ _
      · simp

theorem sfew (m : Dv) : m.sync.1.unsure.length ≤ m.unsure.length := by
  unfold Dv.sync
  split
  · exact Nat.le_refl _
  · split
    · rw [spent_unsure]; exact Nat.le_refl _
    · exact Nat.zero_le _

theorem same_true {w : World} {a1 a2 : Option Addr} {n1 n2 : Nat} {l : List UInt8} (c1 c2 : Nat) (h1 : BytesIn w a1 n1 l) (h2 : BytesIn w a2 n2 l) (hn : n1 ≤ 9223372036854775806) :
    Calls Try.prog 25 #[.slice a1 n1 c1, .slice a2 n2 c2] w fun e w' => e = .returned (.bool true) ∧ ∃ k, w' = w.drewN k := by
  refine (same_any c1 c2 h1 h2 hn).mono fun e w' hh => ?_
  obtain ⟨⟨b, he, hb⟩, hk⟩ := hh
  obtain rfl : b = true := hb.2 rfl
  exact ⟨he, hk⟩

set_option maxRecDepth 100000 in
set_option maxHeartbeats 4000000 in
theorem acts_bad (n : Int) (v : Value) (w : World) (h : n < 1 ∨ 60 < n) :
    Calls Try.prog 5 #[.int .i64 n, v] w fun e w' => e = .returned (.bool true) ∧ Fr No w w' := by
  by_cases h1 : n < 1
  · go_enter Try.func5, Try.ntmps5
    go_wp2_with fail
    refine (new_bad n _ (.inl h1)).mono ?_
    rintro e w' ⟨rfl, rfl⟩
    go_wp2_with fail
    refine (answers_any _).mono ?_
    rintro e w2 ⟨rfl, hf⟩
    have F2 := hid hf
    clear hf
    go_wp2_with fail
    go_ret
    exact ⟨rfl, F2.out⟩
  · by_cases h2 : 4096 < n
    · have h3 : (1 : Int) ≤ n := by omega
      go_enter Try.func5, Try.ntmps5
      go_wp2_with fail
      refine (new_bad n _ (.inr h2)).mono ?_
      rintro e w' ⟨rfl, rfl⟩
      go_wp2_with fail
      refine (answers_any _).mono ?_
      rintro e w2 ⟨rfl, hf⟩
      have F2 := hid hf
      clear hf
      go_wp2_with fail
      go_ret
      exact ⟨rfl, F2.out⟩
    · obtain ⟨k, rfl⟩ := Int.eq_ofNat_of_zero_le (show 0 ≤ n by omega)
      have h3 : (1 : Int) ≤ (k : Int) := by omega
      have h4 : (k : Int) ≤ 4096 := by omega
      have h5 : (60 : Int) < (k : Int) := by omega
      clear h h1 h2
      go_enter Try.func5, Try.ntmps5
      go_wp2_with fail
      refine (own_new k w w (Fr.refl _ _) (by omega) (by omega)).mono ?_
      rintro e w1 ⟨p, rfl, ho, hf1⟩
      have O1 := hid ho
      clear ho hf1
      go_wp2_with fail
      refine (answers_any _).mono ?_
      rintro e w2 ⟨rfl, hf⟩
      have F2 := hid (O1.out.fr.step hf)
      clear hf
      go_wp2_with fail
      go_ret
      exact ⟨rfl, F2.out⟩

set_option maxRecDepth 100000 in
set_option maxHeartbeats 8000000 in
theorem acts_walk (s : Nat) (a : Option Addr) (n c : Nat) (w : World) (h1 : 1 ≤ s) (h60 : s ≤ 60) (ha : ActList w a n) (hn : n ≤ maxLen) :
    Calls Try.prog 5 #[.int .i64 s, .slice a n c] w fun e w' => e = .returned (.bool true) ∧ Fr No w w' := by
  have HA := hid ha
  unfold maxLen at hn
  have b1 : (1 : Int) ≤ (s : Int) := by omega
  have b2 : (s : Int) ≤ 60 := by omega
  clear ha
  go_enter Try.func5, Try.ntmps5
  go_wp2_with fail
  refine (own_new s w w (Fr.refl _ _) (by omega) (by omega)).mono ?_
  rintro e w1 ⟨p0, rfl, ho, hf1⟩
  have O1 := hid ho
  clear ho hf1
  go_wp2_with fail
  refine (answers_any _).mono ?_
  rintro e w2 ⟨rfl, hf⟩
  have O2 := hid (O1.out.next hf)
  clear hf
  go_wp2_with fail
  refine (two_rnew O2.out h1 (by omega)).mono ?_
  rintro e w3 ⟨q, rfl, ht⟩
  have T3 := hid ht
  clear ht
  go_wp2_with fail
  go_loopw [5, 8] (fun d i wr => ∃ (j p : Nat) (m : Dv), j ≤ n ∧ j ≤ 80 ∧ i = .int .i64 j ∧ d = .pointer (some ⟨p, 0, none⟩) ∧ Hid (Two w wr No p m q m) ∧ Hid (m.unsure.length ≤ j) ∧ Hid (m.sure.length = s)) (fun _ i _ => 80 - (intOf i).toNat)
  case atStart => exact ⟨0, p0, Dv.zero s, Nat.zero_le _, Nat.zero_le _, rfl, rfl, T3.out, Nat.zero_le _, new_zero_len s⟩
  case round =>
    obtain ⟨j, p, m, hj, hj80, rfl, rfl, ht, hun, hsu⟩ := hrel
    by_cases hgo : j < n ∧ j < 80
    · obtain ⟨hlt, hlt80⟩ := hgo
      obtain ⟨b, o, rfl, hel⟩ := HA.out.elem (by omega)
      obtain ⟨z0, z1, da, dn, dc, l, k, t, ⟨k0, k1, k2, k3, k4⟩, hb, hnil, hk, hT, r1, r2⟩ := hel j hlt
      have k0 := ht.out.fr.cell k0 id
      have k1 := ht.out.fr.cell k1 id
      have k2 := ht.out.fr.cell k2 id
      have k3 := ht.out.fr.cell k3 id
      have k4 := ht.out.fr.cell k4 id
      have HB := hid hb
      have HNL := hid hnil
      have HK := hid hk
      have HT := hid hT
      clear hel hb hnil hk hT
      by_cases hbig : 2000 < dn
      · have hb2 : (2000 : Int) < (dn : Int) := by omega
        go_wp2_with fail
        go_roundw
        case rel => exact ⟨j + 1, p, m, hlt, hlt80, by go_num, rfl, ht.out.next (Fr.alloc _ _), Nat.le_trans hun.out (Nat.le_succ _), hsu.out⟩
        case measure => simp [intOf]; omega
      · have hb2 : ¬ (2000 : Int) < (dn : Int) := by omega
        have A0 := hid (heap_alloc_new wr (.cells #[.int .i64 z0, .int .i64 z1, .slice da dn dc, .int .u64 k, .int .u64 t] 45))
        have T0 := hid (ht.out.alloc (.cells #[.int .i64 z0, .int .i64 z1, .slice da dn dc, .int .u64 k, .int .u64 t] 45))
        have B0 := hid ((HB.out.fr0 ht.out.fr).fr0 (Fr.alloc wr (.cells #[.int .i64 z0, .int .i64 z1, .slice da dn dc, .int .u64 k, .int .u64 t] 45)))
        go_upto_block 2 with fail
        go_cut [5] (fun d wx => ∃ (p' : Nat) (m' : Dv), d = .pointer (some ⟨p', 0, none⟩) ∧ Hid (Two w wx (· = wr.heap.size) p' m' q m') ∧ Hid (m'.unsure.length ≤ j + 1) ∧ Hid (m'.sure.length = s) ∧ Hid (wx.heap[wr.heap.size]? = some (.cells #[.int .i64 z0, .int .i64 z1, .slice da dn dc, .int .u64 k, .int .u64 t] 45 (0, 0))))
        case first =>
          as_aux_lemma =>
            obtain ⟨k0', k1', k2', k3', k4'⟩ := act_cells A0.out
            have few : m.unsure.length < 1099511627776 := by have := hun.out; omega
            by_cases e1 : z0 = 1
            · subst e1
              obtain ⟨iu, hiu, hu0, hu1, hu2⟩ := info_parts info_u8
              obtain ⟨W0, hW0⟩ : ∃ W0, W0 = wr.alloc (.cells #[.int .i64 1, .int .i64 z1, .slice da dn dc, .int .u64 k, .int .u64 t] 45) := ⟨_, rfl⟩
              rw [← hW0] at A0 T0 B0 k0' k1' k2' k3' k4' ⊢
              have HW0 := hid hW0
              have HO := hid (World.ownsRow_made (base := 0) (e := 5) (size := 1) W0 #[] 0 (Nat.zero_le _) (by decide) rfl)
              have LW : Hid (wr.heap.size < W0.heap.size) := by show _ < _; rw [hW0]; simp
              have HBA := hid (B0.out.fr0 (Fr.alloc W0 (.cells #[] 5)))
              have FB := hid (Fr.alloc (S := No) W0 (.cells #[] 5))
              have lw := LW.out
              have b3 : (dn : Int) ≤ 2000 := by omega
              obtain ⟨r, hr⟩ : ∃ r, r = m.write z1 l := ⟨_, rfl⟩
              have hs1 := hid (fun (w6 : World) (g6 c6 : Nat) (h : Two w w6 (· = wr.heap.size) p m q m) (hb : BytesIn w6 (some ⟨g6, 0, none⟩) dn l) => two_write z1 (some ⟨g6, 0, none⟩) dn c6 l h few hb)
              have hs2 := hid (fun (w7 : World) (m1 : Dv) (h : Two w w7 (· = wr.heap.size) p m1 q m) (hb : BytesIn w7 da dn l) => two_rwrite z1 da dn dc l h few hb)
              rw [← hr] at hs1 hs2
              have HR := hid hr
              have hrr : (r.2 != r.2) = false := by rw [bne_eq_false_iff_eq]
              have HF := hid ((Fr.alloc (S := No) W0 (.cells #[] 5)).step (Fr.drew _))
              have HBD := hid (HBA.out.fr0 (Fr.drew (S := No) _))
              have HOD := hid (HO.out.drew)
              clear k0 k1 k2 k3 k4 hW0 hr few
              go_wp2_with fail
              go_region_held3 (fun w' => w'.cell? ⟨wr.heap.size, 1, none⟩ = some (.int .i64 z1) ∧ w'.cell? ⟨wr.heap.size, 2, none⟩ = some (.slice da dn dc))
                (first | exact ⟨by assumption, by assumption⟩ | go_keep)
                (first
                | (refine step_append_copy rfl (.tmp 78) (.tmp 80) 23 rfl 5 iu (.int .u8 0) 1 1 Try.underlying23 hiu hu0 hu1 hu2 rfl (by decide) W0.heap.size (by rfl) HOD.out da dn dc (bvs l) (by rfl) HNL.out (by rw [bvs_len, HB.out.len, Nat.mul_one]) HBD.out.cell (bvs_one l) (by unfold maxLen; omega) (by omega) ?_; intro g6 c6 w6 hr6 hc6 hg6 hf6; have TA := hid ((T0.out.next HF.out).next hf6.out); have AA := hid (hf6.out.heap0 (HF.out.heap0 A0.out)); have BA := hid (Row.bytes hr6.out HB.out.len); have x1 := (act_cells AA.out).2.1; have x2 := (act_cells AA.out).2.2.1; clear hr6 hc6 hg6 hf6)
                | (go_at_call 20; refine (hs1.out _ _ _ TA.out BA.out).mono ?_; rintro e w7 ⟨rfl, h7, f7⟩; have T7 := hid h7; have A7 := hid (f7.heap AA.out (fun h => h.2 rfl)); have B7 := hid (HB.out.fr0 h7.fr); have y1 := (act_cells A7.out).2.1; have y2 := (act_cells A7.out).2.2.1; clear h7 f7)
                | (go_at_call 27; refine (hs2.out _ _ T7.out B7.out).mono ?_; rintro e w8 ⟨rfl, h8, f8⟩; have T8 := hid h8; have A8 := hid (f8.heap A7.out (fun h => h.2 rfl)); have v1 := (act_cells A8.out).2.1; have v2 := (act_cells A8.out).2.2.1; clear h8 f8))
              go_wp2_with fail
              go_meet
              exact ⟨p, r.1, rfl, T8.out, by rw [HR.out]; exact Nat.le_trans (wfew _ _ _) (Nat.succ_le_succ hun.out), by show _ = _; rw [HR.out, write_sure]; exact hsu.out, by rw [← HW0.out] at *; exact A8.out⟩
            · have q1 : (z0 == 1) = false := by rw [beq_eq_false_iff_ne]; omega
              by_cases e2 : z0 = 2
              · subst e2
                have fewb : m.sync.1.unsure.length ≤ 1099511627776 := by have := sfew m; omega
                have hs1 := hid (two_sync T0.out (Nat.le_of_lt few))
                obtain ⟨r, hr⟩ : ∃ r, r = m.sync := ⟨_, rfl⟩
                rw [← hr] at hs1
                have HR := hid hr
                clear hr k0 k1 k2 k3 k4 e1
                go_wp2_with fail
                refine hs1.out.mono ?_
                rintro e w5 ⟨rfl, h5, f5⟩
                have hs2 := hid (two_rsync h5 (Nat.le_of_lt few))
                rw [← HR.out] at hs2
                have F5 := hid f5
                have hrr : (r.2 != r.2) = false := by rw [bne_eq_false_iff_eq]
                clear h5 f5
                go_wp2_with fail
                refine hs2.out.mono ?_
                rintro e w6 ⟨rfl, h6, f6⟩
                have H6 := hid h6
                have F6 := hid f6
                clear h6 f6
                go_wp2_with fail
                go_meet
                have hlt0 := (T0.out.old _ rfl)
                exact ⟨p, r.1, rfl, H6.out, by rw [HR.out]; exact Nat.le_trans (sfew m) (Nat.le_trans hun.out (Nat.le_succ _)), by show _ = _; rw [HR.out, sync_sure]; exact hsu.out, F6.out.heap (F5.out.heap A0.out (fun h => h.2 rfl)) (fun h => h.2 rfl)⟩
              · have q2 : (z0 == 2) = false := by rw [beq_eq_false_iff_ne]; omega
                by_cases e3 : z0 = 3
                · subst e3
                  by_cases hz : z1 < 0
                  · have hge : decide (0 ≤ z1) = false := decide_eq_false (by omega)
                    have hz2 : ¬ (0 : Int) ≤ z1 := by omega
                    clear k0 k1 k2 k3 k4
                    go_wp2_with fail
                    refine (limit_neg p z1 _ hz).mono ?_
                    rintro e w' ⟨rfl, rfl⟩
                    go_wp2_with fail
                    go_meet
                    exact ⟨p, m, rfl, T0.out, Nat.le_trans hun.out (Nat.le_succ _), hsu.out, A0.out⟩
                  · obtain ⟨y, rfl⟩ := Int.eq_ofNat_of_zero_le (show 0 ≤ z1 by omega)
                    have hs1 := hid (two_limit y T0.out (by omega))
                    have hz2 : (0 : Int) ≤ (y : Int) := by omega
                    clear k0 k1 k2 k3 k4
                    go_wp2_with fail
                    refine hs1.out.mono ?_
                    rintro e w5 ⟨rfl, h5, f5⟩
                    have hs2 := two_rlimit y h5 (by omega)
                    obtain ⟨hs2, fs2, ⟨zz, g1⟩, g2⟩ := hs2
                    have HS2 := hid hs2
                    have FS2 := hid fs2
                    have A5 := hid (f5.heap A0.out (fun h => h.2 rfl))
                    obtain ⟨l0, l1, l2, l3, l4⟩ := act_cells A5.out
                    clear h5 f5 hs2 fs2 k0' k1' k2' k3' k4'
                    go_wp2_with fail
                    go_meet
                    exact ⟨p, { m with limit := y }, rfl, HS2.out, Nat.le_trans hun.out (Nat.le_succ _), hsu.out, FS2.out.heap A5.out (fun h => h.2 rfl)⟩
                · have q3 : (z0 == 3) = false := by rw [beq_eq_false_iff_ne]; omega
                  by_cases e4 : z0 = 4
                  · subst e4
                    have hs1 := hid (two_crash k t T0.out (Nat.le_of_lt few) HK.out HT.out)
                    obtain ⟨r, hr⟩ : ∃ r, r = m.crash k t := ⟨_, rfl⟩
                    rw [← hr] at hs1
                    have HR := hid hr
                    clear hr k0 k1 k2 k3 k4
                    go_wp2_with fail
                    refine hs1.out.mono ?_
                    rintro e w5 ⟨rfl, h5, f5⟩
                    have hs2 := hid (two_rcrash k t h5 (Nat.le_of_lt few))
                    rw [← HR.out] at hs2
                    have A5 := hid (f5.heap A0.out (fun h => h.2 rfl))
                    obtain ⟨l0, l1, l2, l3, l4⟩ := act_cells A5.out
                    clear h5 f5 k0' k1' k2' k3' k4'
                    go_wp2_with fail
                    refine hs2.out.mono ?_
                    rintro e w6 ⟨rfl, h6, f6⟩
                    have H6 := hid h6
                    have F6 := hid f6
                    clear h6 f6
                    go_wp2_with fail
                    go_meet
                    exact ⟨p, r, rfl, H6.out, by rw [HR.out]; exact Nat.zero_le _, by show _ = _; rw [HR.out, crash_sure]; exact hsu.out, F6.out.heap A5.out (fun h => h.2 rfl)⟩
                  · have q4 : (z0 == 4) = false := by rw [beq_eq_false_iff_ne]; omega
                    by_cases e6 : z0 = 6
                    · subst e6
                      have hs1 := hid (two_copy T0.out few)
                      clear k0 k1 k2 k3 k4
                      go_wp2_with fail
                      refine hs1.out.mono ?_
                      rintro e w5 ⟨p2, cc, sp, rfl, h5, f5⟩
                      have H5 := hid (h5.recap cc sp)
                      have F5 := hid f5
                      clear h5 f5
                      go_wp2_with fail
                      go_meet
                      exact ⟨p2, _, rfl, H5.out, Nat.le_trans hun.out (Nat.le_succ _), hsu.out, F5.out.heap A0.out (fun h => h.2 rfl)⟩
                    · have q6 : (z0 == 6) = false := by rw [beq_eq_false_iff_ne]; omega
                      clear k0 k1 k2 k3 k4
                      go_wp2_with fail
                      go_meet
                      exact ⟨p, m, rfl, T0.out, Nat.le_trans hun.out (Nat.le_succ _), hsu.out, A0.out⟩
        case rest =>
          as_aux_lemma =>
            obtain ⟨p', m', rfl, T1, U1, S1, A1⟩ := hcut
            have few : m'.unsure.length < 1099511627776 := by have := U1.out; omega
            have FEW := hid few
            have TD := hid (T1.out.next (Fr.drew (S := No) wc))
            obtain ⟨uo, uc, us, -, s3, -, -⟩ := TD.out.shows
            obtain ⟨dn, hdn⟩ : ∃ dn, dn = m'.down := ⟨_, rfl⟩
            have hdw := hid (two_down TD.out)
            have hln := hid (two_len TD.out)
            rw [← hdn] at s3 hdw
            have hsl := S1.out
            rw [hsl] at hln
            have a1 : wc.drew.cell? ⟨wr.heap.size, 1, none⟩ = some (.int .i64 z1) := (Fr.drew (S := No) wc).cell (cell_of_row wc wr.heap.size 1 _ _ _ A1.out) id
            have sz : ((s : Int) == 0) = false := by rw [beq_eq_false_iff_ne]; omega
            have sz2 : ¬ s = 0 := by omega
            clear hdn few hsl
            have hbb : (dn != dn) = false := by cases dn <;> rfl
            go_wp2_with fail
            go_region_held3 (fun w' => w'.cell? ⟨q, 3, none⟩ = some (.bool dn) ∧ w'.cell? ⟨wr.heap.size, 1, none⟩ = some (.int .i64 z1))
                (first | exact ⟨by assumption, by assumption⟩ | go_keep)
                (first
                | (go_at_call 32; refine hdw.out.mono ?_; rintro e w' ⟨rfl, rfl⟩)
                | (go_at_call 33; refine hln.out.mono ?_; rintro e w' ⟨rfl, rfl⟩)
                | (go_at_call 34; refine (two_alike _ TE.out (Nat.le_of_lt FEW.out)).mono ?_; rintro e w5 ⟨rfl, hf5⟩; have TG := hid (TE.out.next hf5); have x1 := hf5.cell y1 id; have x2 := hf5.cell y2 id; clear hf5)
                | (go_at_call 34; refine (two_alike _ TD.out (Nat.le_of_lt FEW.out)).mono ?_; rintro e w4 ⟨rfl, hf4⟩; have TE := hid (TD.out.next hf4); have y1 := hf4.cell s3 id; have y2 := hf4.cell a1 id; clear hf4))
            clear s3 a1 sz sz2 hbb
            clear x1 x2 y1 y2
            go_wp2_with fail
            refine (two_unsure TG.out FEW.out).mono ?_
            rintro e w6 ⟨v, rfl, hv6, hf6⟩
            have TH := hid (TG.out.next hf6)
            obtain ⟨uo, uc, us, hus, -, s1, hsh⟩ := TH.out.shows
            obtain ⟨us1, e1, ho1, hd1, -⟩ := hv6
            have hlen : us1.length = us.length := by
              have : (us1.map UW.pair).length = (us.map UW.pair).length := by rw [← e1, ← hus]
              simpa using this
            obtain ⟨vo, vn, vc, hvv⟩ : ∃ vo vn vc, v = .slice vo vn vc := by
              rcases ho1.2 with ⟨h, _⟩ | ⟨g, cap, cur, h, _⟩
              · exact ⟨_, _, _, h⟩
              · exact ⟨_, _, _, h⟩
            have hvn : vn = us.length := by
              rw [← hlen]
              rcases ho1.2 with ⟨h, h2⟩ | ⟨g, cap, cur, h, _⟩
              · rw [h] at hvv; cases hvv; omega
              · rw [h] at hvv; cases hvv; rfl
            subst hvv
            have hcl : ∀ i (hi : i < us1.length) (hj : i < us.length), ∃ vg, vo = some ⟨vg, 0, none⟩ ∧ w6.cell? ⟨vg, i * 2, none⟩ = some (.int .i64 (us[i]).pos) ∧ w6.cell? ⟨vg, i * 2 + 1, none⟩ = some (.slice (some ⟨(us1[i]).g, 0, none⟩) 512 (us1[i]).c) ∧ BytesIn w6 (some ⟨(us1[i]).g, 0, none⟩) 512 (us[i]).data := by
              intro i hi hj
              obtain ⟨vg, vcc, hvv, hvr, -, -⟩ := owns_place ho1 (by omega)
              injection hvv with a1 a2 a3
              have hp : (us1[i]).pair = (us[i]).pair := by
                have h1 : (us1.map UW.pair)[i]? = (us.map UW.pair)[i]? := by rw [← e1, ← hus]
                simpa [hi, hj] using h1
              have hp1 : (us1[i]).pos = (us[i]).pos := congrArg Prod.fst hp
              have hp2 : (us1[i]).data = (us[i]).data := congrArg Prod.snd hp
              refine ⟨vg, a1, ?_, hvr.cell _ _ (uw_at i hi).2, ?_⟩
              · rw [← hp1]; exact hvr.cell _ _ (uw_at i hi).1
              · rw [← hp2]
                refine (hd1 _ (List.getElem_mem hi)).1.bytes ?_
                rw [hp2]
                exact TH.out.wf.wsize (us[i]).pair (by rw [hus]; exact List.mem_map_of_mem (List.getElem_mem hj))
            have HCL := hid hcl
            have HSH := hid hsh
            have HLN := hid hlen
            obtain ⟨un, hun2⟩ : ∃ un, un = us.length := ⟨_, rfl⟩
            rw [← hun2] at s1 hvn
            subst hvn
            have HUN := hid hun2
            have few3 : vn ≤ 1000 := by have h1 := U1.out; rw [hus] at h1; simp at h1; omega
            clear hcl hsh hlen hun2 hus e1 ho1 hd1 hf6
            go_wp2_with fail
            go_loopw [12] (fun i wx => ∃ i' : Nat, i' ≤ vn ∧ i = .int .i64 i' ∧ Hid (Fr No w6 wx)) (fun i _ => vn - (intOf i).toNat)
            case atStart => exact ⟨0, Nat.zero_le _, rfl, Fr.refl _ _⟩
            case round =>
              obtain ⟨i', hi', rfl, hfx⟩ := hrel
              by_cases hlt2 : i' < vn
              · have hi1 : Hid (i' < us.length) := by have := HUN.out; show i' < us.length; omega
                have hi2 : Hid (i' < us1.length) := by have := HLN.out; have := hi1.out; show i' < us1.length; omega
                obtain ⟨vg, rfl, c0, c1, hb1⟩ := HCL.out i' hi2.out hi1.out
                obtain ⟨ug, rfl, d0, d1, hb2⟩ := HSH.out i' hi1.out
                have c0 := hfx.out.cell c0 id
                have c1 := hfx.out.cell c1 id
                have d0 := hfx.out.cell d0 id
                have d1 := hfx.out.cell d1 id
                have s2 := hfx.out.cell s1 id
                have hb1 := hid (hb1.fr0 hfx.out)
                have hb2 := hid (hb2.fr0 hfx.out)
                generalize us1[i']'hi2.out = u1 at *
                generalize us[i']'hi1.out = u2 at *
                have hbp : ((u2.pos : Int) != (u2.pos : Int)) = false := by rw [bne_eq_false_iff_eq]
                go_wp2_with fail
                go_quiet ((go_at_call 25; exact Calls.quiet_of (same_true _ _ (hb1.out.drewN _) (hb2.out.drewN _) (by decide))))
                go_wp2_with fail
                go_roundw
                case rel => exact ⟨i' + 1, hlt2, by go_num, hfx.out.step (Fr.drewN _ _)⟩
                case measure => simp [intOf]; omega
              · obtain rfl : i' = vn := by omega
                have hfin := hid ((TH.out.next hfx.out).forget)
                go_wp2_with fail
                go_roundw
                case rel => exact ⟨j + 1, p', m', hlt, hlt80, by go_num, rfl, hfin.out, U1.out, S1.out⟩
                case measure => simp [intOf]; omega
    · have hdis : ¬ (j < n) ∨ (j < n ∧ ¬ (j < 80)) := by omega
      have TW := hid ht.out
      have few : m.unsure.length ≤ 1099511627776 := by have := hun.out; omega
      clear ht hgo
      rcases hdis with hd | ⟨hd1, hd⟩
      all_goals
        go_wp2_with fail
        go_loopw [13] (fun i wx => ∃ i' : Nat, i' ≤ s ∧ i = .int .i64 i' ∧ Hid (Two w wx No p m q m)) (fun i _ => s - (intOf i).toNat)
        case atStart => exact ⟨0, Nat.zero_le _, rfl, TW.out⟩
        case round =>
          obtain ⟨i', hi', rfl, hT⟩ := hrel
          by_cases hlt2 : i' < s
          · go_wp2_with fail
            refine (two_alike _ hT.out few).mono ?_
            rintro e w5 ⟨rfl, hf5⟩
            have TN := hid (hT.out.next hf5)
            clear hf5
            go_wp2_with fail
            go_roundw
            case rel => exact ⟨i' + 1, hlt2, by go_num, TN.out⟩
            case measure => simp [intOf]; omega
          · obtain rfl : i' = s := by omega
            go_wp2_with fail
            go_ret
            exact ⟨rfl, hT.out.fr⟩

end Go.Proofs.Ytpimjachhfnlfaa
