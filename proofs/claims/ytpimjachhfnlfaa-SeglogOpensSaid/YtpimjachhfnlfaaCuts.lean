/-
  SuperCuts, walked. No condition.
-/
import Derived.Test.YtpimjachhfnlfaaCutsLaw
import Derived.Test.YtpimjachhfnlfaaRFits
namespace Go.Proofs.Ytpimjachhfnlfaa
open Go.RowKit

/-- A list of blocks that came in. -/
structure BlkList (w : World) (a : Option Addr) (n : Nat) : Prop where
  elem : 0 < n → ∃ b o, a = some ⟨b, o, none⟩ ∧ ∀ i, i < n → ∃ z0 z1 z2 z3 z4 : Int, (w.cell? ⟨b, o + i * 5, none⟩ = some (.int .i64 z0) ∧ w.cell? ⟨b, o + i * 5 + 1, none⟩ = some (.int .i64 z1) ∧ w.cell? ⟨b, o + i * 5 + 2, none⟩ = some (.int .i64 z2) ∧ w.cell? ⟨b, o + i * 5 + 3, none⟩ = some (.int .i64 z3) ∧ w.cell? ⟨b, o + i * 5 + 4, none⟩ = some (.int .i64 z4)) ∧
    (∀ z, z = z1 ∨ z = z2 ∨ z = z3 ∨ z = z4 → -9223372036854775808 ≤ z ∧ z ≤ 9223372036854775807)

theorem fits_nat {z : Int} (h : fitsB z 7 = true) : ∃ x : Nat, z = x ∧ x < 72057594037927936 := by
  unfold fitsB at h
  simp only [Bool.and_eq_true, decide_eq_true_eq] at h
  refine ⟨z.toNat, by omega, ?_⟩
  have : ((2 ^ (8 * 7) : Nat) : Int) = 72057594037927936 := by decide
  omega

theorem own_limit {w0 w : World} {p : Nat} {m : Dv} (n : Nat) (h : Own w0 w p m) (hn : n ≤ 9223372036854775807) :
    Calls Try.prog 29 #[.pointer (some ⟨p, 0, none⟩), .int .i64 n] w fun e w' => e = .returned (.int .i64 0) ∧ Own w0 w' p { m with limit := n } ∧ Fr (Wr (New w0) w) w w' := by
  obtain ⟨S, ⟨bs, uv, us, hd, hS⟩, hSn, hf⟩ := h
  have h2 := hd.c2
  have hf2 := hd.free 2
  have hH : Hid (DevAt w p bs uv us m) := hd
  clear hd
  go_enter Try.func29, Try.ntmps29
  go_wp2
  go_ret
  have f := Fr.set1 w p 2 (.int .i64 n)
  refine ⟨rfl, ⟨S, ?_, hSn, hf.trans f (fun i hi => .inr (by rw [hi]; exact hSn _ hS.1))⟩, f.mono fun i _ hi => ?_⟩
  · refine Dev.re (hH.out.rehead f n m.down hn ?_) hS f.size
    rw [heap_setCell_same _ _ _ _ _ _ hH.out.head]
    simp
  · rw [hi]
    exact ⟨hSn _ hS.1, hH.out.dt_p⟩

theorem own_crashW {w0 w : World} {p : Nat} {m : Dv} (mask torn : Nat) (h : Own w0 w p m) (few : m.unsure.length ≤ 1099511627776) (hm : mask < 18446744073709551616) (ht : torn < 18446744073709551616) :
    Calls Try.prog 22 #[.pointer (some ⟨p, 0, none⟩), .int .u64 mask, .int .u64 torn] w fun e w' => e = .returned (.int .i64 0) ∧ Own w0 w' p (m.crash mask torn) ∧ Fr (Wr (New w0) w) w w' := own_crash mask torn h few hm ht

/-- The value of a block. -/
abbrev bagg (b : Blk) : Value := .agg #[.int .i64 b.gen, .int .i64 b.epoch, .int .i64 b.first, .int .i64 b.from_, .int .i64 b.count]

theorem eqb_true (b : Blk) (w : World) : (Op.equalIn 10000 61 (bagg b) (bagg b)).run Try.prog w = .ok true w := by
  rw [eq5_blk]; simp

theorem eqb_false {a b : Blk} (h : a.gen ≠ b.gen) (w : World) : (Op.equalIn 10000 61 (bagg a) (bagg b)).run Try.prog w = .ok false w := by
  rw [eq5_blk, decide_eq_false]
  rintro ⟨h0, _⟩
  exact h (by omega)

set_option maxRecDepth 100000 in
set_option maxHeartbeats 4000000 in
theorem cuts_walk (a : Option Addr) (n c : Nat) (lim mask torn : Nat) (w : World) (hb : BlkList w a n) (hn : n ≤ maxLen) (hl : lim < 256) (hm : mask < 18446744073709551616) (ht : torn < 18446744073709551616) :
    Calls Try.prog 8 #[.slice a n c, .int .u8 lim, .int .u64 mask, .int .u64 torn] w fun e w' => e = .returned (.bool true) ∧ Fr No w w' := by
  have HB := hid hb
  unfold maxLen at hn
  clear hb
  have HM := hid hm
  have HT := hid ht
  clear hm ht
  go_enter Try.func8, Try.ntmps8
  go_wp2_with fail
  refine (own_new 4 w w (Fr.refl _ _) (by decide) (by decide)).mono ?_
  rintro e w1 ⟨p, rfl, ho1, hf1⟩
  have O1 := hid ho1
  clear ho1 hf1
  go_wp2_with fail
  refine (answers10_any _).mono ?_
  rintro e w2 ⟨rfl, hf2⟩
  have O2 := hid (O1.out.next hf2)
  have F2 := hid (O1.out.fr.step hf2)
  clear hf2
  by_cases hgo : 1 ≤ n ∧ n ≤ 20
  · obtain ⟨h1, h20⟩ := hgo
    obtain ⟨b, o, rfl, hel⟩ := HB.out.elem (by omega)
    have HEL := hid hel
    have i1 : (1 : Int) ≤ (n : Int) := by omega
    have i2 : (n : Int) ≤ 20 := by omega
    clear hel
    go_wp2_with fail
    generalize hG : w2.heap.size = gl
    have L3 : Hid ((w2.alloc (.cells #[.int .i64 0, .int .i64 0, .int .i64 0, .int .i64 0, .int .i64 0] 61)).heap[gl]? = some (.cells #[.int .i64 0, .int .i64 0, .int .i64 0, .int .i64 0, .int .i64 0] 61 (0, 0))) := by rw [← hG]; exact heap_alloc_new w2 _
    have O3 := hid (O2.out.next (Fr.alloc w2 (.cells #[.int .i64 0, .int .i64 0, .int .i64 0, .int .i64 0, .int .i64 0] 61)))
    have HGL : Hid (w.heap.size ≤ gl) := by rw [← hG]; exact F2.out.size
    clear hG
    go_loopw [12] (fun i wr => ∃ (j : Nat) (m : Dv) (l : Blk), j ≤ n ∧ i = .int .i64 j ∧ Hid (Own w wr p m) ∧ Hid (Tidy m) ∧ Hid (nextGen (loadM m) j) ∧ Hid (wr.heap[gl]? = some (.cells #[.int .i64 l.gen, .int .i64 l.epoch, .int .i64 l.first, .int .i64 l.from_, .int .i64 l.count] 61 (0, 0))) ∧ Hid (∀ x, loadM m = some x → x = l)) (fun i _ => n - (intOf i).toNat)
    case atStart => exact ⟨0, Dv.zero 4, zeroBlk, Nat.zero_le _, rfl, O3.out, ⟨zero_live 4, rfl, by rw [new_zero_len]; decide⟩, by show nextGen _ 0; rw [load_zero 4 (by decide)]; rfl, L3.out, fun x hx => by rw [load_zero 4 (by decide)] at hx; cases hx⟩
    case round =>
      obtain ⟨j, m, l, hj, rfl, ho, htd, hg, hlr, hla⟩ := hrel
      by_cases hlt : j < n
      · obtain ⟨z0, z1, z2, z3, z4, ⟨k0, k1, k2, k3, k4⟩, hz⟩ := HEL.out j hlt
        have k0 := ho.out.fr.cell k0 id
        have k1 := ho.out.fr.cell k1 id
        have k2 := ho.out.fr.cell k2 id
        have k3 := ho.out.fr.cell k3 id
        have k4 := ho.out.fr.cell k4 id
        have r1 := hid (rfits_num z1 7 (by decide) (by decide) (hz _ (.inl rfl)))
        have r2 := hid (rfits_num z2 7 (by decide) (by decide) (hz _ (.inr (.inl rfl))))
        have r3 := hid (rfits_num z3 7 (by decide) (by decide) (hz _ (.inr (.inr (.inl rfl)))))
        have r4 := hid (rfits_num z4 7 (by decide) (by decide) (hz _ (.inr (.inr (.inr rfl)))))
        clear hz
        obtain ⟨q1, hq1⟩ : ∃ q, q = fitsB z1 7 := ⟨_, rfl⟩
        obtain ⟨q2, hq2⟩ : ∃ q, q = fitsB z2 7 := ⟨_, rfl⟩
        obtain ⟨q3, hq3⟩ : ∃ q, q = fitsB z3 7 := ⟨_, rfl⟩
        obtain ⟨q4, hq4⟩ : ∃ q, q = fitsB z4 7 := ⟨_, rfl⟩
        rw [← hq1] at r1
        rw [← hq2] at r2
        rw [← hq3] at r3
        rw [← hq4] at r4
        have Q1 := hid hq1
        have Q2 := hid hq2
        have Q3 := hid hq3
        have Q4 := hid hq4
        clear hq1 hq2 hq3 hq4
        by_cases hall : q1 = true ∧ q2 = true ∧ q3 = true ∧ q4 = true
        · obtain ⟨rfl, rfl, rfl, rfl⟩ := hall
          obtain ⟨x1, rfl, y1⟩ := fits_nat Q1.out.symm
          obtain ⟨x2, rfl, y2⟩ := fits_nat Q2.out.symm
          obtain ⟨x3, rfl, y3⟩ := fits_nat Q3.out.symm
          obtain ⟨x4, rfl, y4⟩ := fits_nat Q4.out.symm
          have HF : Hid (Blk.Fit ⟨j, x1, x2, x3, x4⟩) := ⟨by show j < 72057594037927936; omega, y1, y2, y3, y4⟩
          clear y1 y2 y3 y4 Q1 Q2 Q3 Q4
          go_wp2_with fail
          refine (r1.out _).mono ?_
          rintro e w' ⟨rfl, rfl⟩
          go_wp2_with fail
          refine (r2.out _).mono ?_
          rintro e w' ⟨rfl, rfl⟩
          go_wp2_with fail
          refine (r3.out _).mono ?_
          rintro e w' ⟨rfl, rfl⟩
          go_wp2_with fail
          refine (r4.out _).mono ?_
          rintro e w' ⟨rfl, rfl⟩
          clear r1 r2 r3 r4 k0 k1 k2 k3 k4
          have O4 := hid (ho.out.next (Fr.alloc wr (.cells #[.int .i64 j, .int .i64 x1, .int .i64 x2, .int .i64 x3, .int .i64 x4] 61)))
          have A4 := hid (heap_alloc_new wr (.cells #[.int .i64 j, .int .i64 x1, .int .i64 x2, .int .i64 x3, .int .i64 x4] 61))
          have L4 := hid ((Fr.alloc (S := No) wr (.cells #[.int .i64 j, .int .i64 x1, .int .i64 x2, .int .i64 x3, .int .i64 x4] 61)).heap0 hlr.out)
          have G4 : Hid (gl < wr.heap.size) := lt_of_some hlr.out
          clear ho hlr
          by_cases hlast : j < n - 1
          · have hl2 : (j : Int) < (n : Int) - 1 := by omega
            go_wp2_with fail
            refine (own_save ⟨j, x1, x2, x3, x4⟩ O4.out htd.out.live htd.out.clean htd.out.two HF.out hg.out).mono ?_
            rintro e w5 ⟨rfl, ho5, hf5⟩
            have O5 := hid ho5
            have A5 := hid (heap_wr hf5 A4.out (by decide) (by decide) (by decide))
            have L5 := hid (heap_wr hf5 L4.out (by decide) (by decide) (by decide))
            obtain ⟨k0, k1, k2, k3, k4⟩ := five_cells A5.out
            obtain ⟨l0, l1, l2, l3, l4⟩ := five_cells L5.out
            obtain ⟨f0, f1, f2, f3, f4⟩ := five_free L5.out
            have HZ := hid (five L5.out (.int .i64 j) (.int .i64 x1) (.int .i64 x2) (.int .i64 x3) (.int .i64 x4))
            have O6 := hid (O5.out.other HZ.out.2 L5.out (by decide) (by decide) (by decide) (by decide) HGL.out)
            have HLP := hid (load_put htd.out.clean htd.out.two HF.out hg.out)
            clear ho5 hf5
            go_wp2_with fail
            go_roundw
            case rel => exact ⟨j + 1, m.put ⟨j, x1, x2, x3, x4⟩, ⟨j, x1, x2, x3, x4⟩, by omega, by go_num, O6.out, htd.out.put _, by show nextGen _ (j + 1); rw [HLP.out]; rfl, HZ.out.1, fun x hx => by rw [HLP.out] at hx; cases hx; rfl⟩
            case measure => simp [intOf]; omega
          · have hl2 : ¬ (j : Int) < (n : Int) - 1 := by omega
            have hmod : Hid (((lim : Int) % 5) = ((lim % 5 : Nat) : Int)) := by show _ = _; omega
            have HL5 : Hid (lim % 5 < 5) := Nat.mod_lt _ (by decide)
            have hlimit := hid (fun x (hx : x ≤ 9223372036854775807) => own_limit x O4.out hx)
            go_wp2_with fail
            rw [hmod.out]
            refine (hlimit.out (lim % 5) (by omega)).mono ?_
            rintro e w5 ⟨rfl, ho5, hf5⟩
            have O5 := hid ho5
            have A5 := hid (heap_wr hf5 A4.out (by decide) (by decide) (by decide))
            have L5 := hid (heap_wr hf5 L4.out (by decide) (by decide) (by decide))
            clear ho5 hf5 hlimit hmod
            generalize lim % 5 = L at *
            obtain ⟨k0, k1, k2, k3, k4⟩ := five_cells A5.out
            have hcut := cut_law htd.out HF.out hg.out L HL5.out mask torn
            obtain ⟨r, hr⟩ : ∃ r, r = ({ m with limit := L } : Dv).saved ⟨j, x1, x2, x3, x4⟩ := ⟨_, rfl⟩
            have hsave := save_any (m := { m with limit := L }) ⟨j, x1, x2, x3, x4⟩ O5.out htd.out.live.up htd.out.two (by show m.unsure.length < _; rw [htd.out.clean]; decide) HF.out hg.out
            rw [← hr] at hcut hsave
            have HS := hid hsave
            have HC := hid hcut
            clear hcut hsave hr
            go_wp2_with fail
            refine HS.out.mono ?_
            rintro e w6 ⟨rfl, ho6, hf6⟩
            have O6 := hid ho6
            have A6 := hid (heap_wr hf6 A5.out (by decide) (by decide) (by decide))
            have L6 := hid (heap_wr hf6 L5.out (by decide) (by decide) (by decide))
            clear ho6 hf6 k0 k1 k2 k3 k4
            obtain ⟨cm, hcm⟩ : ∃ cm, cm = r.1.crash mask torn := ⟨_, rfl⟩
            have hcr := own_crash mask torn O6.out (Nat.le_trans HC.out.few (by decide)) HM.out HT.out
            have hcut := HC.out
            rw [← hcm] at hcr hcut
            obtain ⟨htc, -, hwhat⟩ := hcut
            have HCR := hid hcr
            have TC := hid htc
            clear hcr htc hcm HC
            obtain ⟨code, hcode⟩ : ∃ code, code = r.2 := ⟨_, rfl⟩
            rw [← hcode] at hwhat ⊢
            clear hcode
            have hcases : ∃ (xb : Blk) (g : Int), Hid (((loadM cm).getD zeroBlk) = xb) ∧ Hid (loadCode (loadM cm) = g) ∧ Hid (nextGen (loadM cm) (if g = 0 then xb.gen + 1 else 0)) ∧ Hid (xb.gen < 100) ∧
                ((code = 0 ∧ g = 0 ∧ xb = ⟨j, x1, x2, x3, x4⟩) ∨ (code = 8 ∧ g = 0 ∧ xb = ⟨j, x1, x2, x3, x4⟩ ∧ j = 0) ∨ (code = 8 ∧ g = 0 ∧ xb = ⟨j, x1, x2, x3, x4⟩ ∧ 0 < j) ∨ (code = 8 ∧ g = 0 ∧ xb = l ∧ l.gen < j) ∨ (code = 8 ∧ g = 11 ∧ xb = zeroBlk ∧ j = 0)) := by
              have hgen := hg.out
              have hb : loadM cm = some ⟨j, x1, x2, x3, x4⟩ → _ := fun e => (⟨by show _ = _; rw [e]; rfl, by show _ = _; rw [e]; rfl, by show nextGen _ _; rw [e]; rfl, by show j < 100; omega⟩ : Hid (((loadM cm).getD zeroBlk) = ⟨j, x1, x2, x3, x4⟩) ∧ Hid (loadCode (loadM cm) = 0) ∧ Hid (nextGen (loadM cm) (if (0 : Int) = 0 then (Blk.mk j x1 x2 x3 x4).gen + 1 else 0)) ∧ Hid ((Blk.mk j x1 x2 x3 x4).gen < 100))
              rcases hwhat with ⟨h0, h1⟩ | ⟨h0, h1 | h1⟩
              · obtain ⟨e1, e2, e3, e4⟩ := hb h1
                exact ⟨_, _, e1, e2, e3, e4, .inl ⟨h0, rfl, rfl⟩⟩
              · cases hlm : loadM m with
                | none =>
                  rw [hlm] at h1 hgen
                  have hj0 : j = 0 := hgen
                  exact ⟨zeroBlk, 11, by show _ = _; rw [h1]; rfl, by show _ = _; rw [h1]; rfl, by show nextGen _ _; rw [h1]; rfl, by show 0 < 100; decide, .inr (.inr (.inr (.inr ⟨h0, rfl, rfl, hj0⟩)))⟩
                | some y =>
                  have hy := hla.out y hlm
                  subst hy
                  rw [hlm] at h1 hgen
                  have hjy : j = y.gen + 1 := hgen
                  exact ⟨y, 0, by show _ = _; rw [h1]; rfl, by show _ = _; rw [h1]; rfl, by show nextGen _ _; rw [h1]; rfl, by show y.gen < 100; omega, .inr (.inr (.inr (.inl ⟨h0, rfl, rfl, by omega⟩)))⟩
              · obtain ⟨e1, e2, e3, e4⟩ := hb h1
                rcases Nat.eq_zero_or_pos j with hj0 | hj0
                · exact ⟨_, _, e1, e2, e3, e4, .inr (.inl ⟨h0, rfl, rfl, hj0⟩)⟩
                · exact ⟨_, _, e1, e2, e3, e4, .inr (.inr (.inl ⟨h0, rfl, rfl, hj0⟩))⟩
            clear hwhat
            obtain ⟨xb, g, E1, E2, E3, E4, hcs⟩ := hcases
            go_wp2_with fail
            refine HCR.out.mono ?_
            rintro e w7 ⟨rfl, ho7, hf7⟩
            have O7 := hid ho7
            have A7 := hid (heap_wr hf7 A6.out (by decide) (by decide) (by decide))
            have L7 := hid (heap_wr hf7 L6.out (by decide) (by decide) (by decide))
            clear ho7 hf7
            go_wp2_with fail
            refine (load_any O7.out TC.out.live.up TC.out.two (by rw [TC.out.clean]; decide)).mono ?_
            rintro e w8 ⟨rfl, hf8⟩
            rw [E1.out, E2.out]
            have O8 := hid ((O7.out.next hf8).next (Fr.alloc w8 (.cells #[.int .i64 xb.gen, .int .i64 xb.epoch, .int .i64 xb.first, .int .i64 xb.from_, .int .i64 xb.count] 61)))
            have A8 := hid ((Fr.alloc (S := No) w8 (.cells #[.int .i64 xb.gen, .int .i64 xb.epoch, .int .i64 xb.first, .int .i64 xb.from_, .int .i64 xb.count] 61)).heap0 (hf8.heap0 A7.out))
            have L8 := hid ((Fr.alloc (S := No) w8 (.cells #[.int .i64 xb.gen, .int .i64 xb.epoch, .int .i64 xb.first, .int .i64 xb.from_, .int .i64 xb.count] 61)).heap0 (hf8.heap0 L7.out))
            have X8 := hid (heap_alloc_new w8 (.cells #[.int .i64 xb.gen, .int .i64 xb.epoch, .int .i64 xb.first, .int .i64 xb.from_, .int .i64 xb.count] 61))
            clear hf8
            obtain ⟨k0, k1, k2, k3, k4⟩ := five_cells A8.out
            obtain ⟨l0, l1, l2, l3, l4⟩ := five_cells L8.out
            unfold Blk.val intv
            have heqg : Try.prog.eqGuardType Try.prog.depth 61 = false := by kernel_rfl
            have hnb : ∃ nb : Blk, Hid (nb.gen = if g = 0 then xb.gen + 1 else 0) ∧ Hid (nb.epoch = 3 ∧ nb.first = 0 ∧ nb.from_ = 0 ∧ nb.count = 0) ∧ Hid (nb.Fit) ∧ Hid (nextGen (loadM cm) nb.gen) := by
              refine ⟨⟨if g = 0 then xb.gen + 1 else 0, 3, 0, 0, 0⟩, rfl, ⟨rfl, rfl, rfl, rfl⟩, ⟨?_, by show (3 : Nat) < 2 ^ (8 * 7); decide, by show (0 : Nat) < 2 ^ (8 * 7); decide, by show (0 : Nat) < 2 ^ (8 * 7); decide, by show (0 : Nat) < 2 ^ (8 * 7); decide⟩, E3.out⟩
              have := E4.out
              show (if g = 0 then xb.gen + 1 else 0) < 72057594037927936
              split <;> omega
            obtain ⟨⟨ng, n1, n2, n3, n4⟩, N1, N2, N3, N4⟩ := hnb
            obtain ⟨rfl, rfl, rfl, rfl⟩ : n1 = 3 ∧ n2 = 0 ∧ n3 = 0 ∧ n4 = 0 := N2.out
            have N0 : Hid (ng = if g = 0 then xb.gen + 1 else 0) := N1.out
            clear N1 N2
            have hgb : Hid ((xb.gen : Int) < 100) := by have := E4.out; show _ < _; omega
            have hn1 : ∀ w : World, (Op.equalIn 10000 61 (.agg #[.int .i64 ng, .int .i64 3, .int .i64 0, .int .i64 0, .int .i64 0]) (.agg #[.int .i64 ng, .int .i64 3, .int .i64 0, .int .i64 0, .int .i64 0])).run Try.prog w = .ok true w := fun w => eqb_true ⟨ng, 3, 0, 0, 0⟩ w
            have HN1 := hid hn1
            clear hn1
            rcases hcs with ⟨rfl, rfl, hx⟩ | ⟨rfl, rfl, hx, hj0⟩ | ⟨rfl, rfl, hx, hj0⟩ | ⟨rfl, rfl, hx, hj0⟩ | ⟨rfl, rfl, hx, hj0⟩
            · have hq : ∀ w : World, (Op.equalIn 10000 61 (.agg #[.int .i64 xb.gen, .int .i64 xb.epoch, .int .i64 xb.first, .int .i64 xb.from_, .int .i64 xb.count]) (.agg #[.int .i64 j, .int .i64 x1, .int .i64 x2, .int .i64 x3, .int .i64 x4])).run Try.prog w = .ok true w := fun w => by rw [hx]; exact eqb_true _ w
              have hgb' := hgb.out
              have hng : Hid ((xb.gen : Int) + 1 = (ng : Int)) := by have := N0.out; rw [if_pos rfl] at this; show _ = _; omega
              clear hx
              go_wp2_with fail
              rw [hng.out]
              have HA9 := hid (heap_alloc_new (w8.alloc (.cells #[.int .i64 xb.gen, .int .i64 xb.epoch, .int .i64 xb.first, .int .i64 xb.from_, .int .i64 xb.count] 61)) (.cells #[.int .i64 ng, .int .i64 3, .int .i64 0, .int .i64 0, .int .i64 0] 61))
              refine (own_save ⟨ng, 3, 0, 0, 0⟩ (O8.out.next (Fr.alloc _ (.cells #[.int .i64 ng, .int .i64 3, .int .i64 0, .int .i64 0, .int .i64 0] 61))) TC.out.live TC.out.clean TC.out.two N3.out N4.out).mono ?_
              rintro e w9 ⟨rfl, ho9, hf9⟩
              have O9 := hid ho9
              have A9 := hid (heap_wr hf9 HA9.out (by decide) (by decide) (by decide))
              have HLP := hid (load_put TC.out.clean TC.out.two N3.out N4.out)
              clear ho9 hf9 hng
              go_wp2_with fail
              refine (load_any O9.out (TC.out.put _).live.up (TC.out.put _).two (by show cm.unsure.length ≤ _; rw [TC.out.clean]; decide)).mono ?_
              rintro e w10 ⟨rfl, hf10⟩
              rw [HLP.out]
              have O10 := hid (O9.out.fr.step hf10)
              have A10 := (Fr.alloc (S := No) w10 (.cells #[.int .i64 ng, .int .i64 3, .int .i64 0, .int .i64 0, .int .i64 0] 61)).heap0 (hf10.heap0 A9.out)
              obtain ⟨v0, v1, v2, v3, v4⟩ := five_cells A10
              have hn1 := HN1.out
              simp only [World.size_alloc] at v0 v1 v2 v3 v4
              clear hf10 A10
              unfold Option.getD Blk.val intv loadCode
              go_wp2_with fail
              go_ret
              exact ⟨rfl, O10.out.step (Fr.alloc _ _)⟩
            · have hq : ∀ w : World, (Op.equalIn 10000 61 (.agg #[.int .i64 xb.gen, .int .i64 xb.epoch, .int .i64 xb.first, .int .i64 xb.from_, .int .i64 xb.count]) (.agg #[.int .i64 j, .int .i64 x1, .int .i64 x2, .int .i64 x3, .int .i64 x4])).run Try.prog w = .ok true w := fun w => by rw [hx]; exact eqb_true _ w
              have hgb' := hgb.out
              have hng : Hid ((xb.gen : Int) + 1 = (ng : Int)) := by have := N0.out; rw [if_pos rfl] at this; show _ = _; omega
              clear hx
              have hjn : ¬ (0 : Int) < (j : Int) := by omega
              have hj2 : ((j : Int) == 0) = true := by rw [beq_iff_eq]; omega
              clear hj0
              go_wp2_with fail
              rw [hng.out]
              have HA9 := hid (heap_alloc_new (w8.alloc (.cells #[.int .i64 xb.gen, .int .i64 xb.epoch, .int .i64 xb.first, .int .i64 xb.from_, .int .i64 xb.count] 61)) (.cells #[.int .i64 ng, .int .i64 3, .int .i64 0, .int .i64 0, .int .i64 0] 61))
              refine (own_save ⟨ng, 3, 0, 0, 0⟩ (O8.out.next (Fr.alloc _ (.cells #[.int .i64 ng, .int .i64 3, .int .i64 0, .int .i64 0, .int .i64 0] 61))) TC.out.live TC.out.clean TC.out.two N3.out N4.out).mono ?_
              rintro e w9 ⟨rfl, ho9, hf9⟩
              have O9 := hid ho9
              have A9 := hid (heap_wr hf9 HA9.out (by decide) (by decide) (by decide))
              have HLP := hid (load_put TC.out.clean TC.out.two N3.out N4.out)
              clear ho9 hf9 hng
              go_wp2_with fail
              refine (load_any O9.out (TC.out.put _).live.up (TC.out.put _).two (by show cm.unsure.length ≤ _; rw [TC.out.clean]; decide)).mono ?_
              rintro e w10 ⟨rfl, hf10⟩
              rw [HLP.out]
              have O10 := hid (O9.out.fr.step hf10)
              have A10 := (Fr.alloc (S := No) w10 (.cells #[.int .i64 ng, .int .i64 3, .int .i64 0, .int .i64 0, .int .i64 0] 61)).heap0 (hf10.heap0 A9.out)
              obtain ⟨v0, v1, v2, v3, v4⟩ := five_cells A10
              have hn1 := HN1.out
              simp only [World.size_alloc] at v0 v1 v2 v3 v4
              clear hf10 A10
              unfold Option.getD Blk.val intv loadCode
              go_wp2_with fail
              go_ret
              exact ⟨rfl, O10.out.step (Fr.alloc _ _)⟩
            · have hq : ∀ w : World, (Op.equalIn 10000 61 (.agg #[.int .i64 xb.gen, .int .i64 xb.epoch, .int .i64 xb.first, .int .i64 xb.from_, .int .i64 xb.count]) (.agg #[.int .i64 j, .int .i64 x1, .int .i64 x2, .int .i64 x3, .int .i64 x4])).run Try.prog w = .ok true w := fun w => by rw [hx]; exact eqb_true _ w
              have hgb' := hgb.out
              have hng : Hid ((xb.gen : Int) + 1 = (ng : Int)) := by have := N0.out; rw [if_pos rfl] at this; show _ = _; omega
              clear hx
              have hjn : (0 : Int) < (j : Int) := by omega
              have hj2 : ((j : Int) == 0) = false := by rw [beq_eq_false_iff_ne]; omega
              go_wp2_with fail
              rw [hng.out]
              have HA9 := hid (heap_alloc_new (w8.alloc (.cells #[.int .i64 xb.gen, .int .i64 xb.epoch, .int .i64 xb.first, .int .i64 xb.from_, .int .i64 xb.count] 61)) (.cells #[.int .i64 ng, .int .i64 3, .int .i64 0, .int .i64 0, .int .i64 0] 61))
              refine (own_save ⟨ng, 3, 0, 0, 0⟩ (O8.out.next (Fr.alloc _ (.cells #[.int .i64 ng, .int .i64 3, .int .i64 0, .int .i64 0, .int .i64 0] 61))) TC.out.live TC.out.clean TC.out.two N3.out N4.out).mono ?_
              rintro e w9 ⟨rfl, ho9, hf9⟩
              have O9 := hid ho9
              have A9 := hid (heap_wr hf9 HA9.out (by decide) (by decide) (by decide))
              have HLP := hid (load_put TC.out.clean TC.out.two N3.out N4.out)
              clear ho9 hf9 hng
              go_wp2_with fail
              refine (load_any O9.out (TC.out.put _).live.up (TC.out.put _).two (by show cm.unsure.length ≤ _; rw [TC.out.clean]; decide)).mono ?_
              rintro e w10 ⟨rfl, hf10⟩
              rw [HLP.out]
              have O10 := hid (O9.out.fr.step hf10)
              have A10 := (Fr.alloc (S := No) w10 (.cells #[.int .i64 ng, .int .i64 3, .int .i64 0, .int .i64 0, .int .i64 0] 61)).heap0 (hf10.heap0 A9.out)
              obtain ⟨v0, v1, v2, v3, v4⟩ := five_cells A10
              have hn1 := HN1.out
              simp only [World.size_alloc] at v0 v1 v2 v3 v4
              clear hf10 A10
              unfold Option.getD Blk.val intv loadCode
              go_wp2_with fail
              go_ret
              exact ⟨rfl, O10.out.step (Fr.alloc _ _)⟩
            · have hq : ∀ w : World, (Op.equalIn 10000 61 (.agg #[.int .i64 xb.gen, .int .i64 xb.epoch, .int .i64 xb.first, .int .i64 xb.from_, .int .i64 xb.count]) (.agg #[.int .i64 j, .int .i64 x1, .int .i64 x2, .int .i64 x3, .int .i64 x4])).run Try.prog w = .ok false w := fun w => eqb_false (a := xb) (b := ⟨j, x1, x2, x3, x4⟩) (by rw [hx]; show l.gen ≠ j; omega) w
              have hq2 : ∀ w : World, (Op.equalIn 10000 61 (.agg #[.int .i64 xb.gen, .int .i64 xb.epoch, .int .i64 xb.first, .int .i64 xb.from_, .int .i64 xb.count]) (.agg #[.int .i64 l.gen, .int .i64 l.epoch, .int .i64 l.first, .int .i64 l.from_, .int .i64 l.count])).run Try.prog w = .ok true w := fun w => by rw [hx]; exact eqb_true _ w
              have hgb' := hgb.out
              have hng : Hid ((xb.gen : Int) + 1 = (ng : Int)) := by have := N0.out; rw [if_pos rfl] at this; show _ = _; omega
              clear hx
              have hjn : (0 : Int) < (j : Int) := by omega
              have hj2 : ((j : Int) == 0) = false := by rw [beq_eq_false_iff_ne]; omega
              go_wp2_with fail
              rw [hng.out]
              have HA9 := hid (heap_alloc_new (w8.alloc (.cells #[.int .i64 xb.gen, .int .i64 xb.epoch, .int .i64 xb.first, .int .i64 xb.from_, .int .i64 xb.count] 61)) (.cells #[.int .i64 ng, .int .i64 3, .int .i64 0, .int .i64 0, .int .i64 0] 61))
              refine (own_save ⟨ng, 3, 0, 0, 0⟩ (O8.out.next (Fr.alloc _ (.cells #[.int .i64 ng, .int .i64 3, .int .i64 0, .int .i64 0, .int .i64 0] 61))) TC.out.live TC.out.clean TC.out.two N3.out N4.out).mono ?_
              rintro e w9 ⟨rfl, ho9, hf9⟩
              have O9 := hid ho9
              have A9 := hid (heap_wr hf9 HA9.out (by decide) (by decide) (by decide))
              have HLP := hid (load_put TC.out.clean TC.out.two N3.out N4.out)
              clear ho9 hf9 hng
              go_wp2_with fail
              refine (load_any O9.out (TC.out.put _).live.up (TC.out.put _).two (by show cm.unsure.length ≤ _; rw [TC.out.clean]; decide)).mono ?_
              rintro e w10 ⟨rfl, hf10⟩
              rw [HLP.out]
              have O10 := hid (O9.out.fr.step hf10)
              have A10 := (Fr.alloc (S := No) w10 (.cells #[.int .i64 ng, .int .i64 3, .int .i64 0, .int .i64 0, .int .i64 0] 61)).heap0 (hf10.heap0 A9.out)
              obtain ⟨v0, v1, v2, v3, v4⟩ := five_cells A10
              have hn1 := HN1.out
              simp only [World.size_alloc] at v0 v1 v2 v3 v4
              clear hf10 A10
              unfold Option.getD Blk.val intv loadCode
              go_wp2_with fail
              go_ret
              exact ⟨rfl, O10.out.step (Fr.alloc _ _)⟩
            · obtain rfl : ng = 0 := by have := N0.out; rw [if_neg (by decide)] at this; exact this
              clear hx
              have hjn : ¬ (0 : Int) < (j : Int) := by omega
              have hj2 : ((j : Int) == 0) = true := by rw [beq_iff_eq]; omega
              clear hj0
              go_wp2_with fail
              have HA9 := hid (heap_alloc_new (w8.alloc (.cells #[.int .i64 xb.gen, .int .i64 xb.epoch, .int .i64 xb.first, .int .i64 xb.from_, .int .i64 xb.count] 61)) (.cells #[.int .i64 0, .int .i64 3, .int .i64 0, .int .i64 0, .int .i64 0] 61))
              refine (own_save ⟨0, 3, 0, 0, 0⟩ (O8.out.next (Fr.alloc _ (.cells #[.int .i64 0, .int .i64 3, .int .i64 0, .int .i64 0, .int .i64 0] 61))) TC.out.live TC.out.clean TC.out.two N3.out N4.out).mono ?_
              rintro e w9 ⟨rfl, ho9, hf9⟩
              have O9 := hid ho9
              have A9 := hid (heap_wr hf9 HA9.out (by decide) (by decide) (by decide))
              have HLP := hid (load_put TC.out.clean TC.out.two N3.out N4.out)
              clear ho9 hf9
              go_wp2_with fail
              refine (load_any O9.out (TC.out.put _).live.up (TC.out.put _).two (by show cm.unsure.length ≤ _; rw [TC.out.clean]; decide)).mono ?_
              rintro e w10 ⟨rfl, hf10⟩
              rw [HLP.out]
              have O10 := hid (O9.out.fr.step hf10)
              have A10 := (Fr.alloc (S := No) w10 (.cells #[.int .i64 0, .int .i64 3, .int .i64 0, .int .i64 0, .int .i64 0] 61)).heap0 (hf10.heap0 A9.out)
              obtain ⟨v0, v1, v2, v3, v4⟩ := five_cells A10
              have hn1 := HN1.out
              simp only [World.size_alloc] at v0 v1 v2 v3 v4
              clear hf10 A10
              unfold Option.getD Blk.val intv loadCode
              go_wp2_with fail
              go_ret
              exact ⟨rfl, O10.out.step (Fr.alloc _ _)⟩
        · cases q1 with
          | false =>
            clear hall
            go_wp2_with fail
            refine (r1.out _).mono ?_
            rintro e w' ⟨rfl, rfl⟩
            go_wp2_with fail
            go_ret
            exact ⟨rfl, ho.out.fr.step (Fr.alloc _ _)⟩
          | true =>
            cases q2 with
            | false =>
              clear hall
              go_wp2_with fail
              refine (r1.out _).mono ?_
              rintro e w' ⟨rfl, rfl⟩
              go_wp2_with fail
              refine (r2.out _).mono ?_
              rintro e w' ⟨rfl, rfl⟩
              go_wp2_with fail
              go_ret
              exact ⟨rfl, ho.out.fr.step (Fr.alloc _ _)⟩
            | true =>
              cases q3 with
              | false =>
                clear hall
                go_wp2_with fail
                refine (r1.out _).mono ?_
                rintro e w' ⟨rfl, rfl⟩
                go_wp2_with fail
                refine (r2.out _).mono ?_
                rintro e w' ⟨rfl, rfl⟩
                go_wp2_with fail
                refine (r3.out _).mono ?_
                rintro e w' ⟨rfl, rfl⟩
                go_wp2_with fail
                go_ret
                exact ⟨rfl, ho.out.fr.step (Fr.alloc _ _)⟩
              | true =>
                cases q4 with
                | true => exact absurd ⟨rfl, rfl, rfl, rfl⟩ hall
                | false =>
                  clear hall
                  go_wp2_with fail
                  refine (r1.out _).mono ?_
                  rintro e w' ⟨rfl, rfl⟩
                  go_wp2_with fail
                  refine (r2.out _).mono ?_
                  rintro e w' ⟨rfl, rfl⟩
                  go_wp2_with fail
                  refine (r3.out _).mono ?_
                  rintro e w' ⟨rfl, rfl⟩
                  go_wp2_with fail
                  refine (r4.out _).mono ?_
                  rintro e w' ⟨rfl, rfl⟩
                  go_wp2_with fail
                  go_ret
                  exact ⟨rfl, ho.out.fr.step (Fr.alloc _ _)⟩
      · obtain rfl : j = n := by omega
        go_wp2_with fail
        go_ret
        exact ⟨rfl, ho.out.fr⟩
  · have hdis : (n : Int) < 1 ∨ 20 < (n : Int) := by omega
    clear hgo
    rcases hdis with hd | hd
    · go_wp2_with fail
      refine (answers10_any _).mono ?_
      rintro e w3 ⟨rfl, hf3⟩
      have F3 := hid (F2.out.step hf3)
      clear hf3
      go_wp2_with fail
      go_ret
      exact ⟨rfl, F3.out⟩
    · have hd1 : (1 : Int) ≤ (n : Int) := by omega
      go_wp2_with fail
      refine (answers10_any _).mono ?_
      rintro e w3 ⟨rfl, hf3⟩
      have F3 := hid (F2.out.step hf3)
      clear hf3
      go_wp2_with fail
      go_ret
      exact ⟨rfl, F3.out⟩

end Go.Proofs.Ytpimjachhfnlfaa
