/-
  SeglogOpens, walked. No condition but that the arguments can be read.
-/
import Derived.Test.YtpimjachhfnlfaaSOpensLaw
import Derived.Deep.DeepCutAuto
import Derived.Deep.CutBlock
namespace Go.Proofs.Ytpimjachhfnlfaa
open Go.RowKit

/-- A slice of uint64 that can be read. -/
def U64In (w : World) (a : Option Addr) (n : Nat) : Prop := 0 < n → ∃ b o, a = some ⟨b, o, none⟩ ∧ ∀ i, i < n → ∃ z : Nat, z < 18446744073709551616 ∧ w.cell? ⟨b, o + i, none⟩ = some (.int .u64 z)

/-- A list of bytes at a place. -/
theorem BsList.at {W : World} {a : Option Addr} {n : Nat} {ls : List (List UInt8)} (h : BsList W W a n ls) (hn : 0 < n) : ∃ b o, a = some ⟨b, o, none⟩ ∧ ∀ j (hj : j < ls.length), ∃ u, W.cell? ⟨b, o + j, none⟩ = some u ∧ Bs W W u ls[j] := by
  cases a with
  | none => have := h.nil rfl; omega
  | some ad =>
    obtain ⟨b, o, s⟩ := ad
    have hlen := h.len
    obtain ⟨u, hu, -⟩ := h.elem _ rfl 0 (by omega)
    have hs : s = none := by simpa [Addr.add] using World.cell?_spot hu
    subst hs
    refine ⟨b, o, rfl, fun j hj => ?_⟩
    obtain ⟨u, hu, hb⟩ := h.elem _ rfl j hj
    rw [Addr.add_lit] at hu
    exact ⟨u, hu, hb⟩

theorem down_same {L : Lg} (h : L.down = false) {c : Int} (hc : c = 0) : { L with down := c == 8 } = L := by
  cases L
  rename_i d
  obtain rfl : d = false := h
  subst hc
  rfl

/-- A call of Append, while the log is filled. -/
theorem fill_append {w0 w : World} {q p i k g c n : Nat} {m : Dv} {L : Lg} {ls : List (List UInt8)} {b : List UInt8} (h : OwnL w0 w q p m L) (ha : AInv 40 m L ls i k) (hb : ls[i]? = some b) (hl : b.length = n) (hn : n ≤ 1400) (hi : i < 12) (hr : Row w g 5 (bvs b)) (hc : n ≤ c) :
    Calls Try.prog 67 #[.pointer (some ⟨q, 0, none⟩), .slice (some ⟨g, 0, none⟩) n c] w fun e w' => ∃ x : Int, e = .returned (.tuple #[.int .i64 x, .int .i64 0]) ∧ ∃ m' L', OwnL w0 w' q p m' L' ∧ AInv 40 m' L' ls (i + 1) k := by
  obtain ⟨rs, hli, -, hrl⟩ := ha.log
  have hlen := ha.len
  have hfin := ha.fin
  have hfew := ha.few
  have hblk := ha.blk
  have hll := hli.len
  have hfirst : L.blk.first = 0 := by rw [hblk]; rfl
  have hep : L.blk.epoch = 1 := by rw [hblk]; rfl
  obtain ⟨c0, ha2, hroom⟩ := ha.append rfl hb (by omega) hi
  refine (append_any g 0 n c b h hli.up hli.mup (by omega) (by omega) (by rw [← hl]; exact hroom) hc (fun W f => (hr.lw f).bytes hl) (by omega) (by omega) (by omega) (by omega) (by omega)).mono fun e w' hh => ?_
  obtain ⟨he, ho, -⟩ := hh
  rw [c0] at he
  exact ⟨_, he, _, _, ho, ha2⟩

/-- A call of Sync, while the log is filled. -/
theorem fill_sync {w0 w : World} {q p i k : Nat} {m : Dv} {L : Lg} {ls : List (List UInt8)} (h : OwnL w0 w q p m L) (ha : AInv 40 m L ls i k) (hi : i ≤ 12) :
    Calls Try.prog 69 #[.pointer (some ⟨q, 0, none⟩)] w fun e w' => e = .returned (.int .i64 0) ∧ ∃ m' L', OwnL w0 w' q p m' L' ∧ AInv 40 m' L' ls i i := by
  obtain ⟨rs, hli, -, hrl⟩ := ha.log
  have hfew := ha.few
  have hwf : m.Wf := by obtain ⟨S, hd, -⟩ := h.dev; exact hd.wf
  obtain ⟨c0, ha2⟩ := ha.sync hwf
  refine (lsync_any h hli.up hli.mup (by omega)).mono fun e w' hh => ?_
  obtain ⟨he, ho, -⟩ := hh
  rw [down_same hli.up c0] at ho
  rw [c0] at he
  exact ⟨he, _, _, ho, ha2⟩

set_option maxRecDepth 100000 in
set_option maxHeartbeats 8000000 in
theorem opens_walk (a1 : Option Addr) (n c1 : Nat) (ls : List (List UInt8)) (su : Nat) (a2 : Option Addr) (nl c2 : Nat) (lims : List UInt8) (a3 : Option Addr) (nm c3 : Nat) (w : World)
    (h1 : BsList w w a1 n ls) (hsu : su < 256) (h2 : BytesIn w a2 nl lims) (h3 : U64In w a3 nm) (hn1 : n ≤ maxLen) (hnl : nl ≤ maxLen) (hnm : nm ≤ maxLen) :
    Calls Try.prog 15 #[.slice a1 n c1, .int .u8 su, .slice a2 nl c2, .slice a3 nm c3] w fun e w' => e = .returned (.bool true) ∧ Fr No w w' := by
  have HA := hid h1
  have HB := hid h2
  have HC := hid h3
  unfold maxLen at hn1 hnl hnm
  clear h1 h2 h3
  go_enter Try.func15, Try.ntmps15
  go_wp2_with fail
  refine (own_new 40 w w (Fr.refl _ _) (by decide) (by decide)).mono ?_
  rintro e w1 ⟨p, rfl, ho1, hf1⟩
  have O1 := hid ho1
  clear ho1 hf1
  go_wp2_with fail
  refine (lopen_new 40 O1.out (by decide) (by decide)).mono ?_
  rintro e w2 ⟨q, rfl, ho2, hf2⟩
  have O2 := hid ho2
  clear ho2 hf2 O1
  go_wp2_with fail
  refine (answers11_any w2).mono ?_
  rintro e w3 ⟨rfl, hf3⟩
  have O3 := hid (O2.out.next hf3)
  have I3 : Hid (AInv 40 (Dv.first 40) Lg.new ls 0 0) := AInv.start (by decide) ls
  clear hf3 O2
  by_cases h12 : 12 < n
  · have h12i : (12 : Int) < (n : Int) := by omega
    go_wp2_with fail
    refine (answers11_any w3).mono ?_
    rintro e w4 ⟨rfl, hf4⟩
    have F4 := hid (O3.out.fr.step hf4)
    clear hf4
    go_wp2_with fail
    go_ret
    exact ⟨rfl, F4.out⟩
  · have h12i : ¬ (12 : Int) < (n : Int) := by omega
    obtain ⟨K, hK⟩ : ∃ K : Nat, K = su % (n + 1) := ⟨_, rfl⟩
    have hK1 : (su : Int) % ((n : Int) + 1) = (K : Int) := by rw [hK]; simp
    have hK0 : n = 0 → K = 0 := by intro h; rw [hK, h]; omega
    have hKn : K ≤ n := by rw [hK]; have := Nat.mod_lt su (show 0 < n + 1 by omega); omega
    have HK0 := hid hK0
    clear hK hK0
    go_upto_if 59 with fail
    go_cut [13] (fun s wx => s = .int .i64 K ∧ Hid (OwnL w wx q p (Dv.first 40) Lg.new))
    case first =>
      by_cases hn0 : n = 0
      · have hk0 : K = 0 := HK0.out hn0
        subst hn0 hk0
        go_wp2_with fail
        go_meet
        exact ⟨rfl, O3.out⟩
      · have hn1 : (0 : Int) < (n : Int) := by omega
        go_wp2_with fail
        go_meet
        exact ⟨by rw [hK1], O3.out⟩
    case rest =>
      obtain ⟨rfl, O4⟩ := hcut
      clear O3
      go_wp2_with fail
      go_loopw [14] (fun s wr => ∃ (i ks : Nat) (m : Dv) (L : Lg), i ≤ n ∧ s = .int .i64 i ∧ Hid (ks = if i ≤ K then 0 else K) ∧ Hid (OwnL w wr q p m L) ∧ Hid (AInv 40 m L ls i ks)) (fun s _ => n - (intOf s).toNat)
      case atStart => exact ⟨0, 0, _, _, Nat.zero_le _, rfl, rfl, O4.out, I3.out⟩
      case round =>
        obtain ⟨i, ks, m, L, hi, rfl, hks, ho, ha⟩ := hrel
        by_cases hlt : i < n
        · have HI := hid hlt
          have hi12 : i < 12 := by omega
          obtain ⟨rb, ro, rfl, hel⟩ := HA.out.at (by omega)
          have HLEN : Hid (ls.length = n) := HA.out.len
          obtain ⟨u, hu, hbs⟩ := hel i (by have := HLEN.out; omega)
          obtain ⟨b, hb⟩ : ∃ b, b = ls[i]'(by have := HLEN.out; omega) := ⟨_, rfl⟩
          have HBI : Hid (ls[i]? = some b) := by rw [hb]; exact List.getElem?_eq_getElem _
          rw [← hb] at hbs
          obtain ⟨ba, bc, rfl, hbi, hbn, hbc, -⟩ := hbs.ex
          have HBB := hid hbi
          have HBN := hid hbn
          have HU0 := hid hu
          replace hu := ho.out.fr.cell hu id
          obtain ⟨bn, hbn2⟩ : ∃ bn, bn = b.length := ⟨_, rfl⟩
          have HBL := hid hbn2
          rw [← hbn2] at hu HBB hbc HU0
          have HU := HU0
          clear hel hbs hb hbi hbn hbn2
          by_cases h1400 : 1400 < bn
          · have F5 := hid ho.out.fr
            have h1400i : (1400 : Int) < (bn : Int) := by omega
            go_wp2_with fail
            go_ret
            exact ⟨rfl, F5.out⟩
          · have h1400i : ¬ (1400 : Int) < (bn : Int) := by omega
            by_cases hiK : i = K
            · have HIK := hid hiK
              have hiKi : ((i : Int) == (K : Int)) = true := by rw [hiK]; simp
              clear hiK
              go_wp2_with fail
              refine (fill_sync ho.out ha.out (by omega)).mono ?_
              rintro e w5 ⟨rfl, m5, L5, ho5, ha5⟩
              have O5 := hid ho5
              have A5 := hid ha5
              clear ho5 ha5
              have HOE := hid (World.ownsRow_made (base := 0) (e := 5) (size := 1) w5 #[] 0 (Nat.zero_le _) (by decide) rfl)
              have HB5 := hid (HBB.out.fr0 (O5.out.fr.step (Fr.alloc w5 (.cells #[] 5))))
              have hu5 := O5.out.fr.cell HU.out id
              have ha5 := (fun (o : Obj) => (Fr.alloc (S := No) w5 o).cell hu5 id)
              obtain ⟨iu, hiu, hu0, hu1, hu2⟩ := info_parts info_u8
              clear hu
              go_wp2_with (at_builtin; go_must (refine wpList_append_copy _ rfl (.tmp 88) (.tmp 92) 23 rfl 5 iu (.int .u8 0) 1 1 Try.underlying23 hiu hu0 hu1 hu2 rfl (by decide) w5.heap.size rfl HOE.out ba bn bc (bvs b) rfl (fun e => by have := HBN.out e; exact ⟨by rw [HBL.out, this.1]; rfl, this.2⟩) (by rw [bvs_len, HBL.out, Nat.mul_one]) HB5.out.cell (bvs_one _) ?c1 ?c2 ?_))
              case c1 => unfold maxLen; omega
              case c2 => omega
              intro g6 c6 w6 hr6 hc6 hg6 hf6
              have R6 := hid hr6.out
              have C6 := hid hc6
              have O6 := hid (O5.out.next ((Fr.alloc (S := No) w5 (.cells #[] 5)).step hf6.out))
              clear hr6 hc6 hg6 hf6 ha5 hu5
              go_wp2_with fail
              refine (fill_append O6.out A5.out HBI.out HBL.out.symm (by omega) hi12 R6.out C6.out).mono ?_
              rintro e w7 ⟨x, rfl, m', L', ho7, ha7⟩
              have O7 := hid ho7
              have A7 := hid ha7
              clear ho7 ha7
              go_wp2_with fail
              go_roundw
              case rel => exact ⟨i + 1, i, m', L', HI.out, by go_num, (show _ = _ by rw [if_neg (by have := HIK.out; omega), HIK.out]), O7.out, A7.out⟩
              case measure => have := HI.out; simp [intOf]; omega
            · have HIK := hid hiK
              have hiKi : ((i : Int) == (K : Int)) = false := by rw [beq_eq_false_iff_ne]; omega
              clear hiK
              have O5 := hid ho.out
              have A5 := hid ha.out
              obtain ⟨w5, hw5⟩ : ∃ w5, w5 = wr := ⟨_, rfl⟩
              subst hw5
              have HOE := hid (World.ownsRow_made (base := 0) (e := 5) (size := 1) w5 #[] 0 (Nat.zero_le _) (by decide) rfl)
              have HB5 := hid (HBB.out.fr0 (O5.out.fr.step (Fr.alloc w5 (.cells #[] 5))))
              have hu5 := O5.out.fr.cell HU.out id
              have ha5 := (fun (o : Obj) => (Fr.alloc (S := No) w5 o).cell hu5 id)
              obtain ⟨iu, hiu, hu0, hu1, hu2⟩ := info_parts info_u8
              clear hu
              go_wp2_with (at_builtin; go_must (refine wpList_append_copy _ rfl (.tmp 88) (.tmp 92) 23 rfl 5 iu (.int .u8 0) 1 1 Try.underlying23 hiu hu0 hu1 hu2 rfl (by decide) w5.heap.size rfl HOE.out ba bn bc (bvs b) rfl (fun e => by have := HBN.out e; exact ⟨by rw [HBL.out, this.1]; rfl, this.2⟩) (by rw [bvs_len, HBL.out, Nat.mul_one]) HB5.out.cell (bvs_one _) ?c1 ?c2 ?_))
              case c1 => unfold maxLen; omega
              case c2 => omega
              intro g6 c6 w6 hr6 hc6 hg6 hf6
              have R6 := hid hr6.out
              have C6 := hid hc6
              have O6 := hid (O5.out.next ((Fr.alloc (S := No) w5 (.cells #[] 5)).step hf6.out))
              clear hr6 hc6 hg6 hf6 ha5 hu5
              go_wp2_with fail
              refine (fill_append O6.out A5.out HBI.out HBL.out.symm (by omega) hi12 R6.out C6.out).mono ?_
              rintro e w7 ⟨x, rfl, m', L', ho7, ha7⟩
              have O7 := hid ho7
              have A7 := hid ha7
              clear ho7 ha7
              go_wp2_with fail
              go_roundw
              case rel => exact ⟨i + 1, ks, m', L', HI.out, by go_num, (show _ = _ by rw [hks.out]; have := HIK.out; split <;> split <;> omega), O7.out, A7.out⟩
              case measure => have := HI.out; simp [intOf]; omega
        · 
          have A4 : Hid (AInv 40 m L ls n ks) := by have h : i = n := by omega
                                                    exact h ▸ ha.out
          have HKS : Hid (¬ K = n → ks = K) := by
            intro h
            have := hks.out
            rw [this]
            split
            · omega
            · rfl
          go_upto_region 18 with fail
          go_cut [107] (fun s wx => s = .bool false ∧ ∃ m5 L5, Hid (OwnL w wx q p m5 L5) ∧ Hid (AInv 40 m5 L5 ls n K))
          case first =>
            by_cases hKe : K = n
            · have HKE := hid hKe
              have hKi : ((K : Int) == (n : Int)) = true := by rw [hKe]; simp
              clear hKe
              go_wp2_with fail
              refine (fill_sync ho.out A4.out (by omega)).mono ?_
              rintro e w5 ⟨rfl, m5, L5, ho5, ha5⟩
              have O5 := hid ho5
              have A5 : Hid (AInv 40 m5 L5 ls n K) := by have := ha5; rw [← HKE.out] at this ⊢; exact this
              clear ho5 ha5
              go_wp2_with fail
              go_meet
              exact ⟨rfl, _, _, O5.out, A5.out⟩
            · have hKi : ((K : Int) == (n : Int)) = false := by rw [beq_eq_false_iff_ne]; omega
              have A5 : Hid (AInv 40 m L ls n K) := by have := A4.out; rw [HKS.out hKe] at this; exact this
              clear hKe
              go_wp2_with fail
              go_meet
              exact ⟨rfl, _, _, ho.out, A5.out⟩
          case rest =>
            obtain ⟨rfl, m5, L5, O5, A5⟩ := hcut
            obtain ⟨w5, hw5⟩ : ∃ w5, w5 = wc := ⟨_, rfl⟩
            subst hw5
            clear A4 HKS hks ha ho
            have hn12 : n ≤ 12 := by omega
            have hfew : m5.unsure.length ≤ 1099511627776 := by have := A5.out.few; omega
            have HF5 := hid hfew
            clear hfew
            go_upto_if 110 with fail
            go_cut [13] (fun s wx => s = .int .i64 K ∧ ∃ m, Hid (Own w wx p m) ∧ Hid (Dsk 40 m (OInv ls K 0)))
            case first =>
              by_cases hm0 : nm = 0
              · subst hm0
                have HCR : Hid (Calls Try.prog 22 #[.pointer (some ⟨p, 0, none⟩), .int .u64 0, .int .u64 0] w5 fun e w' => e = .returned (.int .i64 0) ∧ Own w w' p (m5.crash 0 0) ∧ Fr (Wr (New w) w5) w5 w') := own_crash 0 0 O5.out.dev HF5.out (by decide) (by decide)
                go_wp2_with fail
                refine HCR.out.mono ?_
                rintro e w6 ⟨rfl, ho6, -⟩
                have O6 := hid ho6
                clear ho6
                go_wp2_with fail
                go_meet
                exact ⟨rfl, _, O6.out, A5.out.dsk 0 0⟩
              · have hm1 : (0 : Int) < (nm : Int) := by omega
                obtain ⟨mb, mo, rfl, hmz⟩ := HC.out (by omega)
                obtain ⟨z, hz, hzc⟩ := hmz 0 (by omega)
                have hzc : w5.cell? ⟨mb, mo, none⟩ = some (.int .u64 z) := O5.out.fr.cell hzc id
                have HCR : Hid (Calls Try.prog 22 #[.pointer (some ⟨p, 0, none⟩), .int .u64 z, .int .u64 0] w5 fun e w' => e = .returned (.int .i64 0) ∧ Own w w' p (m5.crash z 0) ∧ Fr (Wr (New w) w5) w5 w') := own_crash z 0 O5.out.dev HF5.out hz (by decide)
                clear hmz
                go_wp2_with fail
                refine HCR.out.mono ?_
                rintro e w6 ⟨rfl, ho6, -⟩
                have O6 := hid ho6
                clear ho6
                go_wp2_with fail
                go_meet
                exact ⟨rfl, _, O6.out, A5.out.dsk z 0⟩
            case rest =>
              obtain ⟨rfl, m6, O6, D6⟩ := hcut
              clear O5 A5 HF5
              go_wp2_with fail
              go_loopw [17] (fun s wr => ∃ (i : Nat) (m : Dv), i ≤ 10 ∧ s = .int .i64 i ∧ Hid (Own w wr p m) ∧ Hid (Dsk 40 m (OInv ls K i))) (fun s _ => 10 - (intOf s).toNat)
              case atStart => exact ⟨0, _, by decide, rfl, O6.out, D6.out⟩
              case round =>
                obtain ⟨j, m7, hj, rfl, ho7, hd7⟩ := hrel
                by_cases hlt7 : j < nl ∧ j < 10
                · obtain ⟨hj1, hj2⟩ := hlt7
                  have HJ1 := hid hj1
                  have HJ2 := hid hj2
                  obtain ⟨lb, lo, rfl, hlc⟩ := HB.out.at (by omega)
                  have HLL : Hid (lims.length = nl) := HB.out.len
                  obtain ⟨x, hx⟩ : ∃ x : UInt8, lims[j]? = some x := ⟨_, List.getElem?_eq_getElem (by have := HLL.out; omega)⟩
                  have hxc := hlc j (bv x) (by unfold bvs; rw [List.getElem?_map, hx]; rfl)
                  have hxc : wr.cell? ⟨lb, lo + j, none⟩ = some (.int .u8 x.toNat) := ho7.out.fr.cell hxc id
                  obtain ⟨y, hy⟩ : ∃ y : Nat, y = x.toNat % 6 := ⟨_, rfl⟩
                  have hy1 : ((x.toNat : Nat) : Int) % 6 = (y : Int) := by rw [hy]; simp
                  have hyn : y < 6 := by rw [hy]; exact Nat.mod_lt _ (by decide)
                  have HLIM := hid (own_limit y ho7.out (by omega))
                  have hj1i : (j : Int) < (nl : Int) := by omega
                  have hj2i : (j : Int) < 10 := by omega
                  generalize x.toNat = xn at *
                  clear hlc hx hy hj1 hj2
                  go_wp2_with fail
                  refine HLIM.out.mono ?_
                  rintro e w8 ⟨rfl, ho8, -⟩
                  have O8 := hid ho8
                  clear ho8 HLIM hy1 hxc
                  go_wp2_with fail
                  refine (opens_try O8.out hd7.out (by decide) (by have : ls.length = n := HA.out.len; omega) (by omega)).mono ?_
                  rintro e w9 ⟨v, cc, d, hcc, rfl, ho9, hs9, hu9, hl9⟩
                  have O9 := hid ho9
                  have S9 := hid hs9
                  have U9 := hid hu9
                  have L9 := hid hl9
                  clear ho9 hs9 hu9 hl9 O8
                  have hj1n : ((j : Int) + 1).toNat = j + 1 := by omega
                  rcases hcc with rfl | rfl
                  all_goals
                    by_cases hjm : j + 1 < nm
                    · have hjmi : (j : Int) + 1 < (nm : Int) := by omega
                      obtain ⟨mb, mo, rfl, hmz⟩ := HC.out (by omega)
                      obtain ⟨z, hz, hzc⟩ := hmz (j + 1) hjm
                      replace hzc := O9.out.fr.cell hzc id
                      have HCR := hid (own_crash (z / 128) z O9.out (by have := U9.out; omega) (by omega) hz)
                      clear hmz
                      go_wp2_with fail
                      refine HCR.out.mono ?_
                      rintro e w10 ⟨rfl, ho10, -⟩
                      have O10 := hid ho10
                      clear ho10
                      go_wp2_with fail
                      go_roundw
                      case rel => exact ⟨j + 1, _, HJ2.out, by go_num, O10.out, S9.out.dsk L9.out _ _⟩
                      case measure => have := HJ2.out; simp [intOf]; omega
                    · have hjmi : ¬ (j : Int) + 1 < (nm : Int) := by omega
                      have HCR : Hid (Calls Try.prog 22 #[.pointer (some ⟨p, 0, none⟩), .int .u64 0, .int .u64 0] w9 fun e w' => e = .returned (.int .i64 0) ∧ Own w w' p (d.crash 0 0) ∧ Fr (Wr (New w) w9) w9 w') := own_crash 0 0 O9.out (by have := U9.out; omega) (by decide) (by decide)
                      go_wp2_with fail
                      refine HCR.out.mono ?_
                      rintro e w10 ⟨rfl, ho10, -⟩
                      have O10 := hid ho10
                      clear ho10
                      go_wp2_with fail
                      go_roundw
                      case rel => exact ⟨j + 1, _, HJ2.out, by go_num, O10.out, S9.out.dsk L9.out 0 0⟩
                      case measure => have := HJ2.out; simp [intOf]; omega
                · have H12 : Hid (ls.length ≤ 12) := by have : ls.length = n := HA.out.len; show _ ≤ _; omega
                  have hjx : (¬ (j : Int) < (nl : Int)) ∨ ((j : Int) < (nl : Int) ∧ ¬ (j : Int) < 10) := by omega
                  have HJ10 := hid hj
                  clear hlt7 hj
                  go_upto_region 24 with fail
                  go_cut [125] (fun s wx => s = .bool false ∧ wx = wr)
                  case first =>
                    rcases hjx with hq | ⟨hq1, hq2⟩
                    all_goals
                      go_wp2_with fail
                      go_meet
                      exact ⟨rfl, rfl⟩
                  case rest =>
                    obtain ⟨rfl, rfl⟩ := hcut
                    clear hjx
                    go_wp2_with fail
                    refine (opens_last ho7.out hd7.out (by decide) H12.out (by have := HJ10.out; omega)).mono ?_
                    rintro e w8 ⟨q8, d, L8, rs, rfl, ho8, hli8, hlv8, hu8, hk8, hoi8⟩
                    have O8 := hid ho8
                    have LI8 := hid hli8
                    have LV8 := hid hlv8
                    have U8 := hid hu8
                    have OI8 := hid hoi8
                    obtain ⟨nx, hnx⟩ : ∃ nx, nx = rs.length := ⟨_, rfl⟩
                    have HNX := hid hnx
                    have hk1 : K ≤ nx := by rw [hnx]; exact hk8
                    have hk2 : nx ≤ n := by have h1 := hoi8.len; have h2 : ls.length = n := HA.out.len; omega
                    have HF8 : Hid (∀ W, OwnL w W q8 p d L8 → Calls Try.prog 66 #[.pointer (some ⟨q8, 0, none⟩)] W fun e w' => e = .returned (.int .i64 0) ∧ w' = W) := by
                      intro W h
                      have := first_any h
                      rw [hoi8.first] at this
                      exact this
                    have HN8 : Hid (∀ W, OwnL w W q8 p d L8 → Calls Try.prog 70 #[.pointer (some ⟨q8, 0, none⟩)] W fun e w' => e = .returned (.int .i64 nx) ∧ ∃ k, w' = W.drewN k) := by
                      intro W h
                      have := next_any h
                      rw [hoi8.first, Nat.zero_add, hli8.len, ← hnx] at this
                      exact this
                    have hk1i : ¬ (nx : Int) < (K : Int) := by omega
                    have hk2i : ¬ (n : Int) < (nx : Int) := by omega
                    clear ho8 hli8 hlv8 hu8 hoi8 hk8 hnx
                    go_wp2_with fail
                    refine (HF8.out _ O8.out).mono ?_
                    rintro e w9 ⟨rfl, rfl⟩
                    go_wp2_with fail
                    refine (HN8.out _ O8.out).mono ?_
                    rintro e w10 ⟨rfl, k10, rfl⟩
                    have O10 := hid (O8.out.next (Fr.drewN _ k10))
                    generalize w9.drewN k10 = w10 at *
                    go_wp2_with fail
                    refine (HN8.out _ O10.out).mono ?_
                    rintro e w11 ⟨rfl, k11, rfl⟩
                    have O11 := hid (O10.out.next (Fr.drewN _ k11))
                    generalize w10.drewN k11 = w11 at *
                    clear O8 O10
                    go_upto_if 186 with fail
                    go_cut [11] (fun s wx => s = .pointer (some ⟨q8, 0, none⟩) ∧ Hid (OwnL w wx q8 p d L8))
                    case first =>
                      go_wp2_with fail
                      go_meet
                      exact ⟨rfl, O11.out⟩
                    case rest =>
                    obtain ⟨rfl, O12⟩ := hcut
                    clear O11 hk1i hk2i
                    go_wp2_with fail
                    go_loopw [21] (fun s wr => ∃ t : Nat, t ≤ nx ∧ s = .int .i64 t ∧ Hid (OwnL w wr q8 p d L8)) (fun s _ => nx - (intOf s).toNat)
                    case atStart => exact ⟨0, Nat.zero_le _, rfl, O12.out⟩
                    case round =>
                      obtain ⟨t, ht, rfl, ho12⟩ := hrel
                      by_cases hlt8 : t < nx
                      · obtain ⟨r, hr⟩ : ∃ r, rs[t]? = some r := ⟨_, List.getElem?_eq_getElem (by have := HNX.out; omega)⟩
                        obtain ⟨hk, h255, hrd⟩ := LI8.out.read hr
                        have hla := OI8.out.at hr
                        have hfi := OI8.out.first
                        have hfw := U8.out
                        have hlen8 : 3 ≤ d.sure.length := LI8.out.di.big
                        have HRD : Hid (∀ W, OwnL w W q8 p d L8 → Calls Try.prog 68 #[.pointer (some ⟨q8, 0, none⟩), .int .i64 t] W fun e w' => Fr No W w' ∧ ∃ a n c, e = .returned (.tuple #[.slice a n c, .int .i64 0]) ∧ BytesIn w' a n r.data) := by
                          intro W h
                          have := lread_ok t h LI8.out.up LI8.out.mup hlen8 (by rw [hfw]; exact Nat.zero_le _) hk h255 r.data hrd
                          rw [hfi] at this
                          have e : ((0 : Nat) : Int) + (t : Int) = (t : Int) := by omega
                          rw [e] at this
                          exact this
                        obtain ⟨rb, ro, rfl, hel⟩ := HA.out.at (by omega)
                        have HLEN : Hid (ls.length = n) := HA.out.len
                        obtain ⟨u, hu, hbs⟩ := hel t (by have := HLEN.out; omega)
                        have hlt9 : ls[t]'(by have := HLEN.out; omega) = r.data := by
                          have h5 : ls[t]? = some (ls[t]'(by have := HLEN.out; omega)) := List.getElem?_eq_getElem _
                          rw [h5] at hla
                          exact Option.some.inj hla
                        rw [hlt9] at hbs
                        obtain ⟨ba, bc, rfl, hbi, hbn, hbc, -⟩ := hbs.ex
                        have HBB := hid hbi
                        have HU := hid hu
                        have hdr := OI8.out.data r (List.mem_of_getElem? hr)
                        have hpc := parts_cover r.data.length
                        obtain ⟨rl, hrl⟩ : ∃ rl, rl = r.data.length := ⟨_, rfl⟩
                        have HSM : Hid (rl ≤ 126976) := by show rl ≤ 126976; rw [hrl]; rw [← hdr.1] at hpc; omega
                        have HRL := hid hrl
                        rw [← hrl] at HBB HU
                        have HT := hid hlt8
                        clear hdr hpc hk h255 hrd hla hfi hfw hlen8 hel hu hbs hlt9 hbi hbn hbc hrl hr
                        go_wp2_with fail
                        refine (HN8.out _ ho12.out).mono ?_
                        rintro e w13 ⟨rfl, k13, rfl⟩
                        have O13 := hid (ho12.out.next (Fr.drewN _ k13))
                        generalize wr.drewN k13 = w13 at *
                        go_wp2_with fail
                        refine (HRD.out _ O13.out).mono ?_
                        rintro e w14 ⟨hf14, ra, rn, rc, rfl, hb14⟩
                        have O14 := hid (O13.out.next hf14)
                        have B14 := hid hb14
                        have RN : Hid (rn = rl) := hb14.len.symm.trans HRL.out.symm
                        have B15 := hid (HBB.out.fr0 O14.out.fr)
                        have hu14 := O14.out.fr.cell HU.out id
                        clear hf14 hb14
                        go_wp2_with fail
                        refine (same_any _ _ B14.out B15.out (by rw [RN.out]; have := HSM.out; omega)).mono ?_
                        rintro e w16 ⟨⟨bb, rfl, hbb⟩, k16, rfl⟩
                        obtain rfl : bb = true := hbb.2 rfl
                        have O16 := hid (O14.out.next (Fr.drewN _ k16))
                        clear hbb
                        go_wp2_with fail
                        go_roundw
                        case rel => exact ⟨t + 1, HT.out, by go_num, O16.out⟩
                        case measure => have := HT.out; simp [intOf]; omega
                      · go_wp2_with fail
                        refine (HN8.out _ ho12.out).mono ?_
                        rintro e w13 ⟨rfl, k13, rfl⟩
                        have F13 := hid (ho12.out.fr.step (Fr.drewN _ k13))
                        go_wp2_with fail
                        go_ret
                        exact ⟨rfl, F13.out⟩

end Go.Proofs.Ytpimjachhfnlfaa
