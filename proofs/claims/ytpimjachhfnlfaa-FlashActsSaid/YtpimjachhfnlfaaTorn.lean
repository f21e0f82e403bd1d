/-
  FlashTorn, walked. No condition.
-/
import Derived.Test.YtpimjachhfnlfaaAnswers
namespace Go.Proofs.Ytpimjachhfnlfaa
open Go.RowKit

/-- The plain facts: what the device holds at each step. -/
def t0 : Dv := Dv.zero 2
def t1 : Dv := t0.add 1 [1]
def t2 : Dv := t1.crash 0 1
def t3 (b : List UInt8) : Dv := t2.add 1 b
def t4 (b : List UInt8) : Dv := { t3 b with sure := settleAll (t3 b).sure (t3 b).unsure, unsure := [] }

theorem t2_sure : t2.sure = [zeroSec, ⟨pad [1], true⟩] := by
  simp [t2, t1, t0, Dv.crash, Dv.add, Dv.zero, crashFrom, crashOne, bitAt, List.replicate]
theorem t2_unsure : t2.unsure = [] := rfl
theorem t2_len : t2.sure.length = 2 := by rw [t2_sure]; rfl
theorem t2_seen : t2.seen 1 = none := by
  rw [seen_clean t2_unsure (by rw [t2_len]; decide)]
  simp [t2_sure]
theorem t4_sure (b : List UInt8) : (t4 b).sure = [zeroSec, ⟨pad b, false⟩] := by
  show settleAll t2.sure (t2.unsure ++ [(1, pad b)]) = _
  rw [t2_sure, t2_unsure]
  rfl
theorem crash_clean {m : Dv} (h : m.unsure = []) (a b : Nat) : (m.crash a b).sure = m.sure := by simp [Dv.crash, h, crashFrom]
theorem t5_seen (b : List UInt8) : ((t4 b).crash 0 0).seen 1 = some (pad b) := by
  have e : ((t4 b).crash 0 0).sure = [zeroSec, ⟨pad b, false⟩] := by rw [crash_clean rfl, t4_sure]
  rw [seen_clean rfl (by rw [e]; exact Nat.le_refl _)]
  simp [e]
theorem t6_seen (b : List UInt8) : ((t3 b).crash 0 0).seen 1 = none := by
  have e : ((t3 b).crash 0 0).sure = t2.sure := by
    show crashFrom 0 0 0 t2.sure (t2.unsure ++ [(1, pad b)]) = _
    rw [t2_unsure]
    simp [crashFrom, crashOne, bitAt]
  have hl : 1 < ((t3 b).crash 0 0).sure.length := by rw [e, t2_len]; decide
  rw [seen_clean rfl hl]
  simp [e, t2_sure]

theorem t1_live : Live t1 := (zero_live 2).add _ _
theorem t2_live : Live t2 := crash_live _ _ _
theorem t3_live (b : List UInt8) : Live (t3 b) := t2_live.add _ _
theorem t4_live (b : List UInt8) : Live (t4 b) := ⟨(t3_live b).up, (t3_live b).free⟩
theorem t3_seen (b : List UInt8) : (t3 b).seen 1 = some (pad b) := seen_add_same _ _ _
theorem t3_len (b : List UInt8) : 1 < (t3 b).sure.length := by show 1 < t2.sure.length; rw [t2_len]; decide
theorem t5_len (b : List UInt8) : 1 < ((t4 b).crash 0 0).sure.length := by rw [crash_clean rfl, t4_sure]; exact Nat.le_refl _
theorem t6_len (b : List UInt8) : 1 < ((t3 b).crash 0 0).sure.length := by show 1 < (crashFrom 0 0 0 _ _).length; rw [crashFrom_len]; exact t3_len b

theorem fr_new {w0 w w' : World} (h : Fr No w0 w) (f : Fr (Wr (New w0) w) w w') : Fr No w0 w' := h.trans f.ofWr fun _ hi => .inr hi

set_option maxRecDepth 100000 in
theorem torn_walk (a : Option Addr) (n c : Nat) (b : List UInt8) (again : Bool) (w : World) (hb : BytesIn w a n b) (hn : n ≤ 512) (hnil : a = none → n = 0 ∧ c = 0) :
    Calls Try.prog 4 #[.slice a n c, .bool again] w fun e w' => e = .returned (.bool true) ∧ Fr No w w' := by
  obtain ⟨iu, hiu, hu0, hu1, hu2⟩ := info_parts info_u8
  have HB := hid hb
  have b1 : (n : Int) ≤ 512 := by omega
  have HN := hid hn
  have HNil := hid hnil
  clear hb hnil
  go_enter Try.func4, Try.ntmps4
  go_wp2_with fail
  refine (own_new 2 w _ (Fr.refl _ _) (by decide) (by decide)).mono ?_
  rintro e w1 ⟨p, rfl, hd, hf⟩
  have H1 := hid hd
  clear hd hf
  go_wp2_with fail
  refine (answers_any _).mono ?_
  rintro e w2 ⟨rfl, hf⟩
  have H2 := hid ((H1.out.next hf).next (Fr.alloc w2 (.cells #[.int .u8 1] 5)))
  clear hf
  go_wp2_with fail
  refine (own_write 1 _ 1 _ [1] H2.out (zero_live 2) (by rw [new_zero_len]; decide) (by decide) (by decide) (BytesIn.lit w2 [1] 1 rfl #[.int .u8 1] rfl)).mono ?_
  rintro e w3 ⟨rfl, hd, -⟩
  have H3 := hid hd
  clear hd
  go_wp2_with fail
  refine (own_crash 0 1 H3.out (by decide) (by decide) (by decide)).mono ?_
  rintro e w4 ⟨rfl, hd, -⟩
  have H4 := hid (show Own w w4 p t2 from hd)
  clear hd
  go_wp2_with fail
  refine (own_torn 1 H4.out t2_live (by rw [t2_len]; decide) (by decide) t2_seen).mono ?_
  rintro e w' ⟨rfl, rfl⟩
  have HB5 := hid ((HB.out.fr0 H4.out.fr).fr0 (Fr.alloc w' (.cells #[] 5)))
  have HO5 := hid (World.ownsRow_made (base := 0) (e := 5) (size := 1) w' #[] 0 (Nat.zero_le _) (by decide) rfl)
  have H5 := hid (H4.out.next (Fr.alloc w' (.cells #[] 5)))
  clear H4
  go_wp2_with (at_builtin; go_must (refine wpList_append_copy _ rfl (.tmp 44) (.tmp 45) 23 rfl 5 iu (.int .u8 0) 1 1 Try.underlying23 hiu hu0 hu1 hu2 rfl (by decide) w'.heap.size rfl HO5.out a n c (bvs b) rfl HNil.out (by rw [bvs_len, HB.out.len, Nat.mul_one]) HB5.out.cell (bvs_one b) ?c1 ?c2 ?_))
  case c1 => unfold maxLen; omega
  case c2 => omega
  intro g c' w6 hr6 hc6 hg6 hf6
  have H6 := hid (H5.out.next hf6.out)
  have HB6 := hid (Row.bytes hr6.out HB.out.len)
  clear hr6 hf6 hg6 HO5 H5
  go_wp2_with fail
  refine (own_write 1 _ n _ b H6.out t2_live (by rw [t2_len]; decide) (by decide) HN.out HB6.out).mono ?_
  rintro e w7 ⟨rfl, hd, -⟩
  have H7 := hid (show Own w w7 p (t3 b) from hd)
  clear hd
  go_wp2_with fail
  refine (own_read 1 (pad b) H7.out (t3_live b) (t3_len b) (by show (t2.unsure ++ [(1, pad b)]).length ≤ _; rw [t2_unsure]; exact Nat.le_trans (Nat.le_refl 1) (by decide)) (t3_seen b)).mono ?_
  rintro e w8 ⟨g8, c8, rfl, hr8, hc8, -, hf8⟩
  have H8 := hid (H7.out.next hf8)
  have HR8 := hid hr8
  clear hr8 hf8
  go_wp2_with fail
  refine (zero_any _).mono ?_
  rintro e w9 ⟨g9, rfl, hr9, hg9, hf9⟩
  have H9 := hid (H8.out.next hf9)
  have HF9 := hid hf9
  have HG9 := hid hg9
  have HR9 := hid (HR8.out.fr0 hf9)
  have HB9 := hid ((HB.out.fr0 H9.out.fr))
  obtain ⟨Z, hZ⟩ : ∃ Z, Z = bvs (List.replicate 512 0) := ⟨_, rfl⟩
  rw [← hZ] at hr9
  have HZ := hid hZ
  have HR := hid hr9
  have hne : Hid (g8 ≠ g9) := by have := HR8.out.lt; show g8 ≠ g9; omega
  obtain ⟨B, hB⟩ : ∃ B, B = bvs b := ⟨_, rfl⟩
  have HS := HB9.out.cell
  have HO := hid (bvs_one b)
  have hfit : Hid (0 + B.length ≤ Z.length) := by show _ ≤ _; rw [hB, hZ, bvs_len, bvs_len, HB.out.len, List.length_replicate]; omega
  have hn2 : Hid (B.length = Nat.min n 512) := by show _ = _; rw [hB, bvs_len, HB.out.len]; exact (Nat.min_eq_left HN.out).symm
  rw [← hB] at HS HO
  have HS2 := hid HS
  have HB2 := hid hB
  clear HS hB hZ hr9 hf9 hg9
  go_wp2_with (with_reducible refine wpList_copy_fr rfl (.tmp 54) (.tmp 55) 23 23 rfl 5 Try.underlying23 (by kernel_rfl) g9 0 512 512 a n c rfl rfl Z 5 HR.out B hn2.out (fun h => (HNil.out h).1) HS2.out hfit.out HO.out ?_)
  intro w10 hr10 hf10
  have HF10 := hid (show Fr No _ w10 from HF9.out.trans hf10.out (fun i hi => .inr (by rw [hi]; exact HG9.out)))
  have H10 := hid (H8.out.next HF10.out)
  have hx : Row w10 g9 5 (bvs (pad b)) := ⟨_, hr10.out, by rw [HZ.out, HB2.out, splice_pad]; exact List.take_of_length_le (by simp)⟩
  have HX := hid hx
  have HY := hid (HR8.out.fr0 HF10.out)
  have hpl : Hid ((pad b).length = 512) := pad_len (by rw [HB.out.len]; exact HN.out)
  clear hr10 hf10 hx HR9 H9 HF9
  go_wp2_with fail
  refine (same_any _ _ (HY.out.bytes hpl.out) (HX.out.bytes hpl.out) (by decide)).mono ?_
  rintro e w' ⟨⟨bb, rfl, hbb⟩, k, rfl⟩
  obtain rfl : bb = true := hbb.2 rfl
  have H11 := hid (H10.out.next (Fr.drewN w10 k))
  have HX11 := hid (HX.out.fr0 (Fr.drewN w10 k))
  clear H10 HX HY
  cases again with
  | true =>
    go_wp2_with fail
    refine (own_sync H11.out (t3_live b) (by show (t2.unsure ++ [(1, pad b)]).length ≤ _; rw [t2_unsure]; exact Nat.le_trans (Nat.le_refl 1) (by decide))).mono ?_
    rintro e w12 ⟨rfl, hd, hf⟩
    have H12 := hid (show Own w w12 p (t4 b) from hd)
    have HX12 := hid (HX11.out.wr hf (by decide) (by decide) (by decide))
    clear hd hf
    go_wp2_with fail
    refine (own_crash 0 0 H12.out (by show 0 ≤ _; decide) (by decide) (by decide)).mono ?_
    rintro e w13 ⟨rfl, hd, hf⟩
    have H13 := hid hd
    have HX13 := hid (HX12.out.wr hf (by decide) (by decide) (by decide))
    clear hd hf
    go_wp2_with fail
    refine (own_read 1 (pad b) H13.out (crash_live _ _ _) (t5_len b) (by show 0 ≤ _; decide) (t5_seen b)).mono ?_
    rintro e w14 ⟨g14, c14, rfl, hr14, -, -, hf14⟩
    have HX14 := hid (HX13.out.fr0 hf14)
    have HY14 := hid hr14
    have HE14 := hid (H13.out.fr.step hf14)
    clear hr14 hf14
    go_wp2_with fail
    refine (same_any _ _ (HY14.out.bytes hpl.out) (HX14.out.bytes hpl.out) (by decide)).mono ?_
    rintro e w' ⟨⟨b2, rfl, hb2⟩, k2, rfl⟩
    obtain rfl : b2 = true := hb2.2 rfl
    go_wp2_with fail
    go_ret
    exact ⟨rfl, HE14.out.step (Fr.drewN _ _)⟩
  | false =>
    go_wp2_with fail
    refine (own_crash 0 0 H11.out (by show (t2.unsure ++ [(1, pad b)]).length ≤ _; rw [t2_unsure]; exact Nat.le_trans (Nat.le_refl 1) (by decide)) (by decide) (by decide)).mono ?_
    rintro e w13 ⟨rfl, hd, -⟩
    have H13 := hid hd
    clear hd
    go_wp2_with fail
    refine (own_torn 1 H13.out (crash_live _ _ _) (t6_len b) (by show 0 ≤ _; decide) (t6_seen b)).mono ?_
    rintro e w' ⟨rfl, rfl⟩
    go_wp2_with fail
    go_ret
    exact ⟨rfl, H13.out.fr⟩

/-- Too long: it says so. -/
theorem torn_long (a : Option Addr) (n c : Nat) (again : Bool) (w : World) (hn : 512 < n) :
    Calls Try.prog 4 #[.slice a n c, .bool again] w fun e w' => e = .returned (.bool true) ∧ Fr No w w' := by
  have b1 : (512 : Int) < (n : Int) := by omega
  go_enter Try.func4, Try.ntmps4
  go_wp2_with fail
  refine (own_new 2 w _ (Fr.refl _ _) (by decide) (by decide)).mono ?_
  rintro e w1 ⟨p, rfl, hd, hf⟩
  have H1 := hid hf
  clear hd hf
  go_wp2_with fail
  refine (answers_any _).mono ?_
  rintro e w2 ⟨rfl, hf⟩
  have H2 := hid (H1.out.step hf)
  clear hf
  go_wp2_with fail
  refine (answers_any _).mono ?_
  rintro e w3 ⟨rfl, hf⟩
  have H3 := hid (H2.out.step hf)
  clear hf
  go_wp2_with fail
  go_ret
  exact ⟨rfl, H3.out⟩
end Go.Proofs.Ytpimjachhfnlfaa
