/-
  FlashApart, walked. No condition.
-/
import Derived.Test.YtpimjachhfnlfaaCopy
import Derived.Test.YtpimjachhfnlfaaTorn
import Derived.BigQuiet
namespace Go.Proofs.Ytpimjachhfnlfaa
open Go.RowKit

theorem pad_head (x : UInt8) (l : List UInt8) : (bvs (pad (x :: l)))[0]? = some (.int .u8 x.toNat) := rfl

/-- Disjoint sets of blocks. -/
theorem dev_keep {S T : Nat → Prop} {w w' : World} {p : Nat} {m : Dv} (h : Dev w S p m) (f : Fr (Wr T w) w w') (hd : ∀ k, S k → ¬ T k) : Dev w' S p m := h.fr f.ofWr hd

/-- A store into a block that is none of a device's. -/
theorem dev_store {S : Nat → Prop} {w : World} {p : Nat} {m : Dv} (h : Dev w S p m) (g i : Nat) (v : Value) (hg : ¬ S g) : Dev (w.setCell ⟨g, i, none⟩ v) S p m := h.fr (Fr.set1 w g i v) (fun _ hk e => hg (e ▸ hk))

theorem Row.store {w : World} {g e : Nat} {xs : List Value} (h : Row w g e xs) (g' i : Nat) (v : Value) (hg : g ≠ g') : Row (w.setCell ⟨g', i, none⟩ v) g e xs := h.fr (Fr.set1 w g' i v) hg

theorem writes_one {w : World} {lo : Nat} {v : Value} {k : Nat} {b : List UInt8} (h : Writes w lo v [(k, b)]) :
    ∃ gv cv gd cd, v = .slice (some ⟨gv, 0, none⟩) 1 cv ∧ Row w gv 57 [.int .i64 k, .slice (some ⟨gd, 0, none⟩) 512 cd] ∧ Row w gd 5 (bvs b) ∧ lo ≤ gv ∧ lo ≤ gd := by
  obtain ⟨us, h1, h2, h3, h4⟩ := h
  match us, h1 with
  | [u], h1 =>
    simp only [List.map_cons, List.map_nil, UW.pair, List.cons.injEq, Prod.mk.injEq, and_true] at h1
    obtain ⟨rfl, rfl⟩ := h1
    have h5 := h3 u List.mem_cons_self
    rcases h2.2 with ⟨_, h0⟩ | ⟨g, cap, cur, rfl, _, hg, _, _, _, ht⟩
    · simp at h0
    · exact ⟨g, cap, u.g, u.c, rfl, ⟨cur, hg, ht⟩, h5.1, h4 _ rfl, h5.2.2⟩

theorem of_store {P : World → Prop} {w W : World} {a : Addr} {v : Value} (hW : w.setCell a v = W) (h : ∀ v, P (w.setCell a v)) : P W := hW ▸ h v

theorem few_one (m : Dv) (h : m.unsure = []) (k : Nat) (b : List UInt8) : (m.add k b).unsure.length < 1099511627776 := by
  show (m.unsure ++ [(k, pad b)]).length < _
  rw [h]
  exact (by decide : 1 < 1099511627776)
theorem few_two (m : Dv) (h : m.unsure = []) (k j : Nat) (b c : List UInt8) : ((m.add k b).add j c).unsure.length ≤ 1099511627776 := by
  show ((m.unsure ++ [(k, pad b)]) ++ [(j, pad c)]).length ≤ _
  rw [h]
  exact (by decide : 2 ≤ 1099511627776)

set_option maxRecDepth 100000 in
set_option maxHeartbeats 4000000 in
theorem apart_walk (b o n c : Nat) (x : UInt8) (l : List UInt8) (pos : Int) (w : World) (hb : BytesIn w (some ⟨b, o, none⟩) n (x :: l)) (hn : n ≤ 512) :
    Calls Try.prog 6 #[.slice (some ⟨b, o, none⟩) n c, .int .i64 pos] w fun e w' => e = .returned (.bool true) ∧ Fr No w w' := by
  obtain ⟨iu, hiu, hu0, hu1, hu2⟩ := info_parts info_u8
  have b1 : (n : Int) ≤ 512 := by omega
  have hn1 : (x :: l).length = n := hb.len
  have b2 : (1 : Int) ≤ (n : Int) := by simp at hn1; omega
  have b3 : (0 : Int) < (n : Int) := by omega
  have c0 : w.cell? ⟨b, o, none⟩ = some (.int .u8 x.toNat) := by
    have := hb.cell _ rfl 0 (bv x) rfl
    exact this
  have hbs : b < w.heap.size := block_lt_of_cell c0
  have HB := hid hb
  have HN := hid hn
  have HN1 := hid hn1
  have HC0 := hid c0
  have HBS := hid hbs
  have x1 : (0 : Int) ≤ (x.toNat : Int) := by omega
  have x2 : (x.toNat : Int) < 256 := by have := x.toNat_lt; omega
  clear hb hn1 c0
  go_enter Try.func6, Try.ntmps6
  go_wp2_with fail
  refine (new_ok 3 w (by decide) (by decide)).mono ?_
  rintro e w1 ⟨p, rfl, hd, hf⟩
  have H1 := hid hd
  have HF1 := hid hf
  clear hd hf
  go_wp2_with fail
  refine (answers_any _).mono ?_
  rintro e w2 ⟨rfl, hf⟩
  have H2 := hid (H1.out.fr0 hf)
  have HF2 := hid (HF1.out.step hf)
  have HZ2 := hid hf.size
  have HB2 := hid ((HB.out.fr0 HF2.out).fr0 (Fr.alloc w2 (.cells #[] 5)))
  have HO2 := hid (World.ownsRow_made (base := 0) (e := 5) (size := 1) w2 #[] 0 (Nat.zero_le _) (by decide) rfl)
  clear hf
  go_wp2_with (at_builtin; go_must (refine wpList_append_copy _ rfl (.tmp 44) (.tmp 45) 23 rfl 5 iu (.int .u8 0) 1 1 Try.underlying23 hiu hu0 hu1 hu2 rfl (by decide) w2.heap.size rfl HO2.out (some ⟨b, o, none⟩) n c (bvs (x :: l)) rfl (fun e => by cases e) (by rw [bvs_len, HN1.out, Nat.mul_one]) HB2.out.cell (bvs_one _) ?c1 ?c2 ?_))
  case c1 => unfold maxLen; omega
  case c2 => omega
  intro gi ci w3 hr3 hc3 hg3 hf3
  have HF3 := hid (show Fr No w2 w3 from (Fr.alloc w2 _).step hf3.out)
  have H3 := hid (H2.out.fr0 HF3.out)
  have HB3 := hid (Row.bytes hr3.out HN1.out)
  have HGI : Hid (w2.heap.size ≤ gi) := by
    show w2.heap.size ≤ gi
    rcases hg3 with h | h
    · exact Nat.le_of_eq h.symm
    · have : w2.heap.size + 1 ≤ gi := h
      omega
  have HLI := hid hr3.out.lt
  clear hg3 hf3 HO2 HB2
  go_wp2_with fail
  refine (write_live 1 _ n _ (x :: l) w3 H3.out (zero_live 3) (by rw [new_zero_len]; decide) (by decide) HN.out HB3.out).mono ?_
  rintro e w4 ⟨rfl, hd, hf⟩
  have H4 := hid hd
  have hr4 := hr3.out.wr hf (by decide) (by decide) (by decide)
  have HR4 := hid hr4
  have e0 := hr4.cell 0 (.int .u8 x.toNat) rfl
  have e1 := hr4.free 0
  have HF4 := hid hf
  have HN4 : Hid (¬ Grow (fun k => w.heap.size ≤ k ∧ k < w1.heap.size) w3 w4 gi) := by
    rintro (h | h)
    · have h1 := HGI.out
      have h2 := HZ2.out
      have := h.2
      omega
    · have := HLI.out
      have := h.1
      omega
  clear hd hf hr4
  go_wp2_with fail
  obtain ⟨S4, hS4⟩ : ∃ S, S = Grow (fun k => w.heap.size ≤ k ∧ k < w1.heap.size) w3 w4 := ⟨_, rfl⟩
  rw [← hS4] at H4 HN4
  have HS4 : Hid (∀ k, S4 k → w.heap.size ≤ k) := by
    show ∀ k, S4 k → w.heap.size ≤ k
    intro k hk
    rw [hS4] at hk
    rcases hk with h | h
    · exact h.1
    · exact Nat.le_trans (HF2.out.step HF3.out).size h.1
  have F4 : Fr No w w4 := (HF2.out.step HF3.out).trans HF4.out.ofWr (fun i hi => .inr hi.1)
  have HGW : Hid (w.heap.size ≤ gi) := Nat.le_trans HF2.out.size HGI.out
  have HD5 := hid (fun v => dev_store H4.out gi 0 v HN4.out)
  have HF5 := hid (fun v => (F4.trans (Fr.set1 w4 gi 0 v) (fun i hi => .inr (by rw [hi]; exact HGW.out)) : Fr No w _))
  clear hS4 F4 e0 e1
  generalize hW5 : w4.setCell ⟨gi, 0, none⟩ _ = W5
  have H5 : Dev W5 S4 p ((Dv.zero 3).add 1 (x :: l)) := by rw [← hW5]; exact HD5.out _
  have F5 : Fr No w W5 := by rw [← hW5]; exact HF5.out _
  have h5 := hid H5
  have f5 := hid F5
  clear hW5 HD5 HF5 H5 F5 H4 HR4 HF4 H1 H2 H3 HF1 HF2 HF3 HB3 hr3
  refine (copy_any W5 h5.out (few_one _ rfl _ _)).mono ?_
  rintro e w6 ⟨pc, cc, sp, rfl, hdc, hf6⟩
  have HC6 := hid (hdc.fr0 (Fr.alloc w6 (.cells #[.int .u8 9] 5)))
  have H6 := hid ((h5.out.fr0 hf6).fr0 (Fr.alloc w6 (.cells #[.int .u8 9] 5)))
  have F6 := hid ((f5.out.step hf6).step (Fr.alloc w6 (.cells #[.int .u8 9] 5)))
  have HL5 := hid (h5.out.lt)
  have HZ6 := hid hf6.size
  clear hdc hf6
  go_wp2_with fail
  refine (write_live 1 _ 1 _ [9] _ H6.out ((zero_live 3).add _ _) (by show 1 < (Dv.zero 3).sure.length; rw [new_zero_len]; decide) (few_one _ rfl _ _) (by decide) (BytesIn.lit w6 [9] 1 rfl #[.int .u8 9] rfl)).mono ?_
  rintro e w7 ⟨rfl, hd7, hf7⟩
  have HC7 := hid (dev_keep HC6.out hf7 (fun k hk hs => by have := HL5.out k hs; have := hk.1; omega))
  have H7 := hid hd7
  have F7 := hid (F6.out.trans hf7.ofWr (fun i hi => .inr (HS4.out i hi)))
  have HZ7 := hid hf7.size
  clear hd7 hf7
  go_wp2_with fail
  refine (sync_live w7 H7.out (((zero_live 3).add _ _).add _ _) (few_two _ rfl _ _ _ _)).mono ?_
  rintro e w8 ⟨rfl, -, hf8⟩
  have HC8 := hid (dev_keep HC7.out hf8 (fun k hk hs => by
    rcases hs with h | h
    · have := HL5.out k h; have := hk.1; omega
    · have h1 : w6.heap.size + 1 ≤ k := by simpa using h.1
      have := hk.2; omega))
  have F8 := hid (F7.out.trans hf8.ofWr (fun i hi => .inr (by
    rcases hi with h | h
    · exact HS4.out i h
    · exact Nat.le_trans F6.out.size h.1)))
  clear hf8
  go_wp2_with fail
  have hlive : Live ({ (Dv.zero 3).add 1 (x :: l) with cap := cc, spare := sp } : Dv) := ⟨rfl, rfl⟩
  have hlen : 1 < ({ (Dv.zero 3).add 1 (x :: l) with cap := cc, spare := sp } : Dv).sure.length := by show 1 < (Dv.zero 3).sure.length; rw [new_zero_len]; decide
  have hfew : ({ (Dv.zero 3).add 1 (x :: l) with cap := cc, spare := sp } : Dv).unsure.length < 1099511627776 := few_one (Dv.zero 3) rfl 1 (x :: l)
  have hseen : ({ (Dv.zero 3).add 1 (x :: l) with cap := cc, spare := sp } : Dv).seen 1 = some (pad (x :: l)) := seen_add_same (Dv.zero 3) 1 (x :: l)
  refine (read_live 1 _ w8 HC8.out hlive hlen (Nat.le_of_lt hfew) hseen).mono ?_
  rintro e w9 ⟨g9, c9, rfl, hr9, hc9, hg9, hf9⟩
  have HC9 := hid (HC8.out.fr0 hf9)
  have F9 := hid (F8.out.step hf9)
  have a0 := F9.out.cell HC0.out id
  have d0 := hr9.cell 0 (.int .u8 x.toNat) rfl
  have HR9 := hid hr9
  have HG9 := hid hg9
  have HL8 := hid HC8.out.lt
  have HF9 := hid hf9
  clear hr9 hf9 hg9
  go_wp2_with fail
  go_quiet (fail)
  have HC10 := hid (HC9.out.fr0 (Fr.drewN w9 nq))
  have hmu : ({ (Dv.zero 3).add 1 (x :: l) with cap := cc, spare := sp } : Dv).unsure = [(1, pad (x :: l))] := rfl
  have HU := hid (unsure_any (w9.drewN nq) HC10.out hfew)
  rw [hmu] at HU
  go_wp2_with fail
  refine HU.out.mono ?_
  rintro e w11 ⟨v, rfl, hv, hf11⟩
  obtain ⟨gv, cv, gd, cd, rfl, hrv, hrd, hgv, hgd⟩ := writes_one hv
  have HC11 := hid (HC10.out.fr0 hf11)
  have F11 := hid ((F9.out.step (Fr.drewN w9 nq)).step hf11)
  have HR11 := hid ((HR9.out.fr0 (Fr.drewN w9 nq)).fr0 hf11)
  have v1 := hrv.cell 1 _ rfl
  have k0 := hrd.cell 0 (.int .u8 x.toNat) rfl
  have a1 := F11.out.cell HC0.out id
  have HRV := hid hrv
  have HRD := hid hrd
  have HGV := hid hgv
  have HGD := hid hgd
  have HL9 := hid HC9.out.lt
  clear hv hf11 hrv hrd hgv hgd HU hmu a0 d0
  go_wp2_with fail
  go_quiet (fail)
  have r0 := HR11.out.cell 0 (.int .u8 x.toNat) rfl
  have r1 := HR11.out.free 0
  go_wp2_with fail
  have hne : gd ≠ g9 := by
    have h1 := HR9.out.lt
    have h2 : w9.heap.size ≤ gd := HGD.out
    omega
  have hnv : gv ≠ g9 := by
    have h1 := HR9.out.lt
    have h2 : w9.heap.size ≤ gv := HGV.out
    omega
  have hS9 : ¬ (W5.heap.size ≤ g9 ∧ g9 < w6.heap.size) := by
    rintro ⟨h1, h2⟩
    have h3 := HL8.out g9 ⟨h1, h2⟩
    have h4 := HG9.out
    omega
  have hg9w : w.heap.size ≤ g9 := Nat.le_trans F8.out.size HG9.out
  have HD12 := hid (fun vv => dev_store (HC11.out.fr0 (Fr.drewN w11 nq)) g9 0 vv hS9)
  have HF12 := hid (fun vv => ((F11.out.step (Fr.drewN w11 nq)).trans (Fr.set1 _ g9 0 vv) (fun i hi => .inr (by rw [hi]; exact hg9w)) : Fr No w _))
  have HV12 := hid (fun vv => (HRV.out.fr0 (Fr.drewN w11 nq)).store g9 0 vv hnv)
  have HE12 := hid (fun vv => (HRD.out.fr0 (Fr.drewN w11 nq)).store g9 0 vv hne)
  clear v1 k0 a1 r0 r1
  generalize hW : (w11.drewN nq).setCell ⟨g9, 0, none⟩ _ = W12
  have d12 := of_store (P := fun W => Dev W _ pc _) hW HD12.out
  have f12 := of_store (P := fun W => Fr No w W) hW HF12.out
  have v12 := of_store (P := fun W => Row W gv _ _) hW HV12.out
  have e12 := of_store (P := fun W => Row W gd _ _) hW HE12.out
  have v1 := v12.cell 1 _ rfl
  have k0 := e12.cell 0 (.int .u8 x.toNat) rfl
  have k1 := e12.free 0
  have D12 := hid d12
  have G12 := hid f12
  clear hW HD12 HF12 HV12 HE12 hne hnv hS9 d12 f12 v12 e12
  go_wp2_with fail
  go_region
  have hgdS : ¬ (W5.heap.size ≤ gd ∧ gd < w6.heap.size) := by
    rintro ⟨h1, h2⟩
    have h3 := HL9.out gd ⟨h1, h2⟩
    have h4 : w9.heap.size ≤ gd := HGD.out
    omega
  have hgdw : w.heap.size ≤ gd := Nat.le_trans F9.out.size HGD.out
  have HD13 := hid (fun vv => dev_store D12.out gd 0 vv hgdS)
  have HF13 := hid (fun vv => (G12.out.trans (Fr.set1 _ gd 0 vv) (fun i hi => .inr (by rw [hi]; exact hgdw)) : Fr No w _))
  clear v1 k0 k1 hgdS hgdw
  generalize hW2 : World.setCell _ ⟨gd, 0, none⟩ _ = W13
  have D13 := hid ((of_store (P := fun W => Dev W _ pc _) hW2 HD13.out).fr0 (Fr.drew W13))
  have G13 := hid ((of_store (P := fun W => Fr No w W) hW2 HF13.out).step (Fr.drew W13))
  clear hW2 HD13 HF13
  go_wp2_with fail
  refine (read_live 1 _ _ D13.out hlive hlen (Nat.le_of_lt hfew) hseen).mono ?_
  rintro e w14 ⟨g14, c14, rfl, hr14, hc14, -, hf14⟩
  have D14 := hid (D13.out.fr0 hf14)
  have G14 := hid (G13.out.step hf14)
  have HR14 := hid hr14
  clear hr14 hf14
  go_wp2_with fail
  refine (crash_any 0 0 w14 D14.out (Nat.le_of_lt hfew) (by decide) (by decide)).mono ?_
  rintro e w15 ⟨rfl, hd15, hf15⟩
  have D15 := hid hd15
  have G15 := hid (G14.out.trans hf15.ofWr (fun i hi => .inr (Nat.le_trans f5.out.size hi.1)))
  have HR15 := hid (HR14.out.wr hf15 (by decide) (by decide) (by decide))
  clear hd15 hf15
  have hlen2 : 1 < (({ (Dv.zero 3).add 1 (x :: l) with cap := cc, spare := sp } : Dv).crash 0 0).sure.length := by show 1 < (crashFrom 0 0 0 _ _).length; rw [crashFrom_len]; exact hlen
  have hseen2 : (({ (Dv.zero 3).add 1 (x :: l) with cap := cc, spare := sp } : Dv).crash 0 0).seen 1 = some (List.replicate 512 0) := by
    rw [seen_clean rfl hlen2]
    have e : (({ (Dv.zero 3).add 1 (x :: l) with cap := cc, spare := sp } : Dv).crash 0 0).sure = (Dv.zero 3).sure := by
      show crashFrom 0 0 0 (Dv.zero 3).sure [(1, pad (x :: l))] = _
      simp [crashFrom, crashOne, bitAt]
    have e2 : (({ (Dv.zero 3).add 1 (x :: l) with cap := cc, spare := sp } : Dv).crash 0 0).sure[1] = zeroSec := by
      simp only [e]
      show (List.replicate 3 zeroSec)[1] = zeroSec
      rfl
    rw [e2]
    rfl
  go_wp2_with fail
  refine (read_live 1 _ w15 D15.out (crash_live _ _ _) hlen2 (by show 0 ≤ _; decide) hseen2).mono ?_
  rintro e w16 ⟨g16, c16, rfl, hr16, hc16, -, hf16⟩
  have G16 := hid (G15.out.step hf16)
  have z0 := hr16.cell 0 (.int .u8 0) rfl
  have b0 := (HR15.out.fr0 hf16).cell 0 (.int .u8 x.toNat) rfl
  have a0 := G16.out.cell HC0.out id
  clear hr16 hf16
  go_wp2_with (first
    | (go_at_call 23; refine (read_nil _ _).mono ?_; rintro e w' ⟨rfl, rfl⟩)
    | (go_at_call 20; refine (write_nil _ _ _).mono ?_; rintro e w' ⟨rfl, rfl⟩)
    | (go_at_call 21; refine (sync_nil _).mono ?_; rintro e w' ⟨rfl, rfl⟩)
    | (go_at_call 29; refine (limit_nil _ _).mono ?_; rintro e w' ⟨rfl, rfl⟩)
    | (go_at_call 22; refine (crash_nil 1 1 _).mono ?_; rintro e w' ⟨rfl, rfl⟩)
    | (go_at_call 33; refine (len_nil _).mono ?_; rintro e w' ⟨rfl, rfl⟩)
    | (go_at_call 32; refine (down_nil _).mono ?_; rintro e w' ⟨rfl, rfl⟩)
    | (go_at_call 35; refine (unsure_nil _).mono ?_; rintro e w' ⟨rfl, rfl⟩)
    | (go_at_call 31; refine (copy_nil _).mono ?_; rintro e w' ⟨rfl, rfl⟩))
  dsimp only [List.append]
  go_quiet (first
    | (go_at_call 20; refine Calls.quiet_of_same (write_nil _ _ _))
    | (go_at_call 21; refine Calls.quiet_of_same (sync_nil _))
    | (go_at_call 29; refine Calls.quiet_of_same (limit_nil _ _))
    | (go_at_call 22; refine Calls.quiet_of_same (crash_nil 1 1 _))
    | (go_at_call 33; refine Calls.quiet_of_same (len_nil _))
    | (go_at_call 32; refine Calls.quiet_of_same (down_nil _))
    | (go_at_call 35; refine Calls.quiet_of_same (unsure_nil _))
    | (go_at_call 31; refine Calls.quiet_of_same (copy_nil _)))
  go_wp2_with fail
  go_ret
  exact ⟨rfl, G16.out.step (Fr.drewN _ nq)⟩

set_option maxRecDepth 100000 in
/-- Too long, or empty: it says so. -/
theorem apart_out (a : Option Addr) (n c : Nat) (pos : Int) (w : World) (hn : 512 < n ∨ n < 1) :
    Calls Try.prog 6 #[.slice a n c, .int .i64 pos] w fun e w' => e = .returned (.bool true) ∧ Fr No w w' := by
  rcases hn with hn | hn
  · have b1 : (512 : Int) < (n : Int) := by omega
    go_enter Try.func6, Try.ntmps6
    go_wp2_with fail
    refine (new_ok 3 w (by decide) (by decide)).mono ?_
    rintro e w1 ⟨p, rfl, hd, hf⟩
    have H1 := hid hf
    clear hd hf
    go_wp2_with fail
    refine (answers_any _).mono ?_
    rintro e w2 ⟨rfl, hf⟩
    have H2 := hid (H1.out.step hf)
    clear hf
    go_wp2_with fail
    refine (answers_any _).mono ?_
    rintro e w3 ⟨rfl, hf⟩
    have H3 := hid (H2.out.step hf)
    clear hf
    go_wp2_with fail
    go_ret
    exact ⟨rfl, H3.out⟩
  · have b1 : (n : Int) ≤ 512 := by omega
    have b2 : (n : Int) < 1 := by omega
    go_enter Try.func6, Try.ntmps6
    go_wp2_with fail
    refine (new_ok 3 w (by decide) (by decide)).mono ?_
    rintro e w1 ⟨p, rfl, hd, hf⟩
    have H1 := hid hf
    clear hd hf
    go_wp2_with fail
    refine (answers_any _).mono ?_
    rintro e w2 ⟨rfl, hf⟩
    have H2 := hid (H1.out.step hf)
    clear hf
    go_wp2_with fail
    refine (answers_any _).mono ?_
    rintro e w3 ⟨rfl, hf⟩
    have H3 := hid (H2.out.step hf)
    clear hf
    go_wp2_with fail
    go_ret
    exact ⟨rfl, H3.out⟩

end Go.Proofs.Ytpimjachhfnlfaa
