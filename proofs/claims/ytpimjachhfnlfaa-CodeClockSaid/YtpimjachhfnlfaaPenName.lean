/-
  wname.Writer's Name. No condition but on the sizes.
-/
import Derived.Test.YtpimjachhfnlfaaPen
namespace Go.Proofs.Ytpimjachhfnlfaa
open Go.RowKit Go.Maps

/-- A name as it is written: the rests and the bytes behind it. -/
def nameFrom (short : Bool) : List ByteArray → Rests → List UInt8 → Rests × List UInt8
  | [], rs, b => (rs, b ++ be 1 0)
  | s :: ls, rs, b => match lookR rs (restB (s :: ls)) with
    | some k => if short then (rs, b ++ be 2 (49152 + k)) else nameFrom short ls rs (b ++ labB s)
    | none => nameFrom short ls (if b.length < 16384 then rs ++ [(restB (s :: ls), b.length)] else rs) (b ++ labB s)

theorem be1 (x : Nat) : be 1 x = [UInt8.ofNat x] := by
  unfold be
  simp

theorem labB_eq (s : ByteArray) : labB s = be 1 s.size ++ sb s := by rw [be1]; rfl

theorem StrIn.drop {w : World} {b o n : Nat} {l : List ByteArray} (h : StrIn w (some ⟨b, o, none⟩) n l) (j : Nat) : StrIn w (some ⟨b, o + j, none⟩) (n - j) (l.drop j) := by
  refine ⟨by rw [List.length_drop, h.len], (fun e => by cases e), fun ad had i s hs => ?_⟩
  cases had
  rw [List.getElem?_drop] at hs
  have := h.cell _ rfl _ s hs
  rw [Addr.add_lit] at this ⊢
  rw [show o + j + i = o + (j + i) by omega]
  exact this

theorem key_string : Keyed Try.prog 9 := string_keyed Try.underlying9
theorem zero_int (w : World) : (zeroValue 3).run Try.prog w = .ok (.int .i64 0) w := by kernel_rfl

/-- The parts of a writer. -/
structure PenAt (w0 w : World) (p : Nat) (l : List UInt8) (rs : Rests) (vo : Option Addr) (vc mb : Nat) : Prop where
  head : w.heap[p]? = some (.cells #[.slice vo l.length vc, .map (some mb)] 240 (0, 0))
  row : w.ownsRow w0.heap.size 5 1 (.slice vo l.length vc) l.length (bvs l)
  map : w.ownsMap Try.prog 9 (plainElem Try.prog 3) mb rs.length (restsD rs)
  p0 : w0.heap.size ≤ p
  m0 : w0.heap.size ≤ mb

theorem Pen.parts {w0 w : World} {p : Nat} {l : List UInt8} {rs : Rests} (h : Pen w0 w p l rs) : ∃ vo vc mb, PenAt w0 w p l rs vo vc mb := by
  obtain ⟨⟨v, mb, hp, hr, hm, h1, h2⟩, ho, hs⟩ := h
  obtain ⟨vo, vc, rfl⟩ : ∃ vo vc, v = .slice vo l.length vc := by
    rcases hr.2 with ⟨h, h0⟩ | ⟨g, cap, cur, h, _⟩
    · exact ⟨none, 0, by rw [h, h0]⟩
    · exact ⟨_, _, h⟩
  exact ⟨vo, vc, mb, hp, hr, hm, h1, h2⟩

/-- A rest is laid in the map. -/
theorem PenAt.put {w0 w w' : World} {p : Nat} {l r : List UInt8} {rs : Rests} {vo : Option Addr} {vc mb : Nat} (h : PenAt w0 w p l rs vo vc mb) (ho : Once rs) (hs : ∀ q ∈ rs, q.2 < 16384) (hl : l.length < 16384) (hr : lookR rs r = none)
    (hm : w'.ownsMap Try.prog 9 (plainElem Try.prog 3) mb (rs.length + 1) ((restsD rs).put (.string r) (.lit (.int .i64 (l.length : Int))))) (hg : w.grownBy w' (some mb)) :
    Pen w0 w' p l (rs ++ [(r, l.length)]) ∧ Fr (PW w0 w) w w' := by
  have hmb : ∃ es c, w.heap[mb]? = some (.map es c) := by
    obtain ⟨es, clock, hb, _⟩ := h.map
    exact ⟨_, _, hb⟩
  obtain ⟨es, cl, hmb⟩ := hmb
  have f : Fr (· = mb) w w' := Fr.grown hg (fun k hk => by cases hk; exact .inl rfl)
  have hpm : p ≠ mb := by intro e; have := h.head; rw [e, hmb] at this; cases this
  refine ⟨⟨⟨_, mb, f.heap h.head hpm, owns_fr h.row f (fun k hk e => ?_), ?_, h.p0, h.m0⟩, once_snoc ho hr, ?_⟩, f.mono fun i _ hi => ?_⟩
  · rw [e] at hk
    rcases h.row.2 with ⟨hv, _⟩ | ⟨g, cap, cur, hv, _, hgc, _⟩
    · rw [hv] at hk; cases hk
    · rw [hv] at hk; cases hk; rw [hgc] at hmb; cases hmb
  · rw [restsD_snoc, List.length_append]
    exact hm
  · intro q hq
    rcases List.mem_append.1 hq with hq | hq
    · exact hs q hq
    · obtain rfl := List.mem_singleton.1 hq; exact hl
  · rw [hi]
    exact ⟨h.m0, .inr (.inr ⟨_, _, hmb⟩)⟩

theorem ofInt64_nat (a : Nat) (ha : a < 9223372036854775808) : (BitVec.ofInt 64 (a : Int)).toNat = a := by
  rw [BitVec.ofInt_natCast, BitVec.toNat_ofNat]; exact Nat.mod_eq_of_lt (by omega)

theorem or_ptr (k : Nat) (h : k < 16384) : bits .or .i64 49152 (k : Int) = ((49152 + k : Nat) : Int) := by
  have e : 49152 ||| k = 49152 + k := by
    have := Nat.shiftLeft_add_eq_or_of_lt (show k < 2 ^ 14 from h) 3
    rw [show 3 <<< 14 = 49152 from rfl] at this
    exact this.symm
  show IntKind.i64.wrap ((BitVec.ofInt 64 ((49152 : Nat) : Int) ||| BitVec.ofInt 64 (k : Int)).toNat : Int) = _
  rw [BitVec.toNat_or, ofInt64_nat 49152 (by decide), ofInt64_nat k (by omega), e, IntKind.wrap_i64]
  omega

theorem pen_name_bad {w : World} {p : Nat} (a : Option Addr) (n c : Nat) (ls : List ByteArray) (short : Bool) (h : StrIn w a n ls) (hn : n ≤ 9223372036854775807) (hs : ∀ s ∈ ls, s.size ≤ 9223372036854775807) (hb : soundB ls = false) :
    Calls Try.prog 153 #[.pointer (some ⟨p, 0, none⟩), .slice a n c, .bool short] w fun e w' => e = .returned (.int .i64 5) ∧ w' = w := by
  have H := hid (sound_any a n c ls w h hn hs)
  rw [hb] at H
  clear h hs hb
  go_enter Try.func153, Try.ntmps153
  go_wp2_with fail
  refine H.out.mono ?_
  rintro e w' ⟨rfl, rfl⟩
  go_wp2_with fail
  go_ret
  exact ⟨rfl, rfl⟩

theorem drop_cons {α : Type} (l : List α) (j : Nat) (h : j < l.length) : l.drop j = l[j] :: l.drop (j + 1) := List.drop_eq_getElem_cons h

set_option maxRecDepth 100000 in
set_option maxHeartbeats 4000000 in
theorem pen_name {w0 w : World} {p : Nat} {l : List UInt8} {rs : Rests} (a : Option Addr) (n c : Nat) (ls : List ByteArray) (short : Bool) (hp : Pen w0 w p l rs) (hw : w0.heap.size ≤ w.heap.size) (h : StrIn w a n ls) (hst : 0 < n → ∀ ad, a = some ad → ¬ PW w0 w ad.block) (hc : n ≤ c) (hb : soundB ls = true) (hl : l.length ≤ 1073741824) (hrs : rs.length ≤ 1073741824) :
    Calls Try.prog 153 #[.pointer (some ⟨p, 0, none⟩), .slice a n c, .bool short] w fun e w' => e = .returned (.int .i64 0) ∧ Pen w0 w' p (nameFrom short ls rs l).2 (nameFrom short ls rs l).1 ∧ Fr (PW w0 w) w w' := by
  have few := soundB_few hb
  have hlen := h.len
  have hg : ls.all goodL = true := by
    unfold soundB at hb
    simp only [Bool.and_eq_true] at hb
    exact hb.1
  have hgl : ∀ s ∈ ls, 1 ≤ s.size ∧ s.size ≤ 63 := fun s hs => (goodL_iff s).1 (List.all_eq_true.1 hg s hs)
  have hn127 : n ≤ 127 := by omega
  have H0 := hid (sound_any a n c ls w h (by omega) (fun s hs => by have := (hgl s hs).2; omega))
  rw [hb] at H0
  have HP := hid hp
  have HS := hid h
  have HG := hid hgl
  have HST := hid hst
  have HLEN := hid hlen
  obtain ⟨res, hres⟩ : ∃ res, res = nameFrom short ls rs l := ⟨_, rfl⟩
  rw [← hres]
  have HRES := hid hres
  clear hp h hb hg hgl hst few hlen hres
  have hor := or_ptr
  have HOR := hid hor
  clear hor
  go_enter Try.func153, Try.ntmps153
  go_wp2_with fail
  refine H0.out.mono ?_
  rintro e w' ⟨rfl, rfl⟩
  go_wp2_with fail
  go_loopw [21] (fun i wr => ∃ (j : Nat) (bj : List UInt8) (rj : Rests), j ≤ n ∧ i = .int .i64 j ∧ Hid (nameFrom short (ls.drop j) rj bj = res) ∧ Hid (Pen w0 wr p bj rj) ∧ bj.length ≤ 1073741824 + 64 * j ∧ rj.length ≤ 1073741824 + j ∧ Hid (Fr (PW w0 w') w' wr)) (fun i _ => n - (intOf i).toNat)
  case atStart => exact ⟨0, l, rs, Nat.zero_le _, rfl, HRES.out.symm, HP.out, hl, hrs, Fr.refl _ _⟩
  case round =>
    obtain ⟨j, bj, rj, hj, rfl, hres, hpen, hbj, hrj, hf⟩ := hrel
    by_cases hlt : j < n
    · have hjl : Hid (j < ls.length) := by have := HLEN.out; show j < ls.length; omega
      have S1 : Hid (StrIn wr a n ls) := HS.out.fr hf.out (HST.out (by omega))
      obtain ⟨b, o, rfl, -, hcell⟩ := S1.out.at (by omega)
      have c0 := hcell j _ (List.getElem?_eq_getElem hjl.out)
      have SD := hid (S1.out.drop j)
      have hrc := hid (drop_cons ls j hjl.out)
      have hgood := HG.out _ (List.getElem_mem hjl.out)
      have hdl := hid (fun s (hs : s ∈ ls.drop j) => (HG.out s (List.mem_of_mem_drop hs)).2)
      generalize ls[j]'hjl.out = s at *
      obtain ⟨dr, hdr⟩ : ∃ dr, dr = ls.drop j := ⟨_, rfl⟩
      rw [← hdr] at SD hrc hres hdl
      have HDR := hid hdr
      clear hcell hdr
      have HREST := hid (rest_any (some ⟨b, o + j, none⟩) (n - j) (c - j) dr wr SD.out (by omega) hdl.out)
      have j1 : (j : Int) < (n : Int) := by omega
      have j2 : (n : Int) ≤ (c : Int) := by omega
      have hnf : Hid (nameFrom short dr rj bj = match lookR rj (restB dr) with
          | some k => if short then (rj, bj ++ be 2 (49152 + k)) else nameFrom short (ls.drop (j + 1)) rj (bj ++ labB s)
          | none => nameFrom short (ls.drop (j + 1)) (if bj.length < 16384 then rj ++ [(restB dr, bj.length)] else rj) (bj ++ labB s)) := by
        show _ = _
        rw [hrc.out]; rfl
      go_wp2_with fail
      refine HREST.out.mono ?_
      rintro e w2 ⟨rfl, hf2⟩
      have P2 := hid (hpen.out.fr0 hf2)
      have FF2 := hid (Fr.pws (w0 := w0) hf.out hf2.any)
      clear hf2
      obtain ⟨R, hR⟩ : ∃ R : ByteArray, R = ⟨(restB dr).toArray⟩ := ⟨_, rfl⟩
      have hkey : keyOf Try.prog 9 (.string R) = some (.string (restB dr)) := by
        have hsz : R.size ≤ maxLen := by
          have h1 := restB_len dr
          have h2 := sizeN_le dr hdl.out
          have h3 : dr.length ≤ n := by have := SD.out.len; omega
          rw [hR]
          show (restB dr).toArray.size ≤ maxLen
          rw [List.size_toArray]
          unfold maxLen
          omega
        rw [WideMaps.keyOf_string_mk Try.underlying9 hsz, hR]
      rw [← hR]
      have HK := hid hkey
      clear hR hkey
      obtain ⟨vo, vc, mb, hpa⟩ := P2.out.parts
      have d0 : w2.cell? ⟨p, 0, none⟩ = some (.slice vo bj.length vc) := cell_of_row w2 p 0 _ _ _ hpa.head
      have d1 : w2.cell? ⟨p, 1, none⟩ = some (.map (some mb)) := cell_of_row w2 p 1 _ _ _ hpa.head
      have PA := hid hpa
      have HLK := hid (restsD_look rj P2.out.once (restB dr))
      clear hpa
      go_wp2_with (at_lookup; go_must (refine wpList_lookup_own_ok_int (H := Unit) _ rfl (.tmp 34) (.tmp 35) 238 rfl 9 3 .i64 key_string Try.underlying238 Try.underlying3 (zero_int _) mb rj.length (restsD rj) rfl PA.out.map (.string R) (.string (restB dr)) rfl HK.out ?_))
      intro cc hat hwc
      cases hlk : lookR rj (restB dr) with
      | some k =>
        obtain ⟨e1, e2⟩ := HLK.out.2 k hlk
        rw [e1]
        have hcc : cc = (k : Int) := by rw [e2] at hat; injection hat with h1; injection h1 with _ h2; exact h2.symm
        subst hcc
        have HN : Hid (nameFrom short dr rj bj = if short then (rj, bj ++ be 2 (49152 + k)) else nameFrom short (ls.drop (j + 1)) rj (bj ++ labB s)) := by
          show _ = _
          rw [hnf.out, hlk]
        clear e1 e2 hat hwc
        have hk14 : k < 16384 := by
          unfold lookR at hlk
          obtain ⟨q, hq, rfl⟩ := Option.map_eq_some_iff.1 hlk
          exact P2.out.small q (List.mem_of_find?_eq_some hq)
        clear hlk
        cases short with
        | true =>
          have hor := HOR.out k hk14
          have hpn := hid (pen_num (w0 := w0) (49152 + k) 2 P2.out (Nat.le_trans hw FF2.out.size) (by decide) (by decide) (by show 49152 + k < 2 ^ (8 * 2); omega) (by omega))
          go_wp2_with fail
          refine hpn.out.mono ?_
          rintro e w4 ⟨rfl, hp4, hf4⟩
          have P4 := hid hp4
          have F4 := hid (Fr.pws (w0 := w0) FF2.out hf4)
          clear hp4 hf4 hor
          go_wp2_with fail
          go_ret
          have hfin : res = (rj, bj ++ be 2 (49152 + k)) := by rw [← hres.out, HN.out]; rfl
          rw [hfin]
          exact ⟨rfl, P4.out, F4.out⟩
        | false =>
          have P3 := P2
          have F3 := FF2
          have HW3 := hid (Nat.le_trans hw FF2.out.size)
          have hw3 := HW3.out
          go_wp2_with fail
          refine (pen_num s.size 1 P3.out hw3 (by decide) (by decide) (by show s.size < 2 ^ (8 * 1); omega) (by omega)).mono ?_
          rintro e w4 ⟨rfl, hp4, hf4⟩
          have P4 := hid hp4
          have F4 := hid (Fr.pws (w0 := w0) F3.out hf4)
          have hw4 := hid (Nat.le_trans hw3 hf4.size)
          clear hp4 hf4
          have hcv := conv_bytes s w4
          have HRW := hid (pen_raw (w0 := w0) (some ⟨w4.heap.size, 0, none⟩) s.size (grownCap w4 s.size 0 5) (sb s) (P4.out.fr0 (bytesWorld_fr w4 s)) (Nat.le_trans hw4.out (bytesWorld_fr w4 s).size) (bytesWorld_in w4 s) (fun e => by cases e) (by rw [List.length_append, be_len]; omega))
          have FB := hid (Fr.pws (w0 := w0) F4.out (bytesWorld_fr w4 s).any)
          generalize Lib.bytesWorld w4 5 s = w5 at *
          generalize grownCap w4 s.size 0 5 = gc at *
          go_wp2_with fail
          refine HRW.out.mono ?_
          rintro e w6 ⟨rfl, hp6, hf6⟩
          have P6 := hid hp6
          have F6 := hid (Fr.pws (w0 := w0) FB.out hf6)
          clear hp6 hf6 hcv
          go_wp2_with fail
          go_roundw
          case rel =>
            refine ⟨j + 1, bj ++ labB s, rj, hlt, by go_num, ?_, ?_, ?_, ?_, F6.out⟩
            · show _ = _
              rw [← hres.out, HN.out]; rfl
            · show Pen _ _ _ _ _
              have := P6.out
              rw [List.append_assoc, ← labB_eq] at this
              exact this
            · rw [List.length_append]; unfold labB; rw [List.length_cons, sb_len]; omega
            · omega
          case measure => simp [intOf]; omega
      | none =>
        obtain ⟨e1, e2⟩ := HLK.out.1 hlk
        rw [e1]
        have hcc : cc = 0 := by rw [e2] at hat; injection hat with h1; injection h1 with _ h2; exact h2.symm
        subst hcc
        have HLN := hid hlk
        have HN : Hid (nameFrom short dr rj bj = nameFrom short (ls.drop (j + 1)) (if bj.length < 16384 then rj ++ [(restB dr, bj.length)] else rj) (bj ++ labB s)) := by
          show _ = _
          rw [hnf.out, hlk]
        clear e1 e2 hat hwc hlk
        by_cases hbig : bj.length < 16384
        · have hb1 : (bj.length : Int) < 16384 := by omega
          have hpp := hid (fun w' (hm : Hid (w'.ownsMap Try.prog 9 (plainElem Try.prog 3) mb (rj.length + 1) ((restsD rj).put (.string (restB dr)) (.lit (.int .i64 (bj.length : Int)))))) (hg : Hid (w2.drew.grownBy w' (some mb))) => PA.out.put P2.out.once P2.out.small hbig HLN.out hm.out ⟨hg.out.os, hg.out.tape, hg.out.output, hg.out.size, hg.out.block⟩)
          have HMD := hid (show w2.drew.ownsMap Try.prog 9 (plainElem Try.prog 3) mb rj.length (restsD rj) from PA.out.map)
          have hwf : Hid ((Lit.int .i64 (bj.length : Int)).wf = true) := by
            have h1 : IntKind.i64.min = -9223372036854775808 := rfl
            have h2 : IntKind.i64.max = 9223372036854775807 := rfl
            show _ = _
            simp only [Lit.wf, Bool.and_eq_true, decide_eq_true_eq, h1, h2]
            omega
          obtain ⟨w3, hrun, hm3, hg3⟩ := HMD.out.update (key := .string R) (val := .int .i64 (bj.length : Int)) key_string Try.underlying238 (by unfold maxLen; omega) HK.out (plainElem_int Try.underlying3 hwf.out)
          have hq3 := hid (hpp.out w3 hm3 hg3)
          clear hm3 hg3 hpp HMD hwf
          go_wp2_with fail
          go_region
          all_goals
            have hq3 := hq3.out
            have P3 := hid hq3.1
            have F3 := hid (Fr.pws (w0 := w0) FF2.out hq3.2)
            have HW3 := hid (Nat.le_trans hw F3.out.size)
            clear hq3 hrun
            have hw3 := HW3.out
            go_wp2_with fail
            refine (pen_num s.size 1 P3.out hw3 (by decide) (by decide) (by show s.size < 2 ^ (8 * 1); omega) (by omega)).mono ?_
            rintro e w4 ⟨rfl, hp4, hf4⟩
            have P4 := hid hp4
            have F4 := hid (Fr.pws (w0 := w0) F3.out hf4)
            have hw4 := hid (Nat.le_trans hw3 hf4.size)
            clear hp4 hf4
            have hcv := conv_bytes s w4
            have HRW := hid (pen_raw (w0 := w0) (some ⟨w4.heap.size, 0, none⟩) s.size (grownCap w4 s.size 0 5) (sb s) (P4.out.fr0 (bytesWorld_fr w4 s)) (Nat.le_trans hw4.out (bytesWorld_fr w4 s).size) (bytesWorld_in w4 s) (fun e => by cases e) (by rw [List.length_append, be_len]; omega))
            have FB := hid (Fr.pws (w0 := w0) F4.out (bytesWorld_fr w4 s).any)
            generalize Lib.bytesWorld w4 5 s = w5 at *
            generalize grownCap w4 s.size 0 5 = gc at *
            go_wp2_with fail
            refine HRW.out.mono ?_
            rintro e w6 ⟨rfl, hp6, hf6⟩
            have P6 := hid hp6
            have F6 := hid (Fr.pws (w0 := w0) FB.out hf6)
            clear hp6 hf6 hcv
            go_wp2_with fail
            go_roundw
            case rel =>
              refine ⟨j + 1, bj ++ labB s, rj ++ [(restB dr, bj.length)], hlt, by go_num, ?_, ?_, ?_, ?_, F6.out⟩
              · show _ = _
                rw [← hres.out, HN.out, if_pos hbig]
              · show Pen _ _ _ _ _
                have := P6.out
                rw [List.append_assoc, ← labB_eq] at this
                exact this
              · rw [List.length_append]; unfold labB; rw [List.length_cons, sb_len]; omega
              · rw [List.length_append, List.length_singleton]; omega
            case measure => simp [intOf]; omega
        · have hb1 : ¬ (bj.length : Int) < 16384 := by omega
          have P3 := P2
          have F3 := FF2
          have HW3 := hid (Nat.le_trans hw FF2.out.size)
          have hw3 := HW3.out
          go_wp2_with fail
          refine (pen_num s.size 1 P3.out hw3 (by decide) (by decide) (by show s.size < 2 ^ (8 * 1); omega) (by omega)).mono ?_
          rintro e w4 ⟨rfl, hp4, hf4⟩
          have P4 := hid hp4
          have F4 := hid (Fr.pws (w0 := w0) F3.out hf4)
          have hw4 := hid (Nat.le_trans hw3 hf4.size)
          clear hp4 hf4
          have hcv := conv_bytes s w4
          have HRW := hid (pen_raw (w0 := w0) (some ⟨w4.heap.size, 0, none⟩) s.size (grownCap w4 s.size 0 5) (sb s) (P4.out.fr0 (bytesWorld_fr w4 s)) (Nat.le_trans hw4.out (bytesWorld_fr w4 s).size) (bytesWorld_in w4 s) (fun e => by cases e) (by rw [List.length_append, be_len]; omega))
          have FB := hid (Fr.pws (w0 := w0) F4.out (bytesWorld_fr w4 s).any)
          generalize Lib.bytesWorld w4 5 s = w5 at *
          generalize grownCap w4 s.size 0 5 = gc at *
          go_wp2_with fail
          refine HRW.out.mono ?_
          rintro e w6 ⟨rfl, hp6, hf6⟩
          have P6 := hid hp6
          have F6 := hid (Fr.pws (w0 := w0) FB.out hf6)
          clear hp6 hf6 hcv
          go_wp2_with fail
          go_roundw
          case rel =>
            refine ⟨j + 1, bj ++ labB s, rj, hlt, by go_num, ?_, ?_, ?_, ?_, F6.out⟩
            · show _ = _
              rw [← hres.out, HN.out, if_neg hbig]
            · show Pen _ _ _ _ _
              have := P6.out
              rw [List.append_assoc, ← labB_eq] at this
              exact this
            · rw [List.length_append]; unfold labB; rw [List.length_cons, sb_len]; omega
            · omega
          case measure => simp [intOf]; omega
    · obtain rfl : j = n := by omega
      have hd : ls.drop j = [] := List.drop_of_length_le (by have := HLEN.out; omega)
      have hfin : Hid (res = (rj, bj ++ be 1 0)) := by
        show _ = _
        rw [← hres.out, hd]; rfl
      clear hd
      have hpn := hid (pen_num (w0 := w0) 0 1 hpen.out (Nat.le_trans hw hf.out.size) (by decide) (by decide) (by decide) (by omega))
      go_wp2_with fail
      refine hpn.out.mono ?_
      rintro e w4 ⟨rfl, hp4, hf4⟩
      have P4 := hid hp4
      have F4 := hid (Fr.pws (w0 := w0) hf.out hf4)
      clear hp4 hf4
      go_wp2_with fail
      go_ret
      rw [hfin.out]
      exact ⟨rfl, P4.out, F4.out⟩

end Go.Proofs.Ytpimjachhfnlfaa
