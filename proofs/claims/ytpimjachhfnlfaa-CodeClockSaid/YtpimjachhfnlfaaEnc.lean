/-
  code.Encode of a time, and of a zone. No condition.
-/
import Derived.Test.YtpimjachhfnlfaaPenName
namespace Go.Proofs.Ytpimjachhfnlfaa
open Go.RowKit

/-- May it be a time? -/
def timeB (t : Int) : Bool := decide (0 ≤ t) && decide (t ≤ 36028797018963968)

theorem time_any (t : Int) (w : World) : Calls Try.prog 87 #[.int .i64 t] w fun e w' => e = .returned (.bool (timeB t)) ∧ w' = w := by
  by_cases h : 0 ≤ t
  · go_enter Try.func87, Try.ntmps87
    go_wp2
    go_ret
    refine ⟨congrArg (fun b => Ending.returned (.bool b)) ?_, rfl⟩
    simp [timeB, h]
  · have e : timeB t = false := by simp [timeB, h]
    rw [e]
    clear e
    go_enter Try.func87, Try.ntmps87
    go_wp2
    go_ret
    exact ⟨rfl, rfl⟩

theorem rtime_any (t : Int) (w : World) : Calls Try.prog 57 #[.int .i64 t] w fun e w' => e = .returned (.bool (timeB t)) ∧ w' = w := by
  by_cases h : 0 ≤ t
  · go_enter Try.func57, Try.ntmps57
    go_wp2
    go_ret
    refine ⟨congrArg (fun b => Ending.returned (.bool b)) ?_, rfl⟩
    simp [timeB, h]
  · have e : timeB t = false := by simp [timeB, h]
    rw [e]
    clear e
    go_enter Try.func57, Try.ntmps57
    go_wp2
    go_ret
    exact ⟨rfl, rfl⟩

abbrev nilS : Value := .slice none 0 0
/-- A fact that is blank. -/
abbrev factZ : Value := .agg #[nilS, .int .i64 0, .int .i64 0, .int .i64 0, .int .i64 0, .int .i64 0, nilS, nilS, nilS, nilS, nilS, nilS, nilS]
/-- An entry without a fact. -/
abbrev entV (k t : Int) (z : Value) : Value := .agg #[.int .i64 k, .int .i64 t, nilS, .int .i64 0, .int .i64 0, .int .i64 0, .int .i64 0, .int .i64 0, nilS, nilS, nilS, nilS, nilS, nilS, nilS, z]

set_option maxRecDepth 100000 in
theorem blank_zero (w : World) : Calls Try.prog 106 #[factZ] w fun e w' => e = .returned (.bool true) ∧ Fr No w w' := by
  go_enter Try.func106, Try.ntmps106
  go_wp2_with fail
  go_ret
  exact ⟨rfl, (Fr.alloc _ _).step (Fr.alloc _ _)⟩

set_option maxRecDepth 100000 in
theorem csound_time (t : Int) (w : World) : Calls Try.prog 55 #[entV 3 t nilS] w fun e w' => e = .returned (.bool (timeB t)) ∧ Fr No w w' := by
  cases ht : timeB t with
  | true =>
    have H := hid (time_any t (w.alloc (.cells #[.int .i64 3, .int .i64 t, nilS, .int .i64 0, .int .i64 0, .int .i64 0, .int .i64 0, .int .i64 0, nilS, nilS, nilS, nilS, nilS, nilS, nilS, nilS] 91)))
    rw [ht] at H
    have A0 := hid (heap_alloc_new w (.cells #[.int .i64 3, .int .i64 t, nilS, .int .i64 0, .int .i64 0, .int .i64 0, .int .i64 0, .int .i64 0, nilS, nilS, nilS, nilS, nilS, nilS, nilS, nilS] 91))
    clear ht
    go_enter Try.func55, Try.ntmps55
    go_wp2_with fail
    refine H.out.mono ?_
    rintro e w' ⟨rfl, rfl⟩
    go_wp2_with fail
    refine (blank_zero _).mono ?_
    rintro e w2 ⟨rfl, hf2⟩
    have c15 := cell_of_row w2 w.heap.size 15 _ _ _ (hf2.heap0 A0.out)
    have F2 := hid ((Fr.alloc (S := No) w _).step hf2)
    clear hf2
    go_wp2_with fail
    go_ret
    exact ⟨rfl, F2.out⟩
  | false =>
    have H := hid (time_any t (w.alloc (.cells #[.int .i64 3, .int .i64 t, nilS, .int .i64 0, .int .i64 0, .int .i64 0, .int .i64 0, .int .i64 0, nilS, nilS, nilS, nilS, nilS, nilS, nilS, nilS] 91)))
    rw [ht] at H
    clear ht
    go_enter Try.func55, Try.ntmps55
    go_wp2_with fail
    refine H.out.mono ?_
    rintro e w' ⟨rfl, rfl⟩
    go_wp2_with fail
    go_ret
    exact ⟨rfl, Fr.alloc _ _⟩

set_option maxRecDepth 100000 in
theorem csound_zone (a : Option Addr) (n c : Nat) (ls : List ByteArray) (w : World) (h : StrIn w a n ls) (hn : n ≤ 9223372036854775807) (hs : ∀ s ∈ ls, s.size ≤ 9223372036854775807) :
    Calls Try.prog 55 #[entV 2 0 (.slice a n c)] w fun e w' => e = .returned (.bool (soundB ls)) ∧ Fr No w w' := by
  have H := hid (fun W (f : Fr No w W) => sound_any a n c ls W (h.fr0 f) hn hs)
  have A0 := hid (heap_alloc_new w (.cells #[.int .i64 2, .int .i64 0, nilS, .int .i64 0, .int .i64 0, .int .i64 0, .int .i64 0, .int .i64 0, nilS, nilS, nilS, nilS, nilS, nilS, nilS, .slice a n c] 91))
  obtain ⟨r, hr⟩ : ∃ r, r = soundB ls := ⟨_, rfl⟩
  rw [← hr] at H ⊢
  clear h hs hr
  go_enter Try.func55, Try.ntmps55
  go_wp2_with fail
  refine (blank_zero _).mono ?_
  rintro e w2 ⟨rfl, hf2⟩
  have c15 := cell_of_row w2 w.heap.size 15 _ _ _ (hf2.heap0 A0.out)
  have F2 := hid ((Fr.alloc (S := No) w _).step hf2)
  clear hf2
  go_wp2_with fail
  refine (H.out _ F2.out).mono ?_
  rintro e w' ⟨rfl, rfl⟩
  go_wp2_with fail
  go_ret
  exact ⟨rfl, F2.out⟩

/-- The bytes of an entry, in memory. -/
def rawPost (w : World) (bs : List UInt8) (e : Ending) (w' : World) : Prop := ∃ a n c, e = .returned (.slice a n c) ∧ n = bs.length ∧ BytesIn w' a n bs ∧ (a = none → c = 0) ∧ Fr No w w'

theorem pws_no {w0 a b : World} (h : Fr (PW w0 a) a b) (f : Fr No w0 a) : Fr No w0 b := f.trans h fun _ hi => .inr hi.1

set_option maxRecDepth 100000 in
set_option maxHeartbeats 1000000 in
theorem raw_time (t : Nat) (w : World) (ht : t ≤ 36028797018963968) : Calls Try.prog 104 #[entV 3 t nilS] w fun e w' => rawPost w (be 1 3 ++ be 7 t) e w' := by
  have A0 := hid (heap_alloc_new w (.cells #[.int .i64 3, .int .i64 t, nilS, .int .i64 0, .int .i64 0, .int .i64 0, .int .i64 0, .int .i64 0, nilS, nilS, nilS, nilS, nilS, nilS, nilS, nilS] 91))
  have F0 := hid (Fr.alloc (S := No) w (.cells #[.int .i64 3, .int .i64 t, nilS, .int .i64 0, .int .i64 0, .int .i64 0, .int .i64 0, .int .i64 0, nilS, nilS, nilS, nilS, nilS, nilS, nilS, nilS] 91))
  go_enter Try.func104, Try.ntmps104
  go_wp2_with fail
  generalize (w.alloc (.cells #[.int .i64 3, .int .i64 t, nilS, .int .i64 0, .int .i64 0, .int .i64 0, .int .i64 0, .int .i64 0, nilS, nilS, nilS, nilS, nilS, nilS, nilS, nilS] 91)) = w0 at *
  refine (pen_new w0 w0 (Nat.le_refl _)).mono ?_
  rintro e w1 ⟨p, rfl, hp1, hf1, -⟩
  have P1 := hid hp1
  have A1 := hid (hf1.heap0 A0.out)
  have F1 := hid hf1
  clear hp1 hf1
  have c0 := cell_of_row w1 w.heap.size 0 _ _ _ A1.out
  go_wp2_with fail
  refine (pen_num (w0 := w0) 3 1 P1.out F1.out.size (by decide) (by decide) (by decide) (by decide)).mono ?_
  rintro e w2 ⟨rfl, hp2, hf2⟩
  have P2 := hid hp2
  have F2 := hid (pws_no hf2 F1.out)
  have hne : ¬ PW w0 w1 w.heap.size := by
    intro h
    have h1 := lt_of_some A0.out
    have := h.1
    omega
  have A2 := hid (hf2.heap A1.out hne)
  clear hp2 hf2 c0 hne
  have c0 := cell_of_row w2 w.heap.size 0 _ _ _ A2.out
  have c1 := cell_of_row w2 w.heap.size 1 _ _ _ A2.out
  go_wp2_with fail
  refine (pen_num (w0 := w0) t 7 P2.out F2.out.size (by decide) (by decide) (by show t < 72057594037927936; omega) (by rw [List.length_append, be_len]; exact Nat.le_of_lt (by decide : 0 + 1 < 1099511627776))).mono ?_
  rintro e w3 ⟨rfl, hp3, hf3⟩
  have P3 := hid hp3
  have F3 := hid (pws_no hf3 F2.out)
  clear hp3 hf3 c0 c1
  go_wp2_with fail
  refine (pen_bytes P3.out (by rw [List.length_append, List.length_append, be_len, be_len]; exact Nat.le_of_lt (by decide : 0 + 1 + 7 < 1099511627776))).mono ?_
  rintro e w4 ⟨a, n, c, rfl, hn, hb, hnil, hf4⟩
  have HB := hid hb
  have HN := hid hn
  have HL := hid hnil
  have F4 := hid (F0.out.step (F3.out.step hf4))
  clear hn hb hnil hf4
  go_wp2_with fail
  go_ret
  exact ⟨a, n, c, rfl, HN.out, HB.out, HL.out, F4.out⟩

theorem nameFrom_plain : ∀ (ls : List ByteArray) (rs : Rests) (b : List UInt8), (nameFrom false ls rs b).2 = b ++ restB ls ++ be 1 0 := by
  intro ls
  induction ls with
  | nil => intro rs b; simp [nameFrom, restB]
  | cons s ls ih =>
    intro rs b
    have e : restB (s :: ls) = labB s ++ restB ls := rfl
    unfold nameFrom
    split
    · simp only [Bool.false_eq_true, if_false]
      rw [ih, e]; simp
    · rw [ih, e]; simp

set_option maxRecDepth 100000 in
set_option maxHeartbeats 1000000 in
theorem raw_zone (a : Option Addr) (n c : Nat) (ls : List ByteArray) (w : World) (h : StrIn w a n ls) (hc : n ≤ c) (hb : soundB ls = true) : Calls Try.prog 104 #[entV 2 0 (.slice a n c)] w fun e w' => rawPost w (be 1 2 ++ restB ls ++ be 1 0) e w' := by
  have A0 := hid (heap_alloc_new w (.cells #[.int .i64 2, .int .i64 0, nilS, .int .i64 0, .int .i64 0, .int .i64 0, .int .i64 0, .int .i64 0, nilS, nilS, nilS, nilS, nilS, nilS, nilS, .slice a n c] 91))
  have F0 := hid (Fr.alloc (S := No) w (.cells #[.int .i64 2, .int .i64 0, nilS, .int .i64 0, .int .i64 0, .int .i64 0, .int .i64 0, .int .i64 0, nilS, nilS, nilS, nilS, nilS, nilS, nilS, .slice a n c] 91))
  have HS := hid h
  have HB := hid hb
  have hlen : Hid ((be 1 2 ++ restB ls ++ be 1 0).length ≤ 1099511627776) := by
    have h1 := restB_len ls
    have h2 : sizeN ls ≤ 255 := by
      unfold soundB at hb
      simp only [Bool.and_eq_true, decide_eq_true_eq] at hb
      exact hb.2
    show _ ≤ _
    rw [List.length_append, List.length_append, be_len, be_len]
    omega
  clear h hb
  go_enter Try.func104, Try.ntmps104
  go_wp2_with fail
  have S0 := hid (HS.out.fr0 F0.out)
  generalize (w.alloc (.cells #[.int .i64 2, .int .i64 0, nilS, .int .i64 0, .int .i64 0, .int .i64 0, .int .i64 0, .int .i64 0, nilS, nilS, nilS, nilS, nilS, nilS, nilS, .slice a n c] 91)) = w0 at *
  refine (pen_new w0 w0 (Nat.le_refl _)).mono ?_
  rintro e w1 ⟨p, rfl, hp1, hf1, -⟩
  have P1 := hid hp1
  have A1 := hid (hf1.heap0 A0.out)
  have F1 := hid hf1
  clear hp1 hf1
  have c0 := cell_of_row w1 w.heap.size 0 _ _ _ A1.out
  go_wp2_with fail
  refine (pen_num (w0 := w0) 2 1 P1.out F1.out.size (by decide) (by decide) (by decide) (by decide)).mono ?_
  rintro e w2 ⟨rfl, hp2, hf2⟩
  rw [List.nil_append] at hp2
  have P2 := hid hp2
  have F2 := hid (pws_no hf2 F1.out)
  have hne : ¬ PW w0 w1 w.heap.size := by
    intro h
    have h1 := lt_of_some A0.out
    have := h.1
    omega
  have A2 := hid (hf2.heap A1.out hne)
  have S2 := hid (S0.out.fr0 F2.out)
  have HST : Hid (0 < n → ∀ ad, a = some ad → ¬ PW w0 w2 ad.block) := by
    show 0 < n → ∀ ad, a = some ad → ¬ PW w0 w2 ad.block
    intro hn0 ad had hpw
    obtain ⟨b, o, e, hlt, -⟩ := S0.out.at hn0
    rw [had] at e
    cases e
    have := hpw.1
    simp only at this
    omega
  clear hp2 hf2 c0 hne
  have c0 := cell_of_row w2 w.heap.size 0 _ _ _ A2.out
  have c1 := cell_of_row w2 w.heap.size 15 _ _ _ A2.out
  go_wp2_with fail
  refine (pen_name (w0 := w0) a n c ls false P2.out F2.out.size S2.out HST.out hc HB.out (by decide) (by decide)).mono ?_
  rintro e w3 ⟨rfl, hp3, hf3⟩
  rw [nameFrom_plain] at hp3
  have P3 := hid hp3
  have F3 := hid (pws_no hf3 F2.out)
  clear hp3 hf3 c0 c1
  go_wp2_with fail
  refine (pen_bytes P3.out hlen.out).mono ?_
  rintro e w4 ⟨a4, n4, c4, rfl, hn, hb, hnil, hf4⟩
  have HB4 := hid hb
  have HN := hid hn
  have HL := hid hnil
  have F4 := hid (F0.out.step (F3.out.step hf4))
  clear hn hb hnil hf4
  go_wp2_with fail
  go_ret
  exact ⟨a4, n4, c4, rfl, HN.out, HB4.out, HL.out, F4.out⟩

/-- What Encode answers: an error, or bytes. -/
def encPost (w : World) (r : Option (List UInt8)) (e : Ending) (w' : World) : Prop :=
  match r with
  | none => e = .returned (.tuple #[nilS, .int .i64 2]) ∧ Fr No w w'
  | some bs => ∃ a n c, e = .returned (.tuple #[.slice a n c, .int .i64 0]) ∧ n = bs.length ∧ BytesIn w' a n bs ∧ (a = none → c = 0) ∧ Fr No w w'

def encTime (t : Int) : Option (List UInt8) := if timeB t then some (be 1 3 ++ be 7 t.toNat) else none
def encZone (ls : List ByteArray) : Option (List UInt8) := if soundB ls then some (be 1 2 ++ restB ls ++ be 1 0) else none

set_option maxRecDepth 100000 in
theorem encode_time (t : Int) (w : World) : Calls Try.prog 52 #[entV 3 t nilS] w fun e w' => encPost w (encTime t) e w' := by
  have F0 := hid (Fr.alloc (S := No) w (.cells #[.int .i64 3, .int .i64 t, nilS, .int .i64 0, .int .i64 0, .int .i64 0, .int .i64 0, .int .i64 0, nilS, nilS, nilS, nilS, nilS, nilS, nilS, nilS] 91))
  have A0 := hid (heap_alloc_new w (.cells #[.int .i64 3, .int .i64 t, nilS, .int .i64 0, .int .i64 0, .int .i64 0, .int .i64 0, .int .i64 0, nilS, nilS, nilS, nilS, nilS, nilS, nilS, nilS] 91))
  have H := hid (csound_time t)
  cases ht : timeB t with
  | false =>
    have he : encTime t = none := by unfold encTime; rw [ht]; rfl
    rw [he]
    rw [ht] at H
    clear ht he
    go_enter Try.func52, Try.ntmps52
    go_wp2_with fail
    refine (H.out _).mono ?_
    rintro e w1 ⟨rfl, hf1⟩
    have F1 := hid (F0.out.step hf1)
    clear hf1
    go_wp2_with fail
    go_ret2
    exact ⟨rfl, F1.out⟩
  | true =>
    have he : encTime t = some (be 1 3 ++ be 7 t.toNat) := by unfold encTime; rw [ht]; rfl
    rw [he]
    rw [ht] at H
    obtain ⟨k, rfl⟩ : ∃ k : Nat, t = k := by
      unfold timeB at ht
      simp only [Bool.and_eq_true, decide_eq_true_eq] at ht
      exact ⟨t.toNat, by omega⟩
    have hk : k ≤ 36028797018963968 := by
      unfold timeB at ht
      simp only [Bool.and_eq_true, decide_eq_true_eq] at ht
      omega
    rw [Int.toNat_natCast]
    have hbl : (be 1 3 ++ be 7 k).length = 8 := by rw [List.length_append, be_len, be_len]
    have H2 := hid (fun W => raw_time k W hk)
    have HBL := hid hbl
    obtain ⟨bs, hbs⟩ : ∃ bs, bs = be 1 3 ++ be 7 k := ⟨_, rfl⟩
    rw [← hbs] at H2 HBL ⊢
    clear ht he hk hbl hbs
    go_enter Try.func52, Try.ntmps52
    go_wp2_with fail
    refine (H.out _).mono ?_
    rintro e w1 ⟨rfl, hf1⟩
    have F1 := hid (F0.out.step hf1)
    have A1 := hf1.heap0 A0.out
    have c0 := cell_of_row w1 w.heap.size 0 _ _ _ A1
    have c1 := cell_of_row w1 w.heap.size 1 _ _ _ A1
    have c2 := cell_of_row w1 w.heap.size 2 _ _ _ A1
    have c3 := cell_of_row w1 w.heap.size 3 _ _ _ A1
    have c4 := cell_of_row w1 w.heap.size 4 _ _ _ A1
    have c5 := cell_of_row w1 w.heap.size 5 _ _ _ A1
    have c6 := cell_of_row w1 w.heap.size 6 _ _ _ A1
    have c7 := cell_of_row w1 w.heap.size 7 _ _ _ A1
    have c8 := cell_of_row w1 w.heap.size 8 _ _ _ A1
    have c9 := cell_of_row w1 w.heap.size 9 _ _ _ A1
    have c10 := cell_of_row w1 w.heap.size 10 _ _ _ A1
    have c11 := cell_of_row w1 w.heap.size 11 _ _ _ A1
    have c12 := cell_of_row w1 w.heap.size 12 _ _ _ A1
    have c13 := cell_of_row w1 w.heap.size 13 _ _ _ A1
    have c14 := cell_of_row w1 w.heap.size 14 _ _ _ A1
    have c15 := cell_of_row w1 w.heap.size 15 _ _ _ A1
    clear hf1 A1
    go_wp2_with fail
    refine (H2.out _).mono ?_
    rintro e w2 ⟨a2, n2, cc2, rfl, hn2, hb2, hnil2, hf2⟩
    have HN := hid hn2
    have HB := hid hb2
    have HL := hid hnil2
    have F2 := hid (F1.out.step hf2)
    have hsm : ¬ (16384 : Int) < (n2 : Int) := by have := HBL.out; omega
    clear hn2 hb2 hnil2 hf2 c0 c1 c2 c3 c4 c5 c6 c7 c8 c9 c10 c11 c12 c13 c14 c15
    go_wp2_with fail
    go_ret2
    exact ⟨a2, n2, cc2, rfl, HN.out, HB.out, HL.out, F2.out⟩

set_option maxRecDepth 100000 in
theorem encode_zone (a : Option Addr) (n c : Nat) (ls : List ByteArray) (w : World) (h : StrIn w a n ls) (hc : n ≤ c) (hn : n ≤ 9223372036854775807) (hs : ∀ s ∈ ls, s.size ≤ 9223372036854775807) :
    Calls Try.prog 52 #[entV 2 0 (.slice a n c)] w fun e w' => encPost w (encZone ls) e w' := by
  have F0 := hid (Fr.alloc (S := No) w (.cells #[.int .i64 2, .int .i64 0, nilS, .int .i64 0, .int .i64 0, .int .i64 0, .int .i64 0, .int .i64 0, nilS, nilS, nilS, nilS, nilS, nilS, nilS, .slice a n c] 91))
  have A0 := hid (heap_alloc_new w (.cells #[.int .i64 2, .int .i64 0, nilS, .int .i64 0, .int .i64 0, .int .i64 0, .int .i64 0, .int .i64 0, nilS, nilS, nilS, nilS, nilS, nilS, nilS, .slice a n c] 91))
  have H := hid (fun W (f : Fr No w W) => csound_zone a n c ls W (h.fr0 f) hn hs)
  cases ht : soundB ls with
  | false =>
    have he : encZone ls = none := by unfold encZone; rw [ht]; rfl
    rw [he]
    rw [ht] at H
    clear ht he h hs
    go_enter Try.func52, Try.ntmps52
    go_wp2_with fail
    refine (H.out _ F0.out).mono ?_
    rintro e w1 ⟨rfl, hf1⟩
    have F1 := hid (F0.out.step hf1)
    clear hf1
    go_wp2_with fail
    go_ret2
    exact ⟨rfl, F1.out⟩
  | true =>
    have he : encZone ls = some (be 1 2 ++ restB ls ++ be 1 0) := by unfold encZone; rw [ht]; rfl
    rw [he]
    rw [ht] at H
    have hbl : (be 1 2 ++ restB ls ++ be 1 0).length ≤ 300 := by
      have h1 := restB_len ls
      have h2 : sizeN ls ≤ 255 := by
        unfold soundB at ht
        simp only [Bool.and_eq_true, decide_eq_true_eq] at ht
        exact ht.2
      rw [List.length_append, List.length_append, be_len, be_len]
      omega
    have H2 := hid (fun W (f : Fr No w W) => raw_zone a n c ls W (h.fr0 f) hc ht)
    have HBL := hid hbl
    obtain ⟨bs, hbs⟩ : ∃ bs, bs = be 1 2 ++ restB ls ++ be 1 0 := ⟨_, rfl⟩
    rw [← hbs] at H2 HBL ⊢
    clear ht he hbl hbs h hs
    go_enter Try.func52, Try.ntmps52
    go_wp2_with fail
    refine (H.out _ F0.out).mono ?_
    rintro e w1 ⟨rfl, hf1⟩
    have F1 := hid (F0.out.step hf1)
    have A1 := hf1.heap0 A0.out
    have c0 := cell_of_row w1 w.heap.size 0 _ _ _ A1
    have c1 := cell_of_row w1 w.heap.size 1 _ _ _ A1
    have c2 := cell_of_row w1 w.heap.size 2 _ _ _ A1
    have c3 := cell_of_row w1 w.heap.size 3 _ _ _ A1
    have c4 := cell_of_row w1 w.heap.size 4 _ _ _ A1
    have c5 := cell_of_row w1 w.heap.size 5 _ _ _ A1
    have c6 := cell_of_row w1 w.heap.size 6 _ _ _ A1
    have c7 := cell_of_row w1 w.heap.size 7 _ _ _ A1
    have c8 := cell_of_row w1 w.heap.size 8 _ _ _ A1
    have c9 := cell_of_row w1 w.heap.size 9 _ _ _ A1
    have c10 := cell_of_row w1 w.heap.size 10 _ _ _ A1
    have c11 := cell_of_row w1 w.heap.size 11 _ _ _ A1
    have c12 := cell_of_row w1 w.heap.size 12 _ _ _ A1
    have c13 := cell_of_row w1 w.heap.size 13 _ _ _ A1
    have c14 := cell_of_row w1 w.heap.size 14 _ _ _ A1
    have c15 := cell_of_row w1 w.heap.size 15 _ _ _ A1
    clear hf1 A1
    go_wp2_with fail
    refine (H2.out _ F1.out).mono ?_
    rintro e w2 ⟨a2, n2, cc2, rfl, hn2, hb2, hnil2, hf2⟩
    have HN := hid hn2
    have HB := hid hb2
    have HL := hid hnil2
    have F2 := hid (F1.out.step hf2)
    have hsm : ¬ (16384 : Int) < (n2 : Int) := by have := HBL.out; omega
    clear hn2 hb2 hnil2 hf2 c0 c1 c2 c3 c4 c5 c6 c7 c8 c9 c10 c11 c12 c13 c14 c15
    go_wp2_with fail
    go_ret2
    exact ⟨a2, n2, cc2, rfl, HN.out, HB.out, HL.out, F2.out⟩

end Go.Proofs.Ytpimjachhfnlfaa
