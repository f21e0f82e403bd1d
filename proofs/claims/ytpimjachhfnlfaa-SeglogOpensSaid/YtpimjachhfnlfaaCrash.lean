/-
  The device's Crash. No condition but that fewer than 2^40 writes are open.
-/
import Derived.Test.YtpimjachhfnlfaaSync
import Derived.WalkSmall
namespace Go.Proofs.Ytpimjachhfnlfaa
open Go.RowKit

/-- Bit k modulo 64. -/
def bitAt (x : Nat) (k : Nat) : Bool := x.testBit (k % 64)

/-- What a crash does with the k-th write. -/
def crashOne (mask torn : Nat) (s : List Sec) (k : Nat) (u : Nat × List UInt8) : List Sec :=
  if bitAt torn k then s.set u.1 ⟨u.2, true⟩ else if bitAt mask k then s.set u.1 ⟨u.2, false⟩ else s

def crashFrom (mask torn : Nat) : Nat → List Sec → List (Nat × List UInt8) → List Sec
  | _, s, [] => s
  | k, s, u :: l => crashFrom mask torn (k + 1) (crashOne mask torn s k u) l

def Dv.crash (m : Dv) (mask torn : Nat) : Dv := { m with sure := crashFrom mask torn 0 m.sure m.unsure, unsure := [], limit := 0, down := false }

theorem crashFrom_snoc (mask torn : Nat) : ∀ (l : List (Nat × List UInt8)) (k : Nat) (s : List Sec) (u : Nat × List UInt8), crashFrom mask torn k s (l ++ [u]) = crashOne mask torn (crashFrom mask torn k s l) (k + l.length) u := by
  intro l
  induction l with
  | nil => intro k s u; rfl
  | cons x l ih => intro k s u; simp only [List.cons_append, crashFrom, ih, List.length_cons]; congr 1; omega

theorem bit_and (x k : Nat) (hx : x < 18446744073709551616) : (bits .and .u64 ((x : Int) / 2 ^ k) 1 == 1) = x.testBit k := by
  have e : ((x : Int) / 2 ^ k) = ((x / 2 ^ k : Nat) : Int) := by
    have : ((2 : Int) ^ k) = ((2 ^ k : Nat) : Int) := by simp
    rw [this]; rfl
  have hlt : x / 2 ^ k < 18446744073709551616 := Nat.lt_of_le_of_lt (Nat.div_le_self _ _) hx
  rw [e, Nat.testBit_eq_decide_div_mod_eq]
  generalize x / 2 ^ k = y at hlt
  rw [and_one_u64 _ (by omega) (by omega)]
  rw [Bool.eq_iff_iff]
  simp
  omega

theorem crash_nil (a b : Nat) (w : World) : Calls Try.prog 22 #[.pointer none, .int .u64 a, .int .u64 b] w fun e w' => e = .returned (.int .i64 1) ∧ w' = w := by
  go_enter Try.func22, Try.ntmps22
  go_wp2
  go_ret
  exact ⟨rfl, rfl⟩

set_option maxRecDepth 100000 in
theorem crash_full {w : World} {p bs ub cu : Nat} {us : List UW} {m : Dv} (h : DevAt w p bs (.slice (some ⟨ub, 0, none⟩) us.length cu) us m) (hsz : us.length ≤ 1099511627776) (mask torn : Nat) (hm : mask < 18446744073709551616) (ht : torn < 18446744073709551616) :
    Calls Try.prog 22 #[.pointer (some ⟨p, 0, none⟩), .int .u64 mask, .int .u64 torn] w fun e w' => e = .returned (.int .i64 0) ∧ DevAt w' p bs (.slice none 0 0) [] (m.crash mask torn) ∧ Fr (fun i => i = p ∨ i = bs) w w' := by
  have c1 := h.c1
  have HD := hid h
  clear h
  obtain ⟨n, hn⟩ : ∃ n, n = us.length := ⟨_, rfl⟩
  have HN := hid hn
  rw [← hn] at hsz c1 HD
  clear hn
  go_enter Try.func22, Try.ntmps22
  go_wp2
  go_loopw [17] (fun i wr => ∃ j : Nat, j ≤ n ∧ i = .int .i64 j ∧ Hid (DevAt wr p bs (.slice (some ⟨ub, 0, none⟩) n cu) us { m with sure := crashFrom mask torn 0 m.sure ((us.take j).map UW.pair) }) ∧ Hid (Fr (· = bs) w wr)) (fun i _ => n - (intOf i).toNat)
  case atStart => exact ⟨0, Nat.zero_le _, rfl, HD.out, Fr.refl _ _⟩
  case round =>
    obtain ⟨j, hj, rfl, hd, hf⟩ := hrel
    by_cases hlt : j < n
    · have hj' : Hid (j < us.length) := by have := HN.out; show j < us.length; omega
      have hrow := row_of_owns (show wr.ownsRow 0 57 2 (.slice (some ⟨ub, 0, none⟩) n cu) n (us.flatMap UW.cells) by have := hd.out.list; rw [← HN.out] at this; exact this)
      have hw := uw_at j hj'.out
      have c0 := hrow.cell _ _ hw.1
      have c1' := hrow.cell _ _ hw.2
      clear hw hrow
      have hdat := hid (hd.out.data _ (List.getElem_mem hj'.out))
      have hl := hid (hd.out.wf.wsize (us[j]'hj'.out).pair (by rw [hd.out.eq]; exact List.mem_map_of_mem (List.getElem_mem hj'.out)))
      have hp := hid (hd.out.wf.wpos (us[j]'hj'.out).pair (by rw [hd.out.eq]; exact List.mem_map_of_mem (List.getElem_mem hj'.out)))
      have HD2 := hid (fun (o : Obj) => hd.out.fr (Fr.alloc (S := No) wr o) id id (fun _ _ => id) (fun _ _ => id))
      have hC := fun (b : Bool) (o : Obj) => settle_at (HD2.out o) (us[j]'hj'.out).pos hp.out (us[j]'hj'.out).data (us[j]'hj'.out).g (us[j]'hj'.out).c (hdat.out.1.fr0 (Fr.alloc wr o)) hl.out b
      have HC := hid hC
      clear hC
      have hs : crashFrom mask torn 0 m.sure ((us.take (j + 1)).map UW.pair) = crashOne mask torn (crashFrom mask torn 0 m.sure ((us.take j).map UW.pair)) j (us[j]'hj'.out).pair := by
        rw [take_succ_at us j hj'.out, List.map_append, List.map_cons, List.map_nil, crashFrom_snoc]
        congr 1
        simp
        have := hj'.out
        omega
      have q1 := bit_and torn (j % 64) ht
      have q2 := bit_and mask (j % 64) hm
      by_cases ht1 : bitAt torn j = true
      · have ht2 : torn.testBit (j % 64) = true := ht1
        rw [ht2] at q1
        simp only [crashOne, ht1, if_true] at hs
        have HS := hid hs
        clear hs ht1 ht2 q2
        go_wp2_with (go_at_call 77; go_must (refine (HC.out true _).mono ?_); rintro e w2 ⟨rfl, hd2, hf2⟩; have HD3 := hid hd2; have HF3 := hid hf2; clear hd2 hf2)
        go_roundw
        case rel =>
          refine ⟨j + 1, hlt, by go_num, ?_, (hf.out.step (Fr.alloc wr _)).step HF3.out⟩
          show DevAt _ _ _ _ _ _
          rw [HS.out]
          exact HD3.out
        case measure => simp [intOf]; omega
      · have ht1 : bitAt torn j = false := by simpa using ht1
        have ht2 : torn.testBit (j % 64) = false := ht1
        rw [ht2] at q1
        by_cases hm1 : bitAt mask j = true
        · have hm2 : mask.testBit (j % 64) = true := hm1
          rw [hm2] at q2
          simp only [crashOne, ht1, hm1, if_true] at hs
          have HS := hid hs
          clear hs ht1 ht2 hm1 hm2
          go_wp2_with (go_at_call 77; go_must (refine (HC.out false _).mono ?_); rintro e w2 ⟨rfl, hd2, hf2⟩; have HD3 := hid hd2; have HF3 := hid hf2; clear hd2 hf2)
          go_roundw
          case rel =>
            refine ⟨j + 1, hlt, by go_num, ?_, (hf.out.step (Fr.alloc wr _)).step HF3.out⟩
            show DevAt _ _ _ _ _ _
            rw [HS.out]
            exact HD3.out
          case measure => simp [intOf]; omega
        · have hm1 : bitAt mask j = false := by simpa using hm1
          have hm2 : mask.testBit (j % 64) = false := hm1
          rw [hm2] at q2
          simp only [crashOne, ht1, hm1] at hs
          have HS := hid hs
          clear hs ht1 ht2 hm1 hm2
          go_wp2_with fail
          go_roundw
          case rel =>
            refine ⟨j + 1, hlt, by go_num, ?_, hf.out.step (Fr.alloc wr _)⟩
            show DevAt _ _ _ _ _ _
            rw [HS.out]
            exact HD2.out _
          case measure => simp [intOf]; omega
    · have hjn : j = n := by omega
      have hT : us.take j = us := List.take_of_length_le (by have := HN.out; omega)
      rw [hT] at hd
      clear hT hjn
      have c1' := hd.out.c1
      have g1 := hd.out.free 1
      have c2' := hd.out.c2
      have g2 := hd.out.free 2
      have c3' := hd.out.c3
      have g3 := hd.out.free 3
      go_wp2_with fail
      go_ret
      have f3 : Fr (· = p) wr (((wr.setCell ⟨p, 1, none⟩ (.slice none 0 0)).setCell ⟨p, 2, none⟩ (.int .i64 0)).setCell ⟨p, 3, none⟩ (.bool false)) := ((Fr.set1 _ _ _ _).step (Fr.set1 _ _ _ _)).step (Fr.set1 _ _ _ _)
      refine ⟨rfl, ?_, (hf.out.mono (fun i _ e => .inr e)).step (f3.mono (fun i _ e => .inl e))⟩
      have e : m.crash mask torn = { ({ m with sure := crashFrom mask torn 0 m.sure (us.map UW.pair) } : Dv) with unsure := [], limit := 0, down := false } := by
        simp [Dv.crash, HD.out.eq]
      rw [e]
      refine hd.out.reset f3 0 false (by omega) ?_
      rw [heap_setCell_same _ _ _ _ _ _ (heap_setCell_same _ _ _ _ _ _ (heap_setCell_same _ _ _ _ _ _ hd.out.head))]
      simp

set_option maxRecDepth 100000 in
theorem crash_empty {w : World} {p bs : Nat} {m : Dv} (h : DevAt w p bs (.slice none 0 0) [] m) (mask torn : Nat) :
    Calls Try.prog 22 #[.pointer (some ⟨p, 0, none⟩), .int .u64 mask, .int .u64 torn] w fun e w' => e = .returned (.int .i64 0) ∧ DevAt w' p bs (.slice none 0 0) [] (m.crash mask torn) ∧ Fr (· = p) w w' := by
  have c1 := h.c1
  have g1 := h.free 1
  have c2 := h.c2
  have g2 := h.free 2
  have c3 := h.c3
  have g3 := h.free 3
  have HD := hid h
  clear h
  go_enter Try.func22, Try.ntmps22
  go_wp2
  refine wp_loop_rounds 1 ?_
  rw [rounds_succ]
  go_wp2_with fail
  go_ret
  have f3 : Fr (· = p) w (((w.setCell ⟨p, 1, none⟩ (.slice none 0 0)).setCell ⟨p, 2, none⟩ (.int .i64 0)).setCell ⟨p, 3, none⟩ (.bool false)) := ((Fr.set1 _ _ _ _).step (Fr.set1 _ _ _ _)).step (Fr.set1 _ _ _ _)
  refine ⟨rfl, ?_, f3⟩
  have e : m.crash mask torn = { m with unsure := [], limit := 0, down := false } := by
    simp [Dv.crash, HD.out.eq, crashFrom]
  rw [e]
  refine HD.out.reset f3 0 false (by omega) ?_
  rw [heap_setCell_same _ _ _ _ _ _ (heap_setCell_same _ _ _ _ _ _ (heap_setCell_same _ _ _ _ _ _ HD.out.head))]
  simp

/-! ### Over the device as a whole -/

theorem crash_any {S : Nat → Prop} {p : Nat} {m : Dv} (mask torn : Nat) (w : World) (hd : Dev w S p m) (few : m.unsure.length ≤ 1099511627776) (hm : mask < 18446744073709551616) (ht : torn < 18446744073709551616) :
    Calls Try.prog 22 #[.pointer (some ⟨p, 0, none⟩), .int .u64 mask, .int .u64 torn] w fun e w' => e = .returned (.int .i64 0) ∧ Dev w' S p (m.crash mask torn) ∧ Fr (Wr S w) w w' := by
  obtain ⟨bs, uv, us, h, hp, hb, hv, hu, hl⟩ := hd
  have hS2 : ∀ k, (Value.slice none 0 0).ownBlock = some k → S k := fun k hk => by cases hk
  have hS3 : ∀ u ∈ ([] : List UW), S u.g := fun u hu => by cases hu
  rcases h.shape with ⟨rfl, rfl⟩ | ⟨ub, c, rfl, hr⟩
  · refine (crash_empty h mask torn).mono fun e w' hh => ?_
    exact ⟨hh.1, ⟨bs, _, _, hh.2.1, hp, hb, hS2, hS3, fun k hk => Nat.lt_of_lt_of_le (hl k hk) hh.2.2.size⟩, hh.2.2.mono (fun i _ e => e ▸ ⟨hp, h.dt_p⟩)⟩
  · have few' : us.length ≤ 1099511627776 := by have := h.eq; rw [this] at few; simpa using few
    refine (crash_full h few' mask torn hm ht).mono fun e w' hh => ?_
    exact ⟨hh.1, ⟨bs, _, _, hh.2.1, hp, hb, hS2, hS3, fun k hk => Nat.lt_of_lt_of_le (hl k hk) hh.2.2.size⟩, hh.2.2.mono (fun i _ e => by rcases e with e | e <;> rw [e]; exact ⟨hp, h.dt_p⟩; exact ⟨hb, h.dt_bs⟩)⟩

theorem sync_any {S : Nat → Prop} {p : Nat} {m : Dv} (w : World) (hd : Dev w S p m) (few : m.unsure.length ≤ 1099511627776) :
    Calls Try.prog 21 #[.pointer (some ⟨p, 0, none⟩)] w fun e w' => e = .returned (.int .i64 m.sync.2) ∧ Dev w' S p m.sync.1 ∧ Fr (Wr S w) w w' := by
  obtain ⟨bs, uv, us, h, hp, hb, hv, hu, hl⟩ := hd
  have hS2 : ∀ k, (Value.slice none 0 0).ownBlock = some k → S k := fun k hk => by cases hk
  have hS3 : ∀ u ∈ ([] : List UW), S u.g := fun u hu => by cases hu
  by_cases hd : m.down = true
  · refine (sync_down h hd).mono fun e w' hh => ?_
    obtain ⟨rfl, rfl⟩ := hh
    have e : m.sync = (m, 8) := by simp [Dv.sync, hd]
    rw [e]
    exact ⟨rfl, ⟨bs, uv, us, h, hp, hb, hv, hu, hl⟩, Fr.refl _ _⟩
  · have hd : m.down = false := by simpa using hd
    by_cases h1 : m.limit = 1
    · refine (sync_cut h hd h1).mono fun e w' hh => ?_
      have e : m.sync = (m.spent, 8) := by simp [Dv.sync, hd, h1]
      rw [e]
      exact ⟨hh.1, ⟨bs, uv, us, hh.2.1, hp, hb, hv, hu, fun k hk => Nat.lt_of_lt_of_le (hl k hk) hh.2.2.size⟩, hh.2.2.mono (fun i _ e => e ▸ ⟨hp, h.dt_p⟩)⟩
    · have e : m.sync.2 = 0 := by simp [Dv.sync, hd, h1]
      rw [e]
      rcases h.shape with ⟨rfl, rfl⟩ | ⟨ub, c, rfl, hr⟩
      · refine (sync_empty h hd h1).mono fun e w' hh => ?_
        exact ⟨hh.1, ⟨bs, _, _, hh.2.1, hp, hb, hS2, hS3, fun k hk => Nat.lt_of_lt_of_le (hl k hk) hh.2.2.size⟩, hh.2.2.mono (fun i _ e => e ▸ ⟨hp, h.dt_p⟩)⟩
      · have few' : us.length ≤ 1099511627776 := by have := h.eq; rw [this] at few; simpa using few
        refine (sync_full h few' hd h1).mono fun e w' hh => ?_
        exact ⟨hh.1, ⟨bs, _, _, hh.2.1, hp, hb, hS2, hS3, fun k hk => Nat.lt_of_lt_of_le (hl k hk) hh.2.2.size⟩, hh.2.2.mono (fun i _ e => by rcases e with e | e <;> rw [e]; exact ⟨hp, h.dt_p⟩; exact ⟨hb, h.dt_bs⟩)⟩

/-- Bytes that are handed in. -/
structure BytesIn (w : World) (a : Option Addr) (n : Nat) (b : List UInt8) : Prop where
  len : b.length = n
  nil : a = none → n = 0
  cell : ∀ ad, a = some ad → ∀ j u, (bvs b)[j]? = some u → w.cell? (ad.add j) = some u

/-- Bytes do not lie where a device's head lies. -/
theorem bytes_off {w : World} {p bs : Nat} {uv : Value} {us : List UW} {m : Dv} (h : DevAt w p bs uv us m) {a : Option Addr} {n : Nat} {b : List UInt8} (hb : BytesIn w a n b) (ad : Addr) (had : a = some ad) (hne : bvs b ≠ []) : ad.block ≠ p := by
  intro e
  obtain ⟨x, l, rfl⟩ : ∃ x l, b = x :: l := by
    cases b with
    | nil => exact absurd rfl hne
    | cons x l => exact ⟨x, l, rfl⟩
  have hc := hb.cell ad had 0 (bv x) rfl
  obtain ⟨blk, off, sp⟩ := ad
  simp only at e
  subst e
  have hs : sp = none := by simpa [Addr.add] using World.cell?_spot hc
  subst hs
  rw [Addr.add_lit, cell_of_row w _ _ _ _ _ h.head] at hc
  match off, hc with
  | 0, hc => cases hc
  | 1, hc =>
    rcases h.list.2 with ⟨rfl, _⟩ | ⟨g, cap, cur, rfl, _, hg, _⟩ <;> cases hc
  | 2, hc => cases hc
  | 3, hc => cases hc
  | k + 4, hc => simp at hc

theorem write_any {S : Nat → Prop} {p : Nat} {m : Dv} (pos : Int) (a : Option Addr) (n c : Nat) (b : List UInt8) (w : World) (hd : Dev w S p m) (few : m.unsure.length < 1099511627776) (hb : BytesIn w a n b) :
    Calls Try.prog 20 #[.pointer (some ⟨p, 0, none⟩), .int .i64 pos, .slice a n c] w fun e w' => e = .returned (.int .i64 (m.write pos b).2) ∧ Dev w' (Grow S w w') p (m.write pos b).1 ∧ Fr (Wr S w) w w' := by
  by_cases h0 : m.code pos = 0
  · by_cases h1 : 512 < b.length
    · have e : m.write pos b = (m, 1) := by simp [Dv.write, h0, h1]
      rw [e]
      refine (write_long pos a n c w hd h0 (by rw [← hb.len]; exact h1)).mono fun e w' hh => ?_
      obtain ⟨rfl, rfl⟩ := hh
      exact ⟨rfl, hd.grow, Fr.refl _ _⟩
    · obtain ⟨bs, uv, us, h, hp, hbs, hv, hu, hl⟩ := hd
      by_cases h2 : m.limit = 1
      · have e : m.write pos b = (m.spent, 8) := by simp [Dv.write, h0, h1, h2]
        rw [e]
        refine (write_cut h pos a n c h0 (by rw [← hb.len]; omega) h2).mono fun e w' hh => ?_
        have hd' : Dev w' S p m.spent := ⟨bs, uv, us, hh.2.1, hp, hbs, hv, hu, fun k hk => Nat.lt_of_lt_of_le (hl k hk) hh.2.2.size⟩
        exact ⟨hh.1, hd'.grow, hh.2.2.mono (fun i _ e => e ▸ ⟨hp, h.dt_p⟩)⟩
      · obtain ⟨-, k, rfl, hk⟩ := code_zero h0
        have e : m.write k b = ({ m.spent with unsure := m.unsure ++ [(k, pad b)] }, 0) := by simp [Dv.write, h0, h1, h2]
        rw [e]
        have few' : us.length < 1099511627776 := by have := h.eq; rw [this] at few; simpa using few
        refine (write_ok h few' k a b n c h0 hk hb.len (by rw [← hb.len]; omega) h2 hb.nil hb.cell (fun ad had hne e => bytes_off h hb ad had hne e)).mono fun e w' hh => ?_
        obtain ⟨rfl, uv', us', hd', hf, hv', hu'⟩ := hh
        refine ⟨rfl, ⟨bs, uv', us', hd', .inl hp, .inl hbs, ?_, ?_, ?_⟩, hf.mono (fun i _ e => by rcases e with e | e; exact e ▸ ⟨hp, h.dt_p⟩; exact ⟨hv i e, h.dt_uv i e⟩)⟩
        · intro i hi
          rcases hv' i hi with h3 | h3
          · exact .inl (hv i h3)
          · exact .inr ⟨h3, (hd'.list.lt i hi).2⟩
        · intro u hu2
          rcases hu' u hu2 with h3 | h3
          · exact .inl (hu u h3)
          · exact .inr ⟨h3, (hd'.data u hu2).1.lt⟩
        · intro i hi
          rcases hi with hi | hi
          · exact Nat.lt_of_lt_of_le (hl i hi) hf.size
          · exact hi.2
  · have e : m.write pos b = (m, m.code pos) := by simp [Dv.write, h0]
    rw [e]
    refine (write_err pos _ w hd h0).mono fun e w' hh => ?_
    obtain ⟨rfl, rfl⟩ := hh
    exact ⟨rfl, hd.grow, Fr.refl _ _⟩

/-- What Read answers: an error, or bytes. -/
def Dv.rd (m : Dv) (pos : Int) : Except Int (List UInt8) :=
  if m.code pos ≠ 0 then .error (m.code pos) else match m.seen pos.toNat with
    | none => .error 9
    | some b => .ok b

/-- Bytes and an error, in memory. -/
def bytesOrErr (w : World) (r : Except Int (List UInt8)) (e : Ending) (w' : World) : Prop :=
  match r with
  | .error x => e = .returned (.tuple #[.slice none 0 0, .int .i64 x]) ∧ w' = w
  | .ok b => ∃ g c, e = .returned (.tuple #[.slice (some ⟨g, 0, none⟩) b.length c, .int .i64 0]) ∧ Row w' g 5 (bvs b) ∧ (b.length ≤ c ∧ c ≤ maxLen) ∧ w.heap.size ≤ g ∧ Fr No w w'

theorem seen_len {m : Dv} (h : m.Wf) {k : Nat} {b : List UInt8} (hs : m.seen k = some b) : b.length = 512 := by
  unfold Dv.seen lastTo at hs
  split at hs
  · rename_i x hx
    rw [Option.map_eq_some_iff] at hx
    obtain ⟨u, hu, rfl⟩ := hx
    cases hs
    exact h.wsize u (List.mem_reverse.1 (List.mem_of_find?_eq_some hu))
  · split at hs
    · rename_i s hs'
      split at hs
      · cases hs
      · cases hs; exact h.size s (List.mem_of_getElem? hs')
    · cases hs

theorem read_any {S : Nat → Prop} {p : Nat} {m : Dv} (pos : Int) (w : World) (hd : Dev w S p m) (few : m.unsure.length ≤ 1099511627776) :
    Calls Try.prog 23 #[.pointer (some ⟨p, 0, none⟩), .int .i64 pos] w fun e w' => bytesOrErr w (m.rd pos) e w' := by
  by_cases h0 : m.code pos = 0
  · obtain ⟨hdn, k, rfl, hk⟩ := code_zero h0
    obtain ⟨bs, uv, us, h, hp, hbs, hv, hu, hl⟩ := hd
    have few' : us.length ≤ 1099511627776 := by have := h.eq; rw [this] at few; simpa using few
    have hfin : ∀ e w', readPost w (m.seen k) e w' → bytesOrErr w (m.rd k) e w' := by
      intro e w' hr
      have e1 : m.rd k = match m.seen k with | none => .error 9 | some b => .ok b := by simp [Dv.rd, h0]
      rw [e1]
      cases hs : m.seen k with
      | none => rw [hs] at hr; exact hr
      | some b =>
        rw [hs] at hr
        have := seen_len h.wf hs
        show ∃ g c, _
        rw [this]
        exact hr
    rcases h.shape with ⟨rfl, rfl⟩ | ⟨ub, c, rfl, hr⟩
    · exact (read_empty h k hk hdn).mono hfin
    · exact (read_full h hr few' k hk hdn).mono hfin
  · refine (read_err pos w hd h0).mono fun e w' hh => ?_
    have e1 : m.rd pos = .error (m.code pos) := by simp [Dv.rd, h0]
    rw [e1]
    exact hh

end Go.Proofs.Ytpimjachhfnlfaa
