/-
  seglog's Append. No condition but that the log is up, and the numbers are not great.
-/
import Derived.Test.YtpimjachhfnlfaaSPush
import Derived.Deep.RegionHeld3
namespace Go.Proofs.Ytpimjachhfnlfaa
open Go.RowKit

/-- The i-th piece of a record. -/
def piece (b : List UInt8) (i : Nat) : List UInt8 := (b.drop (i * 496)).take 496

/-- The head of a record's i-th sector. -/
def recHd (L : Lg) (n i : Nat) : Hd := ⟨2, L.blk.epoch, L.blk.first + L.list.length, i, n⟩

def recSec (L : Lg) (b : List UInt8) (n i : Nat) : List UInt8 := sealB (recHd L n i) (piece b i)

/-- The writes of a record's first sectors, up to the one that fails. -/
def wrs (m : Dv) (L : Lg) (b : List UInt8) (n : Nat) : Nat → Dv × Int
  | 0 => (m, 0)
  | i + 1 => if (wrs m L b n i).2 ≠ 0 then wrs m L b n i else (wrs m L b n i).1.write ((m.pos (L.fin + i) : Nat) : Int) (recSec L b n i)

theorem piece_len (b : List UInt8) (i : Nat) : (piece b i).length ≤ 496 := by unfold piece; rw [List.length_take]; omega

theorem wrs_len (m : Dv) (L : Lg) (b : List UInt8) (n i : Nat) : (wrs m L b n i).1.sure.length = m.sure.length := by
  induction i with
  | zero => rfl
  | succ i ih =>
    unfold wrs
    split
    · exact ih
    · have : ∀ (m : Dv) (k : Int) (b : List UInt8), (m.write k b).1.sure = m.sure := by
        intro m k b
        unfold Dv.write
        split
        · rfl
        · split
          · rfl
          · split <;> exact spent_sure m
      rw [this]; exact ih

theorem wrs_few (m : Dv) (L : Lg) (b : List UInt8) (n i : Nat) : (wrs m L b n i).1.unsure.length ≤ m.unsure.length + i := by
  induction i with
  | zero => exact Nat.le_refl _
  | succ i ih =>
    unfold wrs
    split
    · omega
    · have := write_few (wrs m L b n i).1 ((m.pos (L.fin + i) : Nat) : Int) (recSec L b n i)
      omega

theorem wrs_stay {m : Dv} {L : Lg} {b : List UInt8} {n i : Nat} (h : (wrs m L b n i).2 ≠ 0) : ∀ j, i ≤ j → wrs m L b n j = wrs m L b n i := by
  intro j hj
  induction j with
  | zero => have : i = 0 := by omega
            rw [this]
  | succ j ih =>
    rcases Nat.lt_or_ge i (j + 1) with hlt | hge
    · have e := ih (by omega)
      show (if (wrs m L b n j).2 ≠ 0 then _ else _) = _
      rw [e, if_pos h]
    · have : i = j + 1 := by omega
      rw [this]

/-- What Append leaves: the device, the log, the number, the error. -/
def appendM (m : Dv) (L : Lg) (b : List UInt8) : Dv × Lg × Int × Int :=
  let n := partsN b.length
  let r := wrs m L b n n
  if r.2 ≠ 0 then (r.1, { L with down := r.2 == 8 }, 0, r.2)
  else (r.1, { L with list := L.list ++ [(L.fin, n)], fin := L.fin + n }, ((L.blk.first + L.list.length : Nat) : Int), 0)

theorem down_stays {L : Lg} (h : L.down = false) : { L with down := L.down || ((0 : Int) == 8) } = L := by
  cases L
  rename_i d
  obtain rfl : d = false := h
  rfl

/-- A piece of bytes in memory. -/
theorem BytesIn.cut {w : World} {bb bo n : Nat} {b : List UInt8} (h : BytesIn w (some ⟨bb, bo, none⟩) n b) (i : Nat) (k : Nat) (hk : k = min ((i + 1) * 496) n - i * 496) (hi : i * 496 ≤ n) : BytesIn w (some ⟨bb, bo + i * 496, none⟩) k (piece b i) := by
  have hl := h.len
  refine ⟨?_, (fun e => by cases e), fun ad had j u hu => ?_⟩
  · unfold piece
    rw [List.length_take, List.length_drop, hk]
    omega
  · cases had
    rw [Addr.add_lit]
    unfold piece bvs at hu
    rw [List.map_take, List.map_drop, List.getElem?_take] at hu
    split at hu
    · rw [List.getElem?_drop] at hu
      have := h.cell _ rfl _ u hu
      rw [Addr.add_lit] at this
      rw [show bo + i * 496 + j = bo + (i * 496 + j) by omega]
      exact this
    · cases hu

set_option maxRecDepth 100000 in
theorem append_large {w0 w : World} {q p : Nat} {m : Dv} {L : Lg} (a : Option Addr) (n c : Nat) (h : OwnL w0 w q p m L) (h1 : L.down = false) (h2 : m.down = false) (hn : 16384 < n) (hn2 : n ≤ 1152921504606846976) :
    Calls Try.prog 67 #[.pointer (some ⟨q, 0, none⟩), .slice a n c] w fun e w' => e = .returned (.tuple #[.int .i64 0, .int .i64 4]) ∧ w' = w := by
  have H1 := hid (lcheck_ok h h1 h2)
  have H2 := hid (parts_any n w hn2)
  have hb : (16384 : Int) < (n : Int) := by omega
  clear h h1 h2
  go_enter Try.func67, Try.ntmps67
  go_wp2_with fail
  refine H1.out.mono ?_
  rintro e w' ⟨rfl, rfl⟩
  go_wp2_with fail
  refine H2.out.mono ?_
  rintro e w' ⟨rfl, rfl⟩
  go_wp2_with fail
  go_ret2
  exact ⟨rfl, rfl⟩

set_option maxRecDepth 100000 in
theorem append_full {w0 w : World} {q p : Nat} {m : Dv} {L : Lg} (a : Option Addr) (n c : Nat) (h : OwnL w0 w q p m L) (h1 : L.down = false) (h2 : m.down = false) (hn : n ≤ 16384) (hr : L.room m < (partsN n : Nat)) :
    Calls Try.prog 67 #[.pointer (some ⟨q, 0, none⟩), .slice a n c] w fun e w' => e = .returned (.tuple #[.int .i64 0, .int .i64 10]) ∧ ∃ k, w' = w.drewN k := by
  have H1 := hid (lcheck_ok h h1 h2)
  have H2 := hid (parts_any n w (by omega))
  have H3 := hid (room_any h)
  have hb : ¬ (16384 : Int) < (n : Int) := by omega
  generalize L.room m = rm at *
  generalize partsN n = pn at *
  clear h h1 h2
  go_enter Try.func67, Try.ntmps67
  go_wp2_with fail
  refine H1.out.mono ?_
  rintro e w' ⟨rfl, rfl⟩
  go_wp2_with fail
  refine H2.out.mono ?_
  rintro e w' ⟨rfl, rfl⟩
  go_wp2_with fail
  refine H3.out.mono ?_
  rintro e w' ⟨rfl, k, rfl⟩
  go_wp2_with fail
  go_ret2
  exact ⟨rfl, _, rfl⟩

theorem recHd_fit {L : Lg} {n i : Nat} (he : L.blk.epoch < 4294967296) (hs : L.blk.first + L.list.length < 72057594037927936) (hn : n < 256) (hi : i < 256) : (recHd L n i).Fit :=
  ⟨by show 2 < 2 ^ (8 * 1); decide, by show L.blk.epoch < 2 ^ (8 * 4); exact he, by show L.blk.first + L.list.length < 2 ^ (8 * 7); exact hs, by show i < 2 ^ (8 * 1); exact hi, by show n < 2 ^ (8 * 1); exact hn⟩

theorem recSec_len (L : Lg) (b : List UInt8) (n i : Nat) : (recSec L b n i).length = 512 := sealB_len _ _ (piece_len b i)

theorem seal_rec (L : Lg) (pn j : Nat) (a : Option Addr) (k c : Nat) (b : List UInt8) (w : World) (hb : BytesIn w a k (piece b j)) (hnil : a = none → c = 0) (he : L.blk.epoch < 4294967296) (hsq : L.blk.first + L.list.length < 72057594037927936) (hpn : pn < 256) (hj : j < pn) :
    Calls Try.prog 86 #[.agg #[.int .i64 2, .int .i64 L.blk.epoch, .int .i64 ((L.blk.first : Int) + (L.list.length : Int)), .int .i64 j, .int .i64 pn], .slice a k c] w fun e w' => Fr No w w' ∧ ∃ g c', e = .returned (.tuple #[.slice (some ⟨g, 0, none⟩) 512 c', .int .i64 0]) ∧ Row w' g 5 (bvs (recSec L b pn j)) ∧ 512 ≤ c' ∧ w.heap.size ≤ g := by
  have hk : k ≤ 496 := by have := hb.len; have := piece_len b j; omega
  have h := seal_any (recHd L pn j) a k c (piece b j) w hb hnil hk (recHd_fit he hsq hpn (by omega))
  refine Calls.mono (show Calls Try.prog 86 #[(recHd L pn j).val, .slice a k c] w _ from h) fun e w' hh => ?_
  obtain ⟨hf, hcase⟩ := hh
  refine ⟨hf, ?_⟩
  rcases hcase with ⟨hbad, -⟩ | ⟨-, g, c', r⟩
  · exfalso
    rcases hbad with h | h | h
    · exact absurd h (by show ¬ (2 = 0); decide)
    · have : pn = 0 := h
      omega
    · have : pn ≤ j := h
      omega
  · exact ⟨g, c', r⟩

set_option maxRecDepth 100000 in
set_option maxHeartbeats 16000000 in
theorem append_ok {w0 w : World} {q p : Nat} {m : Dv} {L : Lg} (a : Option Addr) (n c : Nat) (b : List UInt8) (h : OwnL w0 w q p m L) (h1 : L.down = false) (h2 : m.down = false) (h3 : 3 ≤ m.sure.length) (hn : n ≤ 16384) (hr : (partsN n : Nat) ≤ L.room m) (hc : n ≤ c) (h0 : 0 < n)
    (hb : ∀ W, Fr (LW w0 w) w W → BytesIn W a n b) (he : L.blk.epoch < 4294967296) (hsq : L.blk.first + L.list.length < 72057594037927936) (few : m.unsure.length + 40 < 1099511627776) (hfb : L.fin + 40 < 1152921504606846976) (hmb : L.list.length + 1 < 1099511627776) :
    Calls Try.prog 67 #[.pointer (some ⟨q, 0, none⟩), .slice a n c] w fun e w' => e = .returned (.tuple #[.int .i64 (appendM m L b).2.2.1, .int .i64 (appendM m L b).2.2.2]) ∧ OwnL w0 w' q p (appendM m L b).1 (appendM m L b).2.1 ∧ Fr (LW w0 w) w w' := by
  have hbl : b.length = n := (hb w (Fr.refl _ _)).len
  have H1 := hid (lcheck_ok h h1 h2)
  have H2 := hid (parts_any n w (by omega))
  have H3 := hid (room_any h)
  have HO := hid h
  have HB := hid hb
  have HE := hid he
  have HSQ := hid hsq
  have HD1 := hid h1
  have hpn : partsN n ≤ 34 ∧ 1 ≤ partsN n := by unfold partsN; omega
  have hpl : Hid (∀ i, i < partsN n → i = 0 ∨ i * 496 < n) := by
    intro i hi
    unfold partsN at hi
    omega
  have hbl2 : Hid (b.length = n) := hbl
  have hroom : Hid ((partsN b.length : Nat) = partsN n) := by show _ = _; rw [hbl]
  have hbig : ¬ (16384 : Int) < (n : Int) := by omega
  have hrr : ¬ L.room m < ((partsN n : Nat) : Int) := by omega
  obtain ⟨pn, hpn2⟩ : ∃ pn, pn = partsN n := ⟨_, rfl⟩
  rw [← hpn2] at hpn hpl hroom hrr H2
  have HAM : Hid (appendM m L b = if (wrs m L b pn pn).2 ≠ 0 then ((wrs m L b pn pn).1, { L with down := (wrs m L b pn pn).2 == 8 }, 0, (wrs m L b pn pn).2) else ((wrs m L b pn pn).1, { L with list := L.list ++ [(L.fin, pn)], fin := L.fin + pn }, ((L.blk.first + L.list.length : Nat) : Int), 0)) := by
    show _ = _
    unfold appendM
    rw [hroom.out]
  obtain ⟨res, hres⟩ : ∃ res, res = appendM m L b := ⟨_, rfl⟩
  rw [← hres] at HAM ⊢
  obtain ⟨rm, hrm⟩ : ∃ rm, rm = L.room m := ⟨_, rfl⟩
  rw [← hrm] at hrr H3
  obtain ⟨hp34, hp1⟩ := hpn
  clear h h1 h2 hb he hsq hbl hr hpn2 hres hrm
  go_enter Try.func67, Try.ntmps67
  go_wp2_with fail
  refine H1.out.mono ?_
  rintro e w' ⟨rfl, rfl⟩
  go_wp2_with fail
  refine H2.out.mono ?_
  rintro e w' ⟨rfl, rfl⟩
  go_wp2_with fail
  refine H3.out.mono ?_
  rintro e w' ⟨rfl, k0, rfl⟩
  have O1 := hid (HO.out.next (Fr.drewN w' k0))
  have HN1 := hid (next_any O1.out)
  go_wp2_with fail
  refine HN1.out.mono ?_
  rintro e w2 ⟨rfl, k1, rfl⟩
  have O2 := hid (O1.out.next (Fr.drewN _ k1))
  have F2 : Hid (Fr (LW w0 w') w' ((w'.drewN k0).drewN k1)) := (Fr.drewN _ _).step (Fr.drewN _ _)
  generalize (w'.drewN k0).drewN k1 = w2 at *
  go_wp2_with fail
  go_loopw [4, 33] (fun v i wr => ∃ j : Nat, j ≤ pn ∧ i = .int .i64 j ∧ v = .int .i64 ((L.blk.first : Int) + (L.list.length : Int)) ∧ Hid ((wrs m L b pn j).2 = 0) ∧ Hid (OwnL w0 wr q p (wrs m L b pn j).1 L) ∧ Hid (Fr (LW w0 w') w' wr)) (fun _ i _ => pn - (intOf i).toNat)
  case atStart => exact ⟨0, Nat.zero_le _, rfl, rfl, rfl, O2.out, F2.out⟩
  case round =>
    obtain ⟨j, hj, rfl, rfl, hok, ho, hf⟩ := hrel
    by_cases hlt : j < pn
    · have HJ := hid hlt
      have hj34 : j < 34 := by omega
      obtain ⟨lv, hl, hlk⟩ := ho.out.log
      have c0 := hl.c0
      have c2 := hl.c2
      have c7 := hl.c7
      have HLA := hid hl
      have hj496 : j * 496 < n := by rcases hpl.out j hlt with h | h <;> omega
      obtain ⟨bb, bo, rfl, -⟩ := (HB.out wr hf.out).at (by omega)
      by_cases hle : (j + 1) * 496 ≤ n
      · have i1 : ((j : Int) + 1) * 496 ≤ (n : Int) := by omega
        have i2 : ¬ (n : Int) < ((j : Int) + 1) * 496 := by omega
        have i3 : (j : Int) * 496 < (n : Int) := by omega
        have i4 : (n : Int) ≤ (c : Int) := by omega
        have hsl := hid (seal_rec L pn j (some ⟨bb, bo + j * 496, none⟩) ((j + 1) * 496 - j * 496) (c - j * 496) b wr ((HB.out wr hf.out).cut j _ (by omega) (by omega)) (fun e => by cases e) HE.out HSQ.out (by omega) hlt)
        have hlat := hid (fun W (h : OwnL w0 W q p (wrs m L b pn j).1 L) => (show Calls Try.prog 119 #[.pointer (some ⟨q, 0, none⟩), .int .i64 ((L.fin : Int) + (j : Int))] W _ from lat_any (L.fin + j) h (by rw [wrs_len]; exact h3) (by have := ho.out.small.fin; omega)))
        have hwrap : IntKind.i64.wrap ((L.fin : Int) + (j : Int)) = (L.fin : Int) + (j : Int) := IntWalk.i64_in _ (by have := ho.out.small.fin; omega)
        have hfew : Hid ((wrs m L b pn j).1.unsure.length < 1099511627776) := by have := wrs_few m L b pn j; show _ < _; omega
        clear hl
        go_wp2_with fail
        refine hsl.out.mono ?_
        rintro e w4 ⟨hf4, g4, c4, rfl, hr4, hc4, hg4⟩
        have O4 := hid (ho.out.next hf4)
        have F4 := hid (hf.out.step hf4.any)
        have R4 := hid hr4
        have d0 := hf4.cell c0 id
        have d7 := hf4.cell c7 id
        clear hf4 hr4 hc4 hg4 c0 c2 c7
        have hwr := hid (fun (pos : Int) W (h : Own w0 W p (wrs m L b pn j).1) (hb : BytesIn W (some ⟨g4, 0, none⟩) 512 (recSec L b pn j)) => own_writeU pos (some ⟨g4, 0, none⟩) 512 c4 (recSec L b pn j) h hfew.out hb)
        obtain ⟨r1, r2, hr⟩ : ∃ r1 r2, (r1, r2) = (wrs m L b pn j).1.write ((m.pos (L.fin + j) : Nat) : Int) (recSec L b pn j) := ⟨_, _, rfl⟩
        have hpos : Hid ((((wrs m L b pn j).1.pos (L.fin + j) : Nat) : Int) = ((m.pos (L.fin + j) : Nat) : Int)) := by show _ = _; unfold Dv.pos; rw [wrs_len]
        have hwr := hid (hwr.out ((m.pos (L.fin + j) : Nat) : Int))
        rw [hpos.out] at hlat
        rw [← hr] at hwr
        have HR : Hid (wrs m L b pn (j + 1) = (r1, r2)) := by
          show _ = _
          rw [hr]
          show (if (wrs m L b pn j).2 ≠ 0 then _ else _) = _
          rw [if_neg (by rw [hok.out]; decide)]
        clear hr hpos
        generalize ((m.pos (L.fin + j) : Nat) : Int) = pos at *
        obtain ⟨md, hmd⟩ : ∃ md, md = (wrs m L b pn j).1 := ⟨_, rfl⟩
        rw [← hmd] at hwr hlat O4
        clear hmd
        have O5 := hid (O4.out.next (Fr.drew (S := No) w4))
        have R5 := hid (R4.out.fr0 (Fr.drew (S := No) w4))
        have F5 := hid (F4.out.step (Fr.drew (S := LW w0 w') w4))
        go_wp2_with fail
        go_region_held3 (fun W => W.cell? ⟨q, 0, none⟩ = some (.pointer (some ⟨p, 0, none⟩)) ∧ W.cell? ⟨q, 7, none⟩ = some (.int .i64 L.fin))
          (first | exact ⟨by assumption, by assumption⟩ | go_keep)
          (first
          | (go_at_call 119; refine (hlat.out _ O5.out).mono ?_; rintro e w' ⟨rfl, rfl⟩)
          | (go_at_call 20; refine (hwr.out _ O5.out.dev (R5.out.bytes (recSec_len L b pn j))).mono ?_; rintro e w6 ⟨rfl, h6, f6⟩; have O6 := hid (O5.out.dev' h6 f6); have F6 := hid (Fr.lws (w0 := w0) F5.out f6.ofWrL); obtain ⟨lv6, hl6, -⟩ := O6.out.log; have e0 := hl6.c0; have e7 := hl6.c7; clear h6 f6 hl6)
          | (go_at_call 117; refine (did_any r2 O6.out).mono ?_; rintro e w7 ⟨rfl, h7, f7⟩; have O7 := hid h7; have F7 := hid (Fr.lws (w0 := w0) F6.out f7); obtain ⟨lv7, hl7, -⟩ := O7.out.log; have x0 := hl7.c0; have x7 := hl7.c7; clear h7 f7 hl7))
        all_goals
          by_cases hz : r2 = 0
          · subst hz
            have HZZ := hid (down_stays HD1.out)
            rw [HZZ.out] at O7
            go_wp2_with fail
            go_roundw
            case rel => exact ⟨j + 1, by omega, by go_num, rfl, by show _ = _; rw [HR.out], by show OwnL _ _ _ _ _ _; rw [HR.out]; exact O7.out, F7.out⟩
            case measure => simp [intOf]; omega
          · have HZZ := hid hz
            go_wp2_with fail
            go_ret2
            have e1 : wrs m L b pn pn = (r1, r2) := by rw [wrs_stay (i := j + 1) (by rw [HR.out]; exact HZZ.out) pn (by omega), HR.out]
            rw [HAM.out, e1, if_pos HZZ.out]
            refine ⟨rfl, ?_, F7.out⟩
            have := O7.out
            rw [HD1.out, Bool.false_or] at this
            exact this
      · have i1 : (n : Int) < ((j : Int) + 1) * 496 := by omega
        have i2 : ¬ ((j : Int) + 1) * 496 ≤ (n : Int) := by omega
        have i3 : (j : Int) * 496 < (n : Int) := by omega
        have i4 : (n : Int) ≤ (c : Int) := by omega
        have hsl := hid (seal_rec L pn j (some ⟨bb, bo + j * 496, none⟩) (n - j * 496) (c - j * 496) b wr ((HB.out wr hf.out).cut j _ (by omega) (by omega)) (fun e => by cases e) HE.out HSQ.out (by omega) hlt)
        have hlat := hid (fun W (h : OwnL w0 W q p (wrs m L b pn j).1 L) => (show Calls Try.prog 119 #[.pointer (some ⟨q, 0, none⟩), .int .i64 ((L.fin : Int) + (j : Int))] W _ from lat_any (L.fin + j) h (by rw [wrs_len]; exact h3) (by have := ho.out.small.fin; omega)))
        have hwrap : IntKind.i64.wrap ((L.fin : Int) + (j : Int)) = (L.fin : Int) + (j : Int) := IntWalk.i64_in _ (by have := ho.out.small.fin; omega)
        have hfew : Hid ((wrs m L b pn j).1.unsure.length < 1099511627776) := by have := wrs_few m L b pn j; show _ < _; omega
        clear hl
        go_wp2_with fail
        refine hsl.out.mono ?_
        rintro e w4 ⟨hf4, g4, c4, rfl, hr4, hc4, hg4⟩
        have O4 := hid (ho.out.next hf4)
        have F4 := hid (hf.out.step hf4.any)
        have R4 := hid hr4
        have d0 := hf4.cell c0 id
        have d7 := hf4.cell c7 id
        clear hf4 hr4 hc4 hg4 c0 c2 c7
        have hwr := hid (fun (pos : Int) W (h : Own w0 W p (wrs m L b pn j).1) (hb : BytesIn W (some ⟨g4, 0, none⟩) 512 (recSec L b pn j)) => own_writeU pos (some ⟨g4, 0, none⟩) 512 c4 (recSec L b pn j) h hfew.out hb)
        obtain ⟨r1, r2, hr⟩ : ∃ r1 r2, (r1, r2) = (wrs m L b pn j).1.write ((m.pos (L.fin + j) : Nat) : Int) (recSec L b pn j) := ⟨_, _, rfl⟩
        have hpos : Hid ((((wrs m L b pn j).1.pos (L.fin + j) : Nat) : Int) = ((m.pos (L.fin + j) : Nat) : Int)) := by show _ = _; unfold Dv.pos; rw [wrs_len]
        have hwr := hid (hwr.out ((m.pos (L.fin + j) : Nat) : Int))
        rw [hpos.out] at hlat
        rw [← hr] at hwr
        have HR : Hid (wrs m L b pn (j + 1) = (r1, r2)) := by
          show _ = _
          rw [hr]
          show (if (wrs m L b pn j).2 ≠ 0 then _ else _) = _
          rw [if_neg (by rw [hok.out]; decide)]
        clear hr hpos
        generalize ((m.pos (L.fin + j) : Nat) : Int) = pos at *
        obtain ⟨md, hmd⟩ : ∃ md, md = (wrs m L b pn j).1 := ⟨_, rfl⟩
        rw [← hmd] at hwr hlat O4
        clear hmd
        have O5 := hid (O4.out.next (Fr.drew (S := No) w4))
        have R5 := hid (R4.out.fr0 (Fr.drew (S := No) w4))
        have F5 := hid (F4.out.step (Fr.drew (S := LW w0 w') w4))
        go_wp2_with fail
        go_region_held3 (fun W => W.cell? ⟨q, 0, none⟩ = some (.pointer (some ⟨p, 0, none⟩)) ∧ W.cell? ⟨q, 7, none⟩ = some (.int .i64 L.fin))
          (first | exact ⟨by assumption, by assumption⟩ | go_keep)
          (first
          | (go_at_call 119; refine (hlat.out _ O5.out).mono ?_; rintro e w' ⟨rfl, rfl⟩)
          | (go_at_call 20; refine (hwr.out _ O5.out.dev (R5.out.bytes (recSec_len L b pn j))).mono ?_; rintro e w6 ⟨rfl, h6, f6⟩; have O6 := hid (O5.out.dev' h6 f6); have F6 := hid (Fr.lws (w0 := w0) F5.out f6.ofWrL); obtain ⟨lv6, hl6, -⟩ := O6.out.log; have e0 := hl6.c0; have e7 := hl6.c7; clear h6 f6 hl6)
          | (go_at_call 117; refine (did_any r2 O6.out).mono ?_; rintro e w7 ⟨rfl, h7, f7⟩; have O7 := hid h7; have F7 := hid (Fr.lws (w0 := w0) F6.out f7); obtain ⟨lv7, hl7, -⟩ := O7.out.log; have x0 := hl7.c0; have x7 := hl7.c7; clear h7 f7 hl7))
        all_goals
          by_cases hz : r2 = 0
          · subst hz
            have HZZ := hid (down_stays HD1.out)
            rw [HZZ.out] at O7
            go_wp2_with fail
            go_roundw
            case rel => exact ⟨j + 1, by omega, by go_num, rfl, by show _ = _; rw [HR.out], by show OwnL _ _ _ _ _ _; rw [HR.out]; exact O7.out, F7.out⟩
            case measure => simp [intOf]; omega
          · have HZZ := hid hz
            go_wp2_with fail
            go_ret2
            have e1 : wrs m L b pn pn = (r1, r2) := by rw [wrs_stay (i := j + 1) (by rw [HR.out]; exact HZZ.out) pn (by omega), HR.out]
            rw [HAM.out, e1, if_pos HZZ.out]
            refine ⟨rfl, ?_, F7.out⟩
            have := O7.out
            rw [HD1.out, Bool.false_or] at this
            exact this
    · have hjp : pn = j := by omega
      subst hjp
      obtain ⟨lv, hl, hlk⟩ := ho.out.log
      have c6 := hl.c6
      have c7 := hl.c7
      have e6 := (fun (o : Obj) => (Fr.alloc (S := No) wr o).cell c6 id)
      have e7 := (fun (o : Obj) => (Fr.alloc (S := No) wr o).cell c7 id)
      have HLA := hid hl
      have HLK := hid hlk
      obtain ⟨ir, hir, hr0, hr1, hr2⟩ := info_parts info_rec
      have hbn : IntKind.i64.wrap ((L.fin : Int) + (pn : Int)) = (L.fin : Int) + (pn : Int) := IntWalk.i64_in _ (by have := ho.out.small.fin; omega)
      have hmany := ho.out.small.many
      have hfin := ho.out.small.fin
      clear hl hlk H1 H2 H3 HN1 hlt
      go_wp2_with fail
      go_region_law (first
        | (have FX : Hid (Fr No wr ((wr.alloc (.cells #[.int .i64 L.fin, .int .i64 pn] 181)).drew)) := (Fr.alloc wr _).step (Fr.drew _); refine step_append_at rfl (.tmp 84) (.tmp 91) 174 rfl 181 ir _ 2 16 Try.underlying174 hir hr0 hr1 hr2 rfl (by decide) lv L.list.length (L.list.flatMap recCells) rfl (owns_fr HLA.out.list FX.out (fun _ _ => id)) ⟨wr.heap.size, 0, none⟩ 1 1 [.int .i64 L.fin, .int .i64 pn] rfl rfl (by intro i u hi; match i, hi with | 0, hi => simp at hi; subst hi; simp [Addr.add] | 1, hi => simp at hi; subst hi; simp [Addr.add]) (by intro u hu; simp at hu; rcases hu with rfl | rfl <;> rfl) (by decide) (by unfold maxLen; omega) (by omega) ?_; intro g3 c3 w3 ho3 hg3 hf3; have hh3 := hf3.out.heap (FX.out.heap0 HLA.out.head) (fun e => HLA.out.q_ne q e rfl); have d6 := cell_of_row w3 q 6 _ _ _ hh3; have d7 := cell_of_row w3 q 7 _ _ _ hh3; have g6 := frozen_of_row w3 q 6 _ _ hh3; have g7 := frozen_of_row w3 q 7 _ _ hh3; have HH3 := hid hh3; clear hh3)
        | (have FX : Hid (Fr No wr (wr.drew.alloc (.cells #[.int .i64 L.fin, .int .i64 pn] 181))) := (Fr.drew wr).step (Fr.alloc _ _); refine step_append_at rfl (.tmp 84) (.tmp 91) 174 rfl 181 ir _ 2 16 Try.underlying174 hir hr0 hr1 hr2 rfl (by decide) lv L.list.length (L.list.flatMap recCells) rfl (owns_fr HLA.out.list FX.out (fun _ _ => id)) ⟨wr.drew.heap.size, 0, none⟩ 1 1 [.int .i64 L.fin, .int .i64 pn] rfl rfl (by intro i u hi; match i, hi with | 0, hi => simp at hi; subst hi; simp [Addr.add] | 1, hi => simp at hi; subst hi; simp [Addr.add]) (by intro u hu; simp at hu; rcases hu with rfl | rfl <;> rfl) (by decide) (by unfold maxLen; omega) (by omega) ?_; intro g3 c3 w3 ho3 hg3 hf3; have hh3 := hf3.out.heap (FX.out.heap0 HLA.out.head) (fun e => HLA.out.q_ne q e rfl); have d6 := cell_of_row w3 q 6 _ _ _ hh3; have d7 := cell_of_row w3 q 7 _ _ _ hh3; have g6 := frozen_of_row w3 q 6 _ _ hh3; have g7 := frozen_of_row w3 q 7 _ _ hh3; have HH3 := hid hh3; clear hh3))
      all_goals
        clear e6 e7 c6 c7
        go_wp2_with fail
        go_ret2
        have hpush := OwnL.pushed (g := g3) (c := c3) pn (ho.out.dev.next FX.out) (HLA.out.fr FX.out id (fun _ _ => id)) HLK.out ho.out.new ho.out.small hf3.out ho3.out hg3.out (by omega) (by omega)
        rw [HAM.out, if_neg (by rw [hok.out]; decide)]
        exact ⟨rfl, hpush.1, (hf.out.step FX.out.any).lws hpush.2⟩

end Go.Proofs.Ytpimjachhfnlfaa
