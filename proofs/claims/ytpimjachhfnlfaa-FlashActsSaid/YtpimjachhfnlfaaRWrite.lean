/-
  The document's device: Write. No condition but that fewer than 2^40 writes are open.
-/
import Derived.Test.YtpimjachhfnlfaaRRead
namespace Go.Proofs.Ytpimjachhfnlfaa
open Go.RowKit

theorem RDevAt.slices {w : World} {q : Nat} {sv uv : Value} {ss : List RS} {us : List UW} {m : Dv} (h : RDevAt w q sv uv ss us m) : (∃ ao ac, sv = .slice ao m.sure.length ac) ∧ ∃ uo uc, uv = .slice uo us.length uc := by
  constructor
  · rcases h.sure.2 with ⟨h1, h2⟩ | ⟨g, cap, cur, h1, _⟩
    · have := h.len
      exact ⟨_, _, by rw [h1, show m.sure.length = 0 by omega]⟩
    · have := h.len
      exact ⟨_, _, by rw [h1, this]⟩
  · rcases h.list.2 with ⟨h1, h2⟩ | ⟨g, cap, cur, h1, _⟩
    · exact ⟨_, _, by rw [h1, h2]⟩
    · exact ⟨_, _, h1⟩

theorem rwrite_err {w : World} {q : Nat} {sv uv : Value} {ss : List RS} {us : List UW} {m : Dv} (pos : Int) (a : Option Addr) (n c : Nat) (h : RDevAt w q sv uv ss us m) (hc : m.code pos ≠ 0 ∨ 512 < n) :
    Calls Try.prog 27 #[.pointer (some ⟨q, 0, none⟩), .int .i64 pos, .slice a n c] w fun e w' => e = .returned (.int .i64 (if m.code pos ≠ 0 then m.code pos else 1)) ∧ w' = w := by
  have h0 := h.c0
  have h3 := h.c3
  obtain ⟨⟨ao, ac, hv⟩, -⟩ := h.slices
  rw [hv] at h0
  clear h hv
  by_cases hdown : m.down = true
  · rw [hdown] at h3
    have he : m.code pos = 8 := by simp [Dv.code, hdown]
    rw [he, if_pos (by decide)]
    clear he hc hdown
    go_enter Try.func27, Try.ntmps27
    go_wp2
    go_ret
    exact ⟨rfl, rfl⟩
  · have hdown : m.down = false := by simpa using hdown
    rw [hdown] at h3
    by_cases h1 : pos < 0
    · have he : m.code pos = 1 := by simp [Dv.code, hdown, h1]
      rw [he, if_pos (by decide)]
      clear he hc hdown
      go_enter Try.func27, Try.ntmps27
      go_wp2
      go_ret
      exact ⟨rfl, rfl⟩
    · by_cases h2 : (m.sure.length : Int) ≤ pos
      · have he : m.code pos = 1 := by simp [Dv.code, hdown, h1, h2]
        rw [he, if_pos (by decide)]
        clear he hc hdown
        go_enter Try.func27, Try.ntmps27
        go_wp2
        go_ret
        exact ⟨rfl, rfl⟩
      · have he : m.code pos = 0 := by simp [Dv.code, hdown, h1, h2]
        have hn : (512 : Int) < (n : Int) := by
          rcases hc with hc | hc
          · exact absurd he hc
          · omega
        rw [he, if_neg (by decide)]
        clear he hc hdown
        go_enter Try.func27, Try.ntmps27
        go_wp2
        go_ret
        exact ⟨rfl, rfl⟩

/-- Bytes do not lie where a device's head lies. -/
theorem rbytes_off {w : World} {q : Nat} {sv uv : Value} {ss : List RS} {us : List UW} {m : Dv} (h : RDevAt w q sv uv ss us m) {a : Option Addr} {n : Nat} {b : List UInt8} (hb : BytesIn w a n b) (ad : Addr) (had : a = some ad) (hne : bvs b ≠ []) : ad.block ≠ q := by
  intro e
  obtain ⟨x, l, rfl⟩ : ∃ x l, b = x :: l := by
    cases b with
    | nil => exact absurd rfl hne
    | cons x l => exact ⟨x, l, rfl⟩
  have hc := hb.cell ad had 0 (bv x) rfl
  obtain ⟨blk, off, sp⟩ := ad
  simp only at e
  subst e
  have hs : sp = none := by simpa [Addr.add] using World.cell?_spot hc
  subst hs
  obtain ⟨⟨ao, ac, hv⟩, uo, uc, hv2⟩ := h.slices
  rw [Addr.add_lit, cell_of_row w _ _ _ _ _ h.head, hv, hv2] at hc
  match off, hc with
  | 0, hc => cases hc
  | 1, hc => cases hc
  | 2, hc => cases hc
  | 3, hc => cases hc
  | k + 4, hc => simp at hc

theorem rwrite_cut {w : World} {q : Nat} {sv uv : Value} {ss : List RS} {us : List UW} {m : Dv} (k : Nat) (a : Option Addr) (n c : Nat) (h : RDevAt w q sv uv ss us m) (hk : k < m.sure.length) (hd : m.down = false) (hn : n ≤ 512) (hl : m.limit = 1) :
    Calls Try.prog 27 #[.pointer (some ⟨q, 0, none⟩), .int .i64 k, .slice a n c] w fun e w' => e = .returned (.int .i64 8) ∧ RDevAt w' q sv uv ss us m.spent ∧ Fr (· = q) w w' := by
  have hP := fun w' (e : w' = w) => rspend_at (e ▸ h) hd
  rw [show decide (m.limit ≠ 1) = false by simp [hl]] at hP
  have HP := hid hP
  have h0 := h.c0
  have h3 := h.c3
  obtain ⟨⟨ao, ac, hv⟩, -⟩ := h.slices
  rw [hv] at h0
  rw [hd] at h3
  clear h hv hP hd hl
  have b1 : (n : Int) ≤ 512 := by omega
  have b2 : (k : Int) < (m.sure.length : Int) := by omega
  go_enter Try.func27, Try.ntmps27
  go_wp2_with (go_at_call 79; refine (HP.out _ rfl).mono ?_; rintro e w' ⟨rfl, hd', hf'⟩)
  go_ret
  exact ⟨rfl, hd', hf'⟩

/-- The first j bytes, and noughts. -/
def padTo (b : List UInt8) (j : Nat) : List UInt8 := b.take j ++ List.replicate (512 - j) 0

theorem padTo_len (b : List UInt8) (j : Nat) (hj : j ≤ b.length) (h : b.length ≤ 512) : (padTo b j).length = 512 := by
  simp [padTo]; omega

theorem padTo_all (b : List UInt8) (j : Nat) (hj : b.length = j) : padTo b j = pad b := by
  unfold padTo pad
  rw [List.take_of_length_le (by omega), hj]

theorem padTo_set (b : List UInt8) (j : Nat) (hj : j < b.length) (h : b.length ≤ 512) : (bvs (padTo b j)).set j (bv b[j]) = bvs (padTo b (j + 1)) := by
  have e : padTo b j = b.take j ++ (0 :: List.replicate (512 - (j + 1)) 0) := by
    unfold padTo
    rw [show 512 - j = (512 - (j + 1)) + 1 by omega, List.replicate_succ]
  have e2 : padTo b (j + 1) = b.take j ++ (b[j] :: List.replicate (512 - (j + 1)) 0) := by
    unfold padTo
    rw [List.take_succ_eq_append_getElem hj, List.append_assoc]
    rfl
  have hl : (b.take j).length = j := by rw [List.length_take]; omega
  rw [e, e2]
  unfold bvs
  have hl2 : (List.map bv (b.take j)).length = j := by rw [List.length_map, hl]
  rw [List.map_append, List.map_append, List.set_append_right _ _ (by rw [hl2]; exact Nat.le_refl _), hl2, Nat.sub_self]
  rfl

set_option maxRecDepth 100000 in
set_option maxHeartbeats 2000000 in
theorem rwrite_ok {w : World} {q : Nat} {sv uv : Value} {ss : List RS} {us : List UW} {m : Dv} (k : Nat) (a : Option Addr) (n c : Nat) (b : List UInt8) (h : RDevAt w q sv uv ss us m) (hk : k < m.sure.length) (hd : m.down = false) (few : us.length < 1099511627776) (hn : n ≤ 512) (hl : m.limit ≠ 1) (hb : BytesIn w a n b) :
    Calls Try.prog 27 #[.pointer (some ⟨q, 0, none⟩), .int .i64 k, .slice a n c] w fun e w' => e = .returned (.int .i64 0) ∧
      ∃ uv' us', RDevAt w' q sv uv' ss us' { m.spent with unsure := m.unsure ++ [(k, pad b)] } ∧ Fr (fun i => i = q ∨ uv.ownBlock = some i) w w' ∧ (∀ i, uv'.ownBlock = some i → uv.ownBlock = some i ∨ w.heap.size ≤ i) ∧ (∀ u ∈ us', u ∈ us ∨ w.heap.size ≤ u.g) := by
  have hP := fun w' (e : w' = w) => rspend_at (e ▸ h) hd
  rw [show decide (m.limit ≠ 1) = true by simp [hl]] at hP
  have HP := hid hP
  obtain ⟨iw, hiw, hw0, hw1, hw2⟩ := info_parts info_write
  have h0 := h.c0
  have h3 := h.c3
  obtain ⟨⟨ao, ac, hv⟩, -⟩ := h.slices
  rw [hv] at h0
  rw [hd] at h3
  have b1 : (n : Int) ≤ 512 := by omega
  have b2 : (k : Int) < (m.sure.length : Int) := by omega
  have HB := hid hb
  have HO := hid (fun ad had hne => rbytes_off h hb ad had hne)
  have HH := hid h
  have HV := hid hv
  clear h hv hP hl hb
  go_enter Try.func27, Try.ntmps27
  go_wp2_with fail
  refine (HP.out _ rfl).mono ?_
  rintro e w1 ⟨rfl, hd1, hf1⟩
  have D1 := hid hd1
  have F1 := hid hf1
  have B1 : Hid (BytesIn w1 a n b) := by
    show BytesIn w1 a n b
    by_cases hne : bvs b = []
    · have : b = [] := by simpa [bvs] using hne
      subst this
      exact ⟨HB.out.len, HB.out.nil, fun ad _ j u hj => by cases hj⟩
    · exact HB.out.fr hf1 (fun ad had => HO.out ad had hne)
  clear hd1 hf1
  go_wp2_with fail
  refine (zero_any _).mono ?_
  rintro e w2 ⟨g, rfl, hr2, hg2, hf2⟩
  have D2 := hid (D1.out.fr0 hf2)
  have B2 := hid (B1.out.fr0 hf2)
  have F2 := hid hf2
  have G2 : Hid (w1.heap.size ≤ g) := hg2
  have R2 := hid hr2
  clear hr2 hg2 hf2
  have HN : Hid (b.length = n) := HB.out.len
  go_wp2_with fail
  go_loopw [8] (fun i wr => ∃ j : Nat, j ≤ n ∧ i = .int .i64 j ∧ Hid (wr.heap[g]? = some (.cells (bvs (padTo b j)).toArray 5 (0, 0))) ∧ Hid (Fr (· = g) w2 wr)) (fun i _ => n - (intOf i).toNat)
  case atStart => exact ⟨0, Nat.zero_le _, rfl, R2.out, Fr.refl _ _⟩
  case round =>
    obtain ⟨j, hj, rfl, hr, hf⟩ := hrel
    by_cases hlt : j < n
    · have hjb : Hid (j < b.length) := by have := HN.out; show j < b.length; omega
      obtain ⟨bb, bo, rfl, hcell⟩ := B2.out.at (by omega)
      have c0 := hcell j _ (show (bvs b)[j]? = some (bv (b[j]'hjb.out)) by simp [bvs, hjb.out])
      have hbg : bb ≠ g := by
        have h1 := B1.out.cell _ rfl j _ (show (bvs b)[j]? = some (bv (b[j]'hjb.out)) by simp [bvs, hjb.out])
        have h2 := block_lt_of_cell h1
        rw [add_block] at h2
        have := G2.out
        simp only at h2
        omega
      have c1 := hf.out.cell c0 hbg
      unfold bv at c1
      have HC1 := hid c1
      have d0 : wr.cell? ⟨g, j, none⟩ = some (.int .u8 0) := by
        rw [cell_of_row wr g j _ _ _ hr.out]
        have : (padTo b j)[j]? = some 0 := by
          unfold padTo
          rw [List.getElem?_append_right (by rw [List.length_take]; omega)]
          rw [List.length_take, show min j b.length = j by have := hjb.out; omega, Nat.sub_self, List.getElem?_replicate, if_pos (by omega)]
        simp [bvs, this, bv]
      have d1 := frozen_of_row wr g j _ _ hr.out
      have hs : (wr.setCell ⟨g, j, none⟩ (.int .u8 ((b[j]'hjb.out).toNat : Int))).heap[g]? = some (.cells (bvs (padTo b (j + 1))).toArray 5 (0, 0)) := by
        rw [heap_setCell_same _ _ _ _ _ _ hr.out, ← padTo_set b j hjb.out (by have := HN.out; omega)]
        simp [bv]
      have HS := hid hs
      have j5 : (j : Int) < 512 := by omega
      clear c0 hcell hs hbg
      go_wp2_with fail
      go_roundw
      case rel => exact ⟨j + 1, hlt, by go_num, HS.out, hf.out.step (Fr.set1 _ _ _ _)⟩
      case measure => simp [intOf]; omega
    · obtain rfl : j = n := by omega
      have hall : Hid (padTo b j = pad b) := padTo_all b j HN.out
      have hr3 : Row wr g 5 (bvs (pad b)) := ⟨_, hr.out, by rw [hall.out]; exact List.take_of_length_le (by simp)⟩
      have F3 : Hid (Fr No w1 wr) := F2.out.trans hf.out (fun i hi => .inr (by rw [hi]; exact G2.out))
      have D3 := hid (D1.out.fr0 F3.out)
      have R3 := hid hr3
      have hwn := hid (padTo_len b j (by have := HN.out; omega) (by have := HN.out; omega))
      clear hr hf hr3
      have e1 := D3.out.c1
      go_wp2_with (at_builtin; go_must (refine wpList_append_at _ rfl (.tmp 50) (.tmp 54) 48 rfl 57 iw _ 2 32 Try.underlying48 hiw hw0 hw1 hw2 rfl (by decide) uv us.length (us.flatMap UW.cells) rfl (D3.out.list.alloc _) ⟨wr.heap.size, 0, none⟩ 1 1 [.int .i64 k, .slice (some ⟨g, 0, none⟩) 512 512] rfl rfl ?c1 ?c2 (by decide) ?c3 ?c4 ?_))
      case c1 =>
        intro i u hi
        match i, hi with
        | 0, hi => simp at hi; subst hi; simp [Addr.add]
        | 1, hi => simp at hi; subst hi; simp [Addr.add]
      case c2 => intro u hu; simp at hu; rcases hu with rfl | rfl <;> rfl
      case c3 => unfold maxLen; omega
      case c4 => omega
      intro g' c' w4 HO4 hgg hg4
      have f34 : Fr (fun i => uv.ownBlock = some i) wr w4 := (Fr.alloc wr _).step hg4.out
      have hpu : ¬ uv.ownBlock = some q := fun e => D3.out.q_ne.2.1 q e rfl
      have hh4 := f34.heap D3.out.head hpu
      have d1 : w4.cell? ⟨q, 1, none⟩ = some uv := by rw [cell_of_row w4 q 1 _ _ _ hh4]; rfl
      have d2 : w4.frozen? ⟨q, 1, none⟩ = false := frozen_of_row w4 q 1 _ _ hh4
      have HG4 := hid f34
      have HH4 := hid hh4
      have HPU := hid hpu
      clear hg4 f34 hh4 e1 hpu
      go_wp2_with fail
      go_ret
      have f45 : Fr (· = q) w4 (w4.setCell ⟨q, 1, none⟩ (.slice (some ⟨g', 0, none⟩) (us.length + 1) c')) := Fr.set1 _ _ _ _
      have hdd := D3.out
      have hur : ∀ gg xs, Row wr gg 5 xs → Row w4 gg 5 xs := by
        intro gg xs hx
        refine hx.fr HG4.out (fun e => ?_)
        obtain ⟨cur, hc, _⟩ := hx
        exact owns_ne hdd.list hc (by decide) _ e rfl
      have hur2 : ∀ gg xs, Row wr gg 5 xs → Row (w4.setCell ⟨q, 1, none⟩ (.slice (some ⟨g', 0, none⟩) (us.length + 1) c')) gg 5 xs :=
        fun gg xs hx => (hur gg xs hx).fr f45 (fun e => hx.ne hdd.head (by decide) e)
      refine ⟨rfl, .slice (some ⟨g', 0, none⟩) (us.length + 1) c', us ++ [⟨k, pad b, g, 512⟩], ⟨?_, ?_, ?_, ?_, ?_, ?_, ?_, ?_, ?_⟩, ?_, ?_, ?_⟩
      · rw [heap_setCell_same _ _ _ _ _ _ HH4.out]; simp
      · refine owns_fr (owns_fr hdd.sure HG4.out (fun i hi e => ?_)) f45 hdd.q_ne.1
        rcases hdd.list.2 with ⟨h1, _⟩ | ⟨g5, cap5, cur5, h1, _, hg5, _⟩
        · rw [h1] at e; cases e
        · rw [h1] at e; cases e
          exact owns_ne hdd.sure hg5 (by decide) _ hi rfl
      · exact hdd.len
      · exact hdd.tells
      · exact fun s hs => ⟨hur2 _ _ (hdd.sdata s hs).1, (hdd.sdata s hs).2⟩
      · have := owns_fr HO4.out f45 (fun i hi e => owns_ne HO4.out HH4.out (by decide) i hi e)
        simpa [UW.cells] using this
      · show m.unsure ++ [(k, pad b)] = _
        rw [HH.out.eq]; simp [UW.pair]
      · intro u hu
        rcases List.mem_append.1 hu with hu | hu
        · exact ⟨hur2 _ _ (hdd.data u hu).1, (hdd.data u hu).2⟩
        · obtain rfl := List.mem_singleton.1 hu
          exact ⟨hur2 _ _ R3.out, Nat.le_refl _⟩
      · have hw := hdd.wf
        refine ⟨hw.few, hw.size, ?_, ?_, hw.lim⟩
        · intro u hu
          rcases List.mem_append.1 hu with hu | hu
          · exact HH.out.wf.wsize u hu
          · obtain rfl := List.mem_singleton.1 hu; rw [hall.out] at hwn; exact hwn.out
        · intro u hu
          show u.1 < m.spent.sure.length
          rw [spent_sure]
          rcases List.mem_append.1 hu with hu | hu
          · exact HH.out.wf.wpos u hu
          · obtain rfl := List.mem_singleton.1 hu; exact hk
      · refine Fr.trans (Fr.trans (F1.out.mono (fun i _ e => .inl e)) (F3.out : Fr No _ _) (fun i hi => hi.elim)) (Fr.trans (HG4.out.mono (fun i _ e => .inr e)) (f45.mono (fun i _ e => .inl e)) (fun i hi => .inl hi)) (fun i hi => .inl hi)
      · intro i hi
        cases hi
        rcases hgg.out with h1 | h1
        · exact .inl h1
        · refine .inr ?_
          have h2 := F1.out.size
          have h3 := F3.out.size
          have h4 : wr.heap.size + 1 ≤ g' := by simpa using h1
          show w.heap.size ≤ g'
          omega
      · intro u hu
        rcases List.mem_append.1 hu with hu | hu
        · exact .inl hu
        · obtain rfl := List.mem_singleton.1 hu; exact .inr (Nat.le_trans F1.out.size G2.out)

end Go.Proofs.Ytpimjachhfnlfaa
