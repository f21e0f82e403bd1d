/-
  Plain laws of chapter 11: what is seen behind writes; a record is what was appended. No program in sight.
-/
import Derived.Test.YtpimjachhfnlfaaSReadL
import Derived.Test.YtpimjachhfnlfaaSAppend
namespace Go.Proofs.Ytpimjachhfnlfaa
open Go.RowKit

theorem lastTo_snoc (l : List (Nat × List UInt8)) (u : Nat × List UInt8) (k : Nat) : lastTo (l ++ [u]) k = if u.1 = k then some u.2 else lastTo l k := by
  unfold lastTo
  rw [List.reverse_append, List.reverse_singleton, List.singleton_append, List.find?_cons]
  by_cases h : u.1 = k
  · simp [h]
  · have : (u.1 == k) = false := by simpa using h
    rw [this, if_neg h]

theorem settle_at_pos (s : List Sec) (k : Nat) (hk : k < s.length) : ∀ (n : Nat) (l : List (Nat × List UInt8)), l.length = n → (∀ u ∈ l, u.1 < s.length) →
    (settleAll s l)[k]? = some (match lastTo l k with | some d => ⟨d, false⟩ | none => s[k]) := by
  intro n
  induction n with
  | zero =>
    intro l hl _
    have : l = [] := List.eq_nil_of_length_eq_zero hl
    subst this
    exact List.getElem?_eq_getElem hk
  | succ n ih =>
    intro l hl hp
    obtain ⟨l', u, rfl⟩ : ∃ l' u, l = l' ++ [u] := ⟨l.dropLast, l.getLast (by intro h; rw [h] at hl; cases hl), (List.dropLast_concat_getLast _).symm⟩
    have hl' : l'.length = n := by simpa using hl
    have h := ih l' hl' (fun u hu => hp u (List.mem_append_left _ hu))
    rw [settleAll_snoc, lastTo_snoc, List.getElem?_set, settleAll_len]
    by_cases e : u.1 = k
    · subst e
      simp [hk]
    · rw [if_neg e, if_neg e, h]

/-- The device behind a Sync that is done. -/
def Dv.synced (m : Dv) : Dv := { m with sure := settleAll m.sure m.unsure, unsure := [] }

theorem synced_len (m : Dv) : m.synced.sure.length = m.sure.length := settleAll_len _ _

theorem seen_of_at {m : Dv} {k : Nat} {d : List UInt8} (hl : lastTo m.unsure k = some d) : m.seen k = some d := by unfold Dv.seen; rw [hl]

theorem seen_synced {m : Dv} (h : m.Wf) {k : Nat} (hk : k < m.sure.length) : m.synced.seen k = m.seen k := by
  have hk' : k < m.synced.sure.length := by rw [synced_len]; exact hk
  rw [seen_clean (m := m.synced) rfl hk']
  have hs := settle_at_pos m.sure k hk _ m.unsure rfl h.wpos
  have e : m.synced.sure[k] = (match lastTo m.unsure k with | some d => ⟨d, false⟩ | none => m.sure[k]) := by
    have := List.getElem?_eq_getElem hk'
    have h2 : m.synced.sure[k]? = some (match lastTo m.unsure k with | some d => ⟨d, false⟩ | none => m.sure[k]) := hs
    rw [this] at h2
    exact Option.some.inj h2
  rw [e]
  cases hl : lastTo m.unsure k with
  | none => rw [seen_sure hk hl]
  | some d => rw [seen_of_at hl]; rfl

theorem synced_wf {m : Dv} (h : m.Wf) : m.synced.Wf := by
  refine ⟨by rw [synced_len]; exact h.few, ?_, (fun u hu => by cases hu), (fun u hu => by cases hu), h.lim⟩
  intro s hs
  obtain ⟨k, hk, rfl⟩ := List.getElem_of_mem hs
  have hk0 : k < m.sure.length := by rw [synced_len] at hk; exact hk
  have h2 := settle_at_pos m.sure k hk0 _ m.unsure rfl h.wpos
  have h3 : m.synced.sure[k]? = some (match lastTo m.unsure k with | some d => ⟨d, false⟩ | none => m.sure[k]) := h2
  rw [List.getElem?_eq_getElem hk] at h3
  rw [Option.some.inj h3]
  cases hl : lastTo m.unsure k with
  | none => exact h.size _ (List.getElem_mem hk0)
  | some d =>
    have : m.seen k = some d := seen_of_at hl
    exact seen_len h this

/-- A Save of a device that is up, whatever is open. -/
theorem saved_up {m : Dv} (hl : Live m) (hk : 2 ≤ m.sure.length) (b : Blk) : m.saved b = (m.synced.put b, 0) := by
  have hs : m.sync = (m.synced, 0) := hl.sync
  have hl2 : Live m.synced := ⟨hl.up, hl.free⟩
  have h2 : m.synced.sync = (m.synced, 0) := by
    rw [hl2.sync]
    rfl
  have e := saved_live hl2 rfl (by rw [synced_len]; exact hk) b
  unfold Dv.saved at e ⊢
  rw [h2] at e
  rw [hs]
  exact e

theorem blkAt_seen {m c : Dv} {k : Nat} (h : c.seen k = m.seen k) : blkAt c k = blkAt m k := by unfold blkAt; rw [h]
theorem loadM_seen {m c : Dv} (h0 : c.seen 0 = m.seen 0) (h1 : c.seen 1 = m.seen 1) : loadM c = loadM m := loadM_congr (blkAt_seen h0) (blkAt_seen h1)

theorem seen_put {m : Dv} (hu : m.unsure = []) (b : Blk) {k : Nat} (hk : k < m.sure.length) (h2 : 2 ≤ k) : (m.put b).seen k = m.seen k := by
  have hk' : k < (m.put b).sure.length := by rw [put_len]; exact hk
  rw [seen_clean (m := m.put b) hu hk', seen_clean hu hk]
  have : (m.put b).sure[k] = m.sure[k] := by
    simp only [Dv.put]
    rw [List.getElem_set, if_neg (by omega)]
  rw [this]

theorem pos_ge (m : Dv) (k : Nat) : 2 ≤ m.pos k := by unfold Dv.pos; omega
theorem pos_lt {m : Dv} (h : 3 ≤ m.sure.length) (k : Nat) : m.pos k < m.sure.length := by
  unfold Dv.pos
  have := Nat.mod_lt k (show 0 < m.sure.length - 2 by omega)
  omega

theorem mod_inj {r a i j : Nat} (hi : i < r) (hj : j < r) (h : (a + i) % r = (a + j) % r) : i = j := by
  rcases Nat.lt_or_ge i j with hlt | hge
  · have h2 : (a + j - (a + i)) % r = 0 := Nat.sub_mod_eq_zero_of_mod_eq h.symm
    have : (a + j - (a + i)) = j - i := by omega
    rw [this, Nat.mod_eq_of_lt (by omega)] at h2
    omega
  · rcases Nat.lt_or_ge j i with hlt | hge2
    · have h2 : (a + i - (a + j)) % r = 0 := Nat.sub_mod_eq_zero_of_mod_eq h
      have : (a + i - (a + j)) = i - j := by omega
      rw [this, Nat.mod_eq_of_lt (by omega)] at h2
      omega
    · omega

theorem pos_inj {m : Dv} {a i j : Nat} (hi : i < m.sure.length - 2) (hj : j < m.sure.length - 2) (h : m.pos (a + i) = m.pos (a + j)) : i = j := by
  unfold Dv.pos at h
  exact mod_inj hi hj (Nat.add_right_cancel h)

theorem pad_512 {b : List UInt8} (h : b.length = 512) : pad b = b := by unfold pad; rw [h]; simp

/-- The writes of a record, when the device is up: all done; what is seen then. -/
theorem wrs_live {m : Dv} (L : Lg) (b : List UInt8) (n : Nat) (hl : Live m) (h3 : 3 ≤ m.sure.length) : ∀ i, (wrs m L b n i).2 = 0 ∧ Live (wrs m L b n i).1 ∧ (∀ k, (∀ j, j < i → m.pos (L.fin + j) ≠ k) → (wrs m L b n i).1.seen k = m.seen k) ∧ (i ≤ m.sure.length - 2 → ∀ j, j < i → (wrs m L b n i).1.seen (m.pos (L.fin + j)) = some (recSec L b n j)) := by
  intro i
  induction i with
  | zero => exact ⟨rfl, hl, fun _ _ => rfl, fun _ j hj => by omega⟩
  | succ i ih =>
    obtain ⟨h0, hl1, hs1, hs2⟩ := ih
    have hp : m.pos (L.fin + i) < (wrs m L b n i).1.sure.length := by rw [wrs_len]; exact pos_lt h3 _
    have e : wrs m L b n (i + 1) = ((wrs m L b n i).1.add (m.pos (L.fin + i)) (recSec L b n i), 0) := by
      show (if (wrs m L b n i).2 ≠ 0 then _ else _) = _
      rw [if_neg (by rw [h0]; decide), hl1.write hp (by rw [recSec_len]; decide)]
    rw [e]
    refine ⟨rfl, hl1.add _ _, ?_, ?_⟩
    · intro k hk
      rw [seen_add_other _ _ _ _ (fun h => hk i (by omega) h.symm)]
      exact hs1 k (fun j hj => hk j (by omega))
    · intro hi j hj
      by_cases hji : j = i
      · subst hji
        rw [seen_add_same, pad_512 (recSec_len L b n j)]
      · rw [seen_add_other _ _ _ _ (fun h => hji (pos_inj (by omega) (by omega) h))]
        exact hs2 (by omega) j (by omega)

theorem opened_rec {L : Lg} {b : List UInt8} {n i : Nat} (he : L.blk.epoch < 4294967296) (hs : L.blk.first + L.list.length < 72057594037927936) (hn : n < 256) (hi : i < n) : opened (recSec L b n i) = some (recHd L n i, piece b i) := by
  refine opened_seal (recHd_fit he hs hn (by omega)) ?_ (piece_len b i)
  unfold Hd.bad recHd
  simp
  omega

theorem take_piece (b : List UInt8) (i : Nat) : b.take (i * 496) ++ piece b i = b.take ((i + 1) * 496) := by
  unfold piece
  rw [Nat.add_mul, Nat.one_mul, List.take_add]

/-- A record is read as it was appended, while its sectors are seen. -/
theorem readM_rec {m : Dv} {place n : Nat} {b : List UInt8} {hd : Nat → Hd} (h : ∀ i, i < n → ∃ l, m.seen (m.pos (place + i)) = some l ∧ opened l = some (hd i, piece b i)) : ∀ i, i ≤ n → readM m place i = some (b.take (i * 496)) := by
  intro i
  induction i with
  | zero => intro _; simp [readM]
  | succ i ih =>
    intro hi
    obtain ⟨l, h1, h2⟩ := h i (by omega)
    unfold readM
    rw [ih (by omega)]
    simp only [Option.bind_some, h1, h2, Option.map_some]
    rw [take_piece]

theorem parts_cover (n : Nat) : n ≤ partsN n * 496 := by unfold partsN; omega
theorem parts_pos (n : Nat) : 1 ≤ partsN n := by unfold partsN; omega
theorem parts_le {n : Nat} (h : n ≤ 16384) : partsN n ≤ 34 := by unfold partsN; omega

/-- Records lie one behind the other. -/
def Chain : Nat → List (Nat × Nat) → Nat → Prop
  | a, [], z => a = z
  | a, r :: l, z => r.1 = a ∧ 1 ≤ r.2 ∧ Chain (a + r.2) l z

theorem Chain.snoc : ∀ {l : List (Nat × Nat)} {a z : Nat} (_ : Chain a l z) {n : Nat} (_ : 1 ≤ n), Chain a (l ++ [(z, n)]) (z + n)
  | [], a, z, h, n, hn => by obtain rfl : a = z := h; exact ⟨rfl, hn, rfl⟩
  | r :: l, a, z, h, n, hn => ⟨h.1, h.2.1, h.2.2.snoc hn⟩

theorem Chain.le : ∀ {l : List (Nat × Nat)} {a z : Nat} (_ : Chain a l z), a + l.length ≤ z
  | [], a, z, h => by obtain rfl : a = z := h; simp
  | r :: l, a, z, h => by have := h.2.2.le; have := h.2.1; simp only [List.length_cons]; omega

/-- The place of the k-th record, or the one behind. -/
def placeAt (l : List (Nat × Nat)) (z k : Nat) : Nat := match l[k]? with | some r => r.1 | none => z

theorem Chain.drop : ∀ {l : List (Nat × Nat)} {a z : Nat} (_ : Chain a l z) (k : Nat), Chain (placeAt l z k) (l.drop k) z
  | [], a, z, h, k => by simp [placeAt, Chain]
  | r :: l, a, z, h, 0 => by
    have : placeAt (r :: l) z 0 = a := h.1
    rw [this]
    exact h
  | r :: l, a, z, h, k + 1 => by
    have : placeAt (r :: l) z (k + 1) = placeAt l z k := rfl
    rw [this, List.drop_succ_cons]
    exact h.2.2.drop k

theorem Chain.place_ge : ∀ {l : List (Nat × Nat)} {a z : Nat} (_ : Chain a l z) (k : Nat), k ≤ l.length → a + k ≤ placeAt l z k
  | [], a, z, h, k, hk => by
    obtain rfl : a = z := h
    have : k = 0 := by simpa using hk
    subst this
    exact Nat.le_refl _
  | r :: l, a, z, h, 0, hk => by
    have : placeAt (r :: l) z 0 = a := h.1
    rw [this]; exact Nat.le_refl _
  | r :: l, a, z, h, k + 1, hk => by
    have : placeAt (r :: l) z (k + 1) = placeAt l z k := rfl
    have h2 := h.2.2.place_ge k (by simpa using hk)
    have := h.2.1
    omega

/-- The block behind a Drop of k records. -/
def Lg.cutAt (L : Lg) (k : Nat) : Blk := ⟨L.blk.gen + 1, L.blk.epoch, L.blk.first + k, placeAt L.list L.fin k, L.blk.first + L.list.length⟩

/-- What a Drop of k records leaves, and answers. -/
def dropM (m : Dv) (L : Lg) (k : Nat) : Dv × Lg × Int :=
  if (m.saved (L.cutAt k)).2 ≠ 0 then ((m.saved (L.cutAt k)).1, { L with down := (m.saved (L.cutAt k)).2 == 8 }, (m.saved (L.cutAt k)).2)
  else ((m.saved (L.cutAt k)).1, { L with blk := L.cutAt k, list := L.list.drop k }, 0)

theorem dropM_up {m : Dv} {L : Lg} {k : Nat} (hl : Live m) (hk : 2 ≤ m.sure.length) : dropM m L k = (m.synced.put (L.cutAt k), { L with blk := L.cutAt k, list := L.list.drop k }, 0) := by
  unfold dropM
  rw [saved_up hl hk, if_neg (by simp)]

end Go.Proofs.Ytpimjachhfnlfaa
