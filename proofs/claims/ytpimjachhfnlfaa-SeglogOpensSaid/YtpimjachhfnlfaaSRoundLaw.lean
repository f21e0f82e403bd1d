/-
  Plain laws of SeglogRound: the log and its device, round and round. No program in sight.
-/
import Derived.Test.YtpimjachhfnlfaaSOpen0
namespace Go.Proofs.Ytpimjachhfnlfaa
open Go.RowKit

structure RInv (N : Nat) (m : Dv) (L : Lg) (i : Nat) : Prop where
  n4 : 4 ≤ N
  live : Live m
  len : m.sure.length = N
  down : L.down = false
  load : loadM m = some L.blk
  chain : Chain L.blk.from_ L.list L.fin
  ring : L.fin + 2 ≤ L.blk.from_ + N
  num : L.blk.first + L.list.length = i
  gen : L.blk.gen = L.blk.first
  ep : L.blk.epoch = 1
  cnt : L.blk.count ≤ i
  fin : L.fin ≤ 4 * i
  few : m.unsure.length ≤ 4 * i
  i70 : i ≤ 70

theorem RInv.room {N : Nat} {m : Dv} {L : Lg} {i : Nat} (h : RInv N m L i) : L.room m = (N : Int) - 2 - ((L.fin : Int) - (L.blk.from_ : Int)) := by
  unfold Lg.room
  rw [h.len]

theorem RInv.room_ge {N : Nat} {m : Dv} {L : Lg} {i : Nat} (h : RInv N m L i) : 0 ≤ L.room m ∧ L.room m ≤ (N : Int) - 2 := by
  rw [h.room]
  have := h.ring
  have := h.chain.le
  omega

/-- Too little room: something is there that can be dropped. -/
theorem RInv.drops {N : Nat} {m : Dv} {L : Lg} {i n : Nat} (h : RInv N m L i) (hn : n + 2 ≤ N) (hr : L.room m < (n : Int)) : 1 ≤ L.list.length := by
  rw [h.room] at hr
  have hc := h.chain
  cases hl : L.list with
  | nil => rw [hl] at hc; have : L.blk.from_ = L.fin := hc; omega
  | cons r l => simp

theorem cutAt_fit {L : Lg} (k : Nat) (h1 : L.blk.gen + 1 < 72057594037927936) (h2 : L.blk.epoch < 72057594037927936) (h3 : L.blk.first + k < 72057594037927936) (h4 : placeAt L.list L.fin k < 72057594037927936) (h5 : L.blk.first + L.list.length < 72057594037927936) : (L.cutAt k).Fit := ⟨h1, h2, h3, h4, h5⟩

theorem placeAt_le {l : List (Nat × Nat)} {a z : Nat} (h : Chain a l z) (k : Nat) : placeAt l z k ≤ z := by
  have := (h.drop k).le
  omega

theorem RInv.fit {N : Nat} {m : Dv} {L : Lg} {i : Nat} (h : RInv N m L i) (h1 : 1 ≤ L.list.length) : (L.cutAt 1).Fit ∧ nextGen (loadM m) (L.cutAt 1).gen := by
  have := h.num
  have := h.gen
  have := h.i70
  have := h.ep
  have := placeAt_le h.chain 1
  have := h.fin
  refine ⟨cutAt_fit 1 (by omega) (by omega) (by omega) (by omega) (by omega), ?_⟩
  rw [h.load]
  rfl

theorem RInv.drop {N : Nat} {m : Dv} {L : Lg} {i : Nat} (h : RInv N m L i) (hw : m.Wf) (h1 : 1 ≤ L.list.length) :
    (dropM m L 1).2.2 = 0 ∧ RInv N (dropM m L 1).1 (dropM m L 1).2.1 i ∧ (dropM m L 1).2.1.list.length + 1 = L.list.length := by
  have hlen := h.len
  have hn4' := h.n4
  rw [dropM_up h.live (by omega)]
  have hf := (h.fit h1).1
  have hg := (h.fit h1).2
  have hload : loadM m.synced = loadM m := loadM_seen (seen_synced hw (by omega)) (seen_synced hw (by omega))
  have hp := h.chain.place_ge 1 h1
  have hn := h.num
  refine ⟨rfl, ⟨h.n4, (show Live (m.synced.put (L.cutAt 1)) from put_live (m := m.synced) ⟨h.live.up, h.live.free⟩ _), ?_, h.down, ?_, h.chain.drop 1, ?_, ?_, ?_, h.ep, ?_, h.fin, Nat.zero_le _, h.i70⟩, ?_⟩
  · show (m.synced.put _).sure.length = N
    rw [put_len, synced_len, hlen]
  · show loadM (m.synced.put _) = _
    rw [load_put rfl (by rw [synced_len]; omega) hf (by rw [hload]; exact hg)]
  · show L.fin + 2 ≤ placeAt L.list L.fin 1 + N
    have := h.ring
    omega
  · show L.blk.first + 1 + (L.list.drop 1).length = i
    rw [List.length_drop]
    omega
  · show L.blk.gen + 1 = L.blk.first + 1
    rw [h.gen]
  · show L.blk.first + L.list.length ≤ i
    omega
  · show (L.list.drop 1).length + 1 = L.list.length
    rw [List.length_drop]
    omega

/-- A record of the log's last one: what is read. -/
theorem RInv.append {N : Nat} {m : Dv} {L : Lg} {i : Nat} {b : List UInt8} (h : RInv N m L i) (hb : b.length < 1900) (hr : (partsN b.length : Int) ≤ L.room m) (hi : i + 1 ≤ 70) :
    (appendM m L b).2.2.1 = ((L.blk.first + L.list.length : Nat) : Int) ∧ (appendM m L b).2.2.2 = 0 ∧ RInv N (appendM m L b).1 (appendM m L b).2.1 (i + 1)
      ∧ (appendM m L b).2.1.list = L.list ++ [(L.fin, partsN b.length)] ∧ (appendM m L b).2.1.blk = L.blk ∧ readM (appendM m L b).1 L.fin (partsN b.length) = some b := by
  have hlen := h.len
  have hn4' := h.n4
  have hn4 : partsN b.length ≤ 4 := by unfold partsN; omega
  have hn1 := parts_pos b.length
  rw [h.room] at hr
  obtain ⟨e0, hl, hs1, hs2⟩ := wrs_live L b (partsN b.length) h.live (by omega) (partsN b.length)
  have hcle := h.chain.le
  have hfew := wrs_few m L b (partsN b.length) (partsN b.length)
  have hsl := wrs_len m L b (partsN b.length) (partsN b.length)
  have happ : appendM m L b = ((wrs m L b (partsN b.length) (partsN b.length)).1, { L with list := L.list ++ [(L.fin, partsN b.length)], fin := L.fin + partsN b.length }, ((L.blk.first + L.list.length : Nat) : Int), 0) := by
    unfold appendM
    simp only [e0, ne_eq, not_true_eq_false, if_false]
  rw [happ]
  refine ⟨rfl, rfl, ⟨h.n4, hl, by show (wrs m L b _ _).1.sure.length = N; rw [hsl, hlen], h.down, ?_, h.chain.snoc hn1, ?_, ?_, h.gen, h.ep, ?_, ?_, ?_, hi⟩, rfl, rfl, ?_⟩
  · show loadM (wrs m L b _ _).1 = some L.blk
    rw [← h.load]
    have := pos_ge m
    refine loadM_seen (hs1 0 (fun j _ hj => ?_)) (hs1 1 (fun j _ hj => ?_))
    · have := this (L.fin + j); omega
    · have := this (L.fin + j); omega
  · show L.fin + partsN b.length + 2 ≤ L.blk.from_ + N
    omega
  · show L.blk.first + (L.list ++ [(L.fin, partsN b.length)]).length = i + 1
    rw [List.length_append, ← h.num]
    rfl
  · have := h.cnt
    show L.blk.count ≤ i + 1
    omega
  · have := h.fin
    show L.fin + partsN b.length ≤ 4 * (i + 1)
    omega
  · have := h.few
    show (wrs m L b _ _).1.unsure.length ≤ 4 * (i + 1)
    omega
  · have hnum := h.num
    have hi70 := h.i70
    have := readM_rec (m := (wrs m L b (partsN b.length) (partsN b.length)).1) (place := L.fin) (n := partsN b.length) (b := b) (hd := recHd L (partsN b.length)) (fun j hj => ?_) (partsN b.length) (Nat.le_refl _)
    · rw [this, List.take_of_length_le (parts_cover b.length)]
    · have hpos : (wrs m L b (partsN b.length) (partsN b.length)).1.pos (L.fin + j) = m.pos (L.fin + j) := by unfold Dv.pos; rw [hsl]
      rw [hpos]
      refine ⟨_, hs2 (by omega) j hj, opened_rec (by rw [h.ep]; decide) (by omega) (by omega) hj⟩

theorem zero_seen {n k : Nat} (hk : k < n) : (Dv.zero n).seen k = some (List.replicate 512 0) := by
  have hk' : k < (Dv.zero n).sure.length := by rw [new_zero_len]; exact hk
  rw [seen_clean rfl hk']
  have e : (Dv.zero n).sure[k] = zeroSec := by simp [Dv.zero]
  rw [e]
  rfl

/-- A new log. -/
theorem RInv.start {N : Nat} (h4 : 4 ≤ N) : RInv N (Dv.first N) Lg.new 0 := by
  refine ⟨h4, put_live (zero_live N) _, ?_, rfl, ?_, rfl, ?_, rfl, rfl, rfl, Nat.le_refl _, Nat.le_refl _, Nat.zero_le _, by decide⟩
  · show ((Dv.zero N).put _).sure.length = N
    rw [put_len, new_zero_len]
  · exact load_put rfl (by rw [new_zero_len]; omega) Lg.new_fit (by rw [load_zero N (by omega)]; rfl)
  · show 0 + 2 ≤ 0 + N
    omega

theorem RInv.small {N : Nat} {m : Dv} {L : Lg} {i : Nat} (h : RInv N m L i) (h1 : 1 ≤ L.list.length) (hs : L.Small) : Lg.Small { L with blk := L.cutAt 1, list := L.list.drop 1 } := by
  have := h.num
  have := h.gen
  have := h.i70
  have := h.ep
  have := placeAt_le h.chain 1
  have := h.fin
  refine ⟨?_, hs.epoch, ?_, ?_, ?_, hs.fin, ?_, fun r hr => hs.recs r (List.mem_of_mem_drop hr)⟩
  · show L.blk.gen + 1 < _; omega
  · show L.blk.first + 1 < _; omega
  · show placeAt L.list L.fin 1 < _; omega
  · show L.blk.first + L.list.length < _; omega
  · show (L.list.drop 1).length < _; rw [List.length_drop]; omega

end Go.Proofs.Ytpimjachhfnlfaa
