/-
  Plain laws of chapter 11: what Append, Sync, Save and a scan leave, whatever the limit. No program in sight.
-/
import Derived.Test.YtpimjachhfnlfaaSLogLaw
namespace Go.Proofs.Ytpimjachhfnlfaa
open Go.RowKit

/-- Behind any crash the block and the records are such. -/
def Safe (m : Dv) (P : Blk → List Rc → Nat → Prop) : Prop := ∀ a b, ∃ B rs k, loadM (m.crash a b) = some B ∧ DI (m.crash a b) B rs k ∧ P B rs k

theorem Safe.mono {m : Dv} {P Q : Blk → List Rc → Nat → Prop} (h : Safe m P) (hq : ∀ B rs k, P B rs k → Q B rs k) : Safe m Q := fun a b => by
  obtain ⟨B, rs, k, h1, h2, h3⟩ := h a b
  exact ⟨B, rs, k, h1, h2, hq _ _ _ h3⟩

theorem Safe.sim {c m : Dv} {P : Blk → List Rc → Nat → Prop} (s : Sim c m) (h : Safe m P) : Safe c P := fun a b => by
  obtain ⟨B, rs, k, h1, h2, h3⟩ := h a b
  exact ⟨B, rs, k, by rw [(s.crashed a b).load]; exact h1, h2.sim (s.crashed a b), h3⟩

theorem safe_off {m : Dv} {B : Blk} {rs : List Rc} {k : Nat} (h : DI m B rs k) (ho : Off m) (hl : loadM m = some B) : Safe m (fun B' rs' k' => B' = B ∧ rs' = rs ∧ k' = k) := fun a b =>
  ⟨B, rs, k, by rw [load_crash ho (by have := h.big; omega)]; exact hl, h.crash a b, rfl, rfl, rfl⟩

theorem Off.sim {c m : Dv} (s : Sim c m) (h : Off m) : Off c := by
  intro u hu
  rw [s.unsure] at hu
  exact h u hu

theorem Off.add {m : Dv} {x : Nat} {b : List UInt8} (h : Off m) (hx : 2 ≤ x) : Off (m.add x b) := by
  intro u hu
  rcases List.mem_append.1 hu with hu | hu
  · exact h u hu
  · have := List.mem_singleton.1 hu
    cases this
    exact hx

theorem part_rec {L : Lg} {rs : List Rc} {b : List UInt8} {n i : Nat} (hlen : L.list.length = rs.length) (he : L.blk.epoch < 4294967296) (hs : L.blk.first + L.list.length < 72057594037927936) (hn : n < 256) (hi : i < n) :
    PartOf (L.blk.first + rs.length) ⟨L.fin, n, b⟩ i (recSec L b n i) (recHd L n i) :=
  ⟨opened_rec he hs hn hi, rfl, by show L.blk.first + L.list.length = _; rw [hlen], rfl, rfl⟩

theorem rcs_last (rs : List Rc) (r : Rc) : (rs ++ [r])[rs.length]? = some r := by simp

/-- The writes of a record, whatever the limit. -/
theorem wrs_up {m : Dv} {L : Lg} {b : List UInt8} {n k : Nat} {rs : List Rc} (hd : m.down = false) (h : DI m L.blk (rs ++ [⟨L.fin, n, b⟩]) k) (hk : k ≤ rs.length) (hlen : L.list.length = rs.length) (he : L.blk.epoch < 4294967296) (hs : L.blk.first + L.list.length < 72057594037927936) (hn : n < 256) (hn2 : n + 2 ≤ m.sure.length) :
    ∀ i, i ≤ n → DI (wrs m L b n i).1 L.blk (rs ++ [⟨L.fin, n, b⟩]) k ∧ (Off m → Off (wrs m L b n i).1) ∧ (∀ x, (∀ j, j < i → m.pos (L.fin + j) ≠ x) → (wrs m L b n i).1.seen x = m.seen x) ∧
      (((wrs m L b n i).2 = 0 ∧ (wrs m L b n i).1.down = false ∧ (∀ j, j < i → (wrs m L b n i).1.seen (m.pos (L.fin + j)) = some (recSec L b n j)) ∧ (m.limit = 0 → (wrs m L b n i).1.limit = 0)) ∨ ((wrs m L b n i).2 = 8 ∧ (wrs m L b n i).1.down = true)) := by
  intro i
  induction i with
  | zero => intro _; exact ⟨h, id, fun _ _ => rfl, .inl ⟨rfl, hd, fun j hj => by omega, id⟩⟩
  | succ i ih =>
    intro hi
    obtain ⟨h1, h2, h3, h4⟩ := ih (by omega)
    rcases h4 with ⟨c0, hdn, hsn, hlim⟩ | ⟨c8, hdn⟩
    · have hp : m.pos (L.fin + i) < (wrs m L b n i).1.sure.length := by rw [wrs_len]; exact pos_lt (by have := h.big; exact this) _
      have e : wrs m L b n (i + 1) = (wrs m L b n i).1.write ((m.pos (L.fin + i) : Nat) : Int) (recSec L b n i) := by
        show (if (wrs m L b n i).2 ≠ 0 then _ else _) = _
        rw [if_neg (by rw [c0]; simp)]
      have hpos : (wrs m L b n i).1.pos (L.fin + i) = m.pos (L.fin + i) := pos_len (wrs_len m L b n i) _
      rw [e]
      rcases write_up hdn hp (b := recSec L b n i) (by rw [recSec_len]; decide) with ⟨w0, wd, ws, wl⟩ | ⟨w8, wd, ws⟩
      · have ha := h1.add (rcs_last rs ⟨L.fin, n, b⟩) hk (show i < n by omega) (part_rec hlen he hs hn (by omega)) rfl (recSec_len L b n i)
        have ha : DI ((wrs m L b n i).1.add (m.pos (L.fin + i)) (recSec L b n i)) L.blk (rs ++ [⟨L.fin, n, b⟩]) k := by rw [← hpos]; exact ha
        refine ⟨ha.sim ws, fun ho => ((h2 ho).add (pos_ge m _)).sim ws, ?_, .inl ⟨w0, wd, ?_, fun h0 => wl (hlim h0)⟩⟩
        · intro x hx
          rw [ws.seen, seen_add_other _ _ _ _ (fun h => hx i (by omega) h.symm)]
          exact h3 x (fun j hj => hx j (by omega))
        · intro j hj
          by_cases hji : j = i
          · subst hji
            rw [ws.seen, seen_add_same, pad_512 (recSec_len L b n j)]
          · rw [ws.seen, seen_add_other _ _ _ _ (fun h => hji (pos_inj (by omega) (by omega) h))]
            exact hsn j (by omega)
      · refine ⟨h1.sim ws, fun ho => (h2 ho).sim ws, ?_, .inr ⟨w8, wd⟩⟩
        intro x hx
        rw [ws.seen]
        exact h3 x (fun j hj => hx j (by omega))
    · have e : wrs m L b n (i + 1) = wrs m L b n i := by
        show (if (wrs m L b n i).2 ≠ 0 then _ else _) = _
        rw [if_pos (by rw [c8]; decide)]
      rw [e]
      exact ⟨h1, h2, fun x hx => h3 x (fun j hj => hx j (by omega)), .inr ⟨c8, hdn⟩⟩

/-- A log that is up, and what its device holds. -/
structure LI (m : Dv) (L : Lg) (rs : List Rc) (k : Nat) : Prop where
  di : DI m L.blk rs k
  seen : SeenAll m L.blk rs
  load : loadM m = some L.blk
  off : Off m
  chain : Chain L.blk.from_ L.list L.fin
  ring : L.fin + 2 ≤ L.blk.from_ + m.sure.length
  list : L.list = rs.map Rc.pair
  up : L.down = false
  mup : m.down = false
  data : ∀ r ∈ rs, r.n = partsN r.data.length ∧ r.n < 256

theorem LI.len {m : Dv} {L : Lg} {rs : List Rc} {k : Nat} (h : LI m L rs k) : L.list.length = rs.length := by rw [h.list, List.length_map]

/-- Append, whatever the limit. -/
theorem LI.append {m : Dv} {L : Lg} {rs : List Rc} {k : Nat} (b : List UInt8) (h : LI m L rs k) (he : L.blk.epoch < 4294967296) (hs : L.blk.first + L.list.length < 72057594037927936) (hb : b.length ≤ 16384) (hr : (partsN b.length : Int) ≤ L.room m) :
    ((appendM m L b).2.2.2 = 0 ∧ (appendM m L b).2.2.1 = ((L.blk.first + L.list.length : Nat) : Int) ∧ LI (appendM m L b).1 (appendM m L b).2.1 (rs ++ [⟨L.fin, partsN b.length, b⟩]) k ∧ (appendM m L b).2.1.blk = L.blk ∧ (appendM m L b).2.1.fin = L.fin + partsN b.length ∧ (m.limit = 0 → (appendM m L b).1.limit = 0)) ∨
    ((appendM m L b).2.2.2 = 8 ∧ (appendM m L b).1.down = true ∧ DI (appendM m L b).1 L.blk (rs ++ [⟨L.fin, partsN b.length, b⟩]) k ∧ Off (appendM m L b).1 ∧ loadM (appendM m L b).1 = some L.blk) := by
  have hn1 := parts_pos b.length
  have hn34 := parts_le hb
  have hlen := h.len
  have hring := h.ring
  have hle := h.chain.le
  have hbig := h.di.big
  have hr2 : L.fin + partsN b.length + 2 ≤ L.blk.from_ + m.sure.length := by unfold Lg.room at hr; omega
  have hch : Chain L.blk.from_ (rs.map Rc.pair) L.fin := by rw [← h.list]; exact h.chain
  have hsn := h.di.snoc b hch hn1 hr2
  obtain ⟨h1, h2, h3, h4⟩ := wrs_up h.mup hsn h.di.c3 hlen he hs (show partsN b.length < 256 by omega) (by omega) (partsN b.length) (Nat.le_refl _)
  have hload : loadM (wrs m L b (partsN b.length) (partsN b.length)).1 = some L.blk := by
    rw [← h.load]
    have := pos_ge m
    exact loadM_seen (h3 0 (fun j _ e => by have := this (L.fin + j); omega)) (h3 1 (fun j _ e => by have := this (L.fin + j); omega))
  have hoff := h2 h.off
  have hwl := wrs_len m L b (partsN b.length) (partsN b.length)
  rcases h4 with ⟨c0, hdn, hse, hlim⟩ | ⟨c8, hdn⟩
  · have happ : appendM m L b = ((wrs m L b (partsN b.length) (partsN b.length)).1, { L with list := L.list ++ [(L.fin, partsN b.length)], fin := L.fin + partsN b.length }, ((L.blk.first + L.list.length : Nat) : Int), 0) := by
      unfold appendM
      simp only [c0, ne_eq, not_true_eq_false, if_false]
    rw [happ]
    refine .inl ⟨rfl, rfl, ⟨h1, ?_, hload, hoff, h.chain.snoc hn1, ?_, ?_, h.up, hdn, ?_⟩, rfl, rfl, hlim⟩
    · intro i r hi j hj
      show ∃ d hh, (wrs m L b (partsN b.length) (partsN b.length)).1.seen ((wrs m L b (partsN b.length) (partsN b.length)).1.pos (r.place + j)) = some d ∧ _
      rw [pos_len hwl]
      rcases Nat.lt_or_ge i rs.length with hlt | hge
      · rw [List.getElem?_append_left hlt] at hi
        obtain ⟨d, hd, a1, a2⟩ := h.seen i r hi j hj
        refine ⟨d, hd, ?_, a2⟩
        rw [h3 _ (fun j' hj' e => ?_)]
        · exact a1
        · have hi' : (rs ++ [(⟨L.fin, partsN b.length, b⟩ : Rc)])[i]? = some r := by rw [List.getElem?_append_left hlt]; exact hi
          obtain ⟨z, hz1, hz2⟩ := hsn.chain
          have := (pos_apart hz1 hz2 (rcs_last rs ⟨L.fin, partsN b.length, b⟩) hi' hj' hj e).1
          omega
      · have hlt2 := (List.getElem?_eq_some_iff.1 hi).1
        rw [List.length_append, List.length_singleton] at hlt2
        obtain rfl : i = rs.length := by omega
        rw [rcs_last] at hi
        cases hi
        exact ⟨_, recHd L (partsN b.length) j, hse j hj, part_rec hlen he hs (by omega) hj, fun _ => rfl⟩
    · show L.fin + partsN b.length + 2 ≤ L.blk.from_ + (wrs m L b (partsN b.length) (partsN b.length)).1.sure.length
      rw [hwl]; exact hr2
    · show L.list ++ [(L.fin, partsN b.length)] = _
      rw [List.map_append, h.list]
      rfl
    · intro r hr
      rcases List.mem_append.1 hr with hr | hr
      · exact h.data r hr
      · obtain rfl := List.mem_singleton.1 hr
        exact ⟨rfl, by show partsN b.length < 256; omega⟩
  · have happ : appendM m L b = ((wrs m L b (partsN b.length) (partsN b.length)).1, { L with down := (wrs m L b (partsN b.length) (partsN b.length)).2 == 8 }, 0, 8) := by
      unfold appendM
      simp only [c8]
      rw [if_pos (by decide)]
    rw [happ]
    exact .inr ⟨rfl, hdn, h1, hoff, hload⟩

theorem LI.sim {c m : Dv} {L : Lg} {rs : List Rc} {k : Nat} (s : Sim c m) (h : LI m L rs k) (hd : c.down = false) : LI c L rs k :=
  ⟨h.di.sim s, h.seen.congr s.len (fun x _ _ => s.seen x) h.di.big, by rw [s.load]; exact h.load, h.off.sim s, h.chain, by rw [s.len]; exact h.ring, h.list, h.up, hd, h.data⟩

/-- Sync, whatever the limit. -/
theorem LI.sync {m : Dv} {L : Lg} {rs : List Rc} {k : Nat} (h : LI m L rs k) (hw : m.Wf) :
    (m.sync.2 = 0 ∧ LI m.sync.1 L rs rs.length ∧ m.sync.1.unsure = [] ∧ (m.limit = 0 → m.sync.1.limit = 0)) ∨
    (m.sync.2 = 8 ∧ m.sync.1.down = true ∧ DI m.sync.1 L.blk rs k ∧ Off m.sync.1 ∧ loadM m.sync.1 = some L.blk) := by
  have hbig := h.di.big
  rcases sync_up h.mup with ⟨c0, hd, s, hl⟩ | ⟨c8, hd, s⟩
  · refine .inl ⟨c0, LI.sim s (m := m.synced) ?_ hd, s.unsure, hl⟩
    refine ⟨h.di.synced hw h.seen, h.seen.congr (synced_len m) (fun x _ hx => seen_synced hw hx) hbig, ?_, (fun u hu => by cases hu), h.chain, by rw [synced_len]; exact h.ring, h.list, h.up, h.mup, h.data⟩
    rw [← h.load]
    exact loadM_seen (seen_synced hw (by omega)) (seen_synced hw (by omega))
  · exact .inr ⟨c8, hd, h.di.sim s, h.off.sim s, by rw [s.load]; exact h.load⟩

/-- What a crash leaves of a block that is written and not sure. -/
theorem cut_block {s : Dv} (hu : s.unsure = []) (h2 : 2 ≤ s.sure.length) {B : Blk} (hf : B.Fit) (hg : nextGen (loadM s) B.gen) (a b : Nat) :
    loadM ((s.add (B.gen % 2) (blkSec B)).crash a b) = loadM s ∨ loadM ((s.add (B.gen % 2) (blkSec B)).crash a b) = some B := by
  obtain ⟨t, ht⟩ : ∃ t : Dv, t = { s with limit := 0, down := false } := ⟨_, rfl⟩
  have hs : Sim s t := by rw [ht]; exact ⟨rfl, rfl⟩
  have htidy : Tidy t := by rw [ht]; exact ⟨⟨rfl, rfl⟩, hu, h2⟩
  rw [hs.load] at hg ⊢
  have hlen : (s.add (B.gen % 2) (blkSec B)).sure.length = t.sure.length := by rw [ht]; rfl
  have hc : Tidy ((s.add (B.gen % 2) (blkSec B)).crash a b) := crash_tidy (m := s.add (B.gen % 2) (blkSec B)) h2 _ _
  have hcs : ((s.add (B.gen % 2) (blkSec B)).crash a b).sure = crashOne a b t.sure 0 (B.gen % 2, blkSec B) := by
    have e : (s.add (B.gen % 2) (blkSec B)).unsure = [(B.gen % 2, blkSec B)] := by
      unfold Dv.add
      rw [hu, pad_sec]
      rfl
    show crashFrom a b 0 s.sure (s.add (B.gen % 2) (blkSec B)).unsure = _
    rw [e, ht]
    rfl
  generalize (s.add (B.gen % 2) (blkSec B)).crash a b = c at hc hcs
  have htl := htidy.two
  unfold crashOne at hcs
  by_cases hb : bitAt b 0 = true
  · rw [if_pos hb] at hcs
    have hclen : c.sure.length = t.sure.length := by rw [hcs]; simp
    refine .inl (loadM_lost hg ?_ ?_)
    · rw [blkAt_clean hc.clean (by omega)]
      have : c.sure[B.gen % 2]'(by omega) = ⟨blkSec B, true⟩ := by simp only [hcs]; rw [List.getElem_set, if_pos rfl]
      rw [this]; rfl
    · refine blkAt_of htidy hc (by omega) (by omega) ?_
      simp only [hcs]
      rw [List.getElem_set, if_neg (by omega)]
  · rw [if_neg hb] at hcs
    by_cases ha : bitAt a 0 = true
    · rw [if_pos ha] at hcs
      refine .inr ?_
      rw [← load_put htidy.clean htl hf hg]
      exact cut_same (htidy.put B) hc hcs
    · rw [if_neg ha] at hcs
      exact .inl (cut_same htidy hc hcs)

/-- Save, whatever the limit: done, or cut off. -/
theorem saved_law {m : Dv} (hw : m.Wf) (hd : m.down = false) {B B' : Blk} (hl : loadM m = some B) (ho : Off m) (hf : B'.Fit) (hg : B'.gen = B.gen + 1) {rs rs' : List Rc} {k k0 k' : Nat} (d0 : DI m B rs k) (d0s : DI m.synced B rs k0) (d1 : DI m.synced B' rs' k') :
    ((m.saved B').2 = 0 ∧ (m.saved B').1.down = false ∧ Sim (m.saved B').1 (m.synced.put B') ∧ (m.limit = 0 → (m.saved B').1.limit = 0)) ∨
    ((m.saved B').2 = 8 ∧ (m.saved B').1.down = true ∧ Safe (m.saved B').1 (fun X R K => (X = B ∧ R = rs ∧ (K = k ∨ K = k0)) ∨ (X = B' ∧ R = rs' ∧ K = k'))) := by
  have hbig := d0.big
  have hls : loadM m.synced = some B := by rw [← hl]; exact loadM_seen (seen_synced hw (by omega)) (seen_synced hw (by omega))
  have hgs : nextGen (loadM m.synced) B'.gen := by rw [hls]; exact hg
  have hkl : B'.gen % 2 < m.synced.sure.length := by rw [synced_len]; omega
  have hsec : (blkSec B').length ≤ 512 := by rw [blkSec_len]; decide
  unfold Dv.saved
  rcases sync_up hd with ⟨c0, hd1, s1, hl1⟩ | ⟨c8, hd1, s1⟩
  · rw [if_neg (by rw [c0]; simp)]
    rcases write_up hd1 (k := B'.gen % 2) (by rw [s1.len]; exact hkl) hsec with ⟨w0, hd2, s2, hl2⟩ | ⟨w8, hd2, s2⟩
    · rw [if_neg (by rw [w0]; simp)]
      have s12 : Sim (m.sync.1.add (B'.gen % 2) (blkSec B')) (m.synced.add (B'.gen % 2) (blkSec B')) := ⟨s1.sure, by show m.sync.1.unsure ++ _ = m.synced.unsure ++ _; rw [s1.unsure]⟩
      have s2' := s2.trans s12
      rcases sync_up hd2 with ⟨y0, hd3, s3, hl3⟩ | ⟨y8, hd3, s3⟩
      · refine .inl ⟨y0, hd3, s3.trans (s2'.synced.trans ⟨?_, rfl⟩), fun h0 => hl3 (hl2 (hl1 h0))⟩
        show settleAll m.synced.sure (m.synced.unsure ++ [(B'.gen % 2, pad (blkSec B'))]) = m.synced.sure.set _ _
        rw [pad_sec]
        rfl
      · refine .inr ⟨y8, hd3, Safe.sim (s3.trans s2') (fun a b => ?_)⟩
        rcases cut_block (s := m.synced) rfl (by rw [synced_len]; omega) hf hgs a b with h | h
        · exact ⟨B, rs, k0, by rw [h]; exact hls, (d0s.low (by omega)).crash a b, .inl ⟨rfl, rfl, .inr rfl⟩⟩
        · exact ⟨B', rs', k', h, (d1.low (by omega)).crash a b, .inr ⟨rfl, rfl, rfl⟩⟩
    · rw [if_pos (by rw [w8]; decide)]
      refine .inr ⟨w8, hd2, Safe.sim (s2.trans s1) ((safe_off d0s (fun u hu => by cases hu) hls).mono fun X R K h => .inl ⟨h.1, h.2.1, .inr h.2.2⟩)⟩
  · rw [if_pos (by rw [c8]; decide)]
    exact .inr ⟨c8, hd1, Safe.sim s1 ((safe_off d0 ho hl).mono fun X R K h => .inl ⟨h.1, h.2.1, .inl h.2.2⟩)⟩

end Go.Proofs.Ytpimjachhfnlfaa
