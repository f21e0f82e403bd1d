/-
  Plain laws of chapter 11: what a scan finds is what was appended. No program in sight.
-/
import Derived.Test.YtpimjachhfnlfaaSOpen
import Derived.Test.YtpimjachhfnlfaaSActLaw
namespace Go.Proofs.Ytpimjachhfnlfaa
open Go.RowKit

theorem Chain.place0 {l : List (Nat × Nat)} {a z : Nat} (h : Chain a l z) : placeAt l z 0 = a := by
  cases l with
  | nil => exact (show a = z from h).symm
  | cons r l => exact h.1

theorem Chain.same : ∀ {l l' : List (Nat × Nat)} {a z z' : Nat} (_ : Chain a l z) (_ : Chain a l' z') (i : Nat) (_ : l.take i = l'.take i) (_ : i ≤ l.length) (_ : i ≤ l'.length), placeAt l z i = placeAt l' z' i
  | l, l', a, z, z', h, h', 0, _, _, _ => by rw [h.place0, h'.place0]
  | [], l', a, z, z', h, h', i + 1, _, hi, _ => by simp at hi
  | x :: l, [], a, z, z', h, h', i + 1, _, _, hi => by simp at hi
  | x :: l, y :: l', a, z, z', h, h', i + 1, he, hi, hi' => by
    simp only [List.take_succ_cons, List.cons.injEq] at he
    obtain ⟨rfl, he⟩ := he
    show placeAt l z i = placeAt l' z' i
    exact Chain.same h.2.2 h'.2.2 i he (by simpa using hi) (by simpa using hi')

theorem placeAt_some {l : List (Nat × Nat)} {z i : Nat} {x : Nat × Nat} (h : l[i]? = some x) : placeAt l z i = x.1 := by unfold placeAt; rw [h]

theorem partAt_seen {m : Dv} {place : Nat} {h : Hd} {d : List UInt8} (e : partAt m place = some (h, d)) : ∃ l, m.seen (m.pos place) = some l ∧ opened l = some (h, d) := by
  unfold partAt at e
  exact Option.bind_eq_some_iff.1 e

theorem seen_partAt {m : Dv} {place : Nat} {l : List UInt8} {x : Hd × List UInt8} (hs : m.seen (m.pos place) = some l) (ho : opened l = some x) : partAt m place = some x := by
  unfold partAt
  rw [hs]
  exact ho

section
variable {m : Dv} {B : Blk} {rs : List Rc} {k : Nat} {l : List (Nat × Nat)} {z : Nat}

/-- One record that is found is one that was appended. -/
theorem scan_one (h : DI m B rs k) (s : Scanned m B l z) {i : Nat} {x : Nat × Nat} (hx : l[i]? = some x) (he : l.take i = (rs.map Rc.pair).take i) (hir : i ≤ rs.length) :
    ∃ r, rs[i]? = some r ∧ r.pair = x ∧ ∀ j, j < r.n → ∃ d h, m.seen (m.pos (r.place + j)) = some d ∧ PartOf (B.first + i) r j d h := by
  obtain ⟨z', hc, hz'⟩ := h.chain
  have hil := (List.getElem?_eq_some_iff.1 hx).1
  obtain ⟨-, h1, hall⟩ := s.all i x hx
  obtain ⟨hd0, d0, hp0, hk0⟩ := hall 0 h1
  obtain ⟨l0, hs0, ho0⟩ := partAt_seen hp0
  have hplace := s.chain.same hc i he (by omega) (by rw [List.length_map]; exact hir)
  rw [placeAt_some hx] at hplace
  have main : ∀ r, rs[i]? = some r → hd0.parts = r.n → r.pair = x := by
    intro r hr hpn
    have e := placeAt_some (z := z') (pair_at hr)
    have e2 : x.1 = r.place := hplace.trans e
    have e3 : x.2 = r.n := hk0.parts.symm.trans hpn
    unfold Rc.pair
    rw [← e2, ← e3]
  rcases Nat.lt_or_ge i k with hik | hik
  · have hlt : i < rs.length := by have := h.c3; omega
    obtain ⟨r, hr⟩ : ∃ r, rs[i]? = some r := ⟨_, List.getElem?_eq_getElem hlt⟩
    have hn1 := (hc.at (pair_at hr)).2.2
    simp only at hn1
    obtain ⟨d, hh, hf, hp, -⟩ := h.firm i r hik hr 0 hn1
    have e2 : x.1 = r.place := hplace.trans (placeAt_some (z := z') (pair_at hr))
    rw [e2, hf.seen] at hs0
    cases hs0
    have e4 := hp.op
    rw [ho0] at e4
    cases e4
    refine ⟨r, hr, main r hr hp.parts, fun j hj => ?_⟩
    obtain ⟨d, hh, hf, hp, -⟩ := h.firm i r hik hr j hj
    exact ⟨d, hh, hf.seen, hp⟩
  · have hcnt : B.count ≤ B.first + i := by have := h.c2; omega
    have hbig := h.big
    have key : ∀ j, j < x.2 → ∃ d h r, m.seen (m.pos (x.1 + j)) = some d ∧ rs[i]? = some r ∧ h.parts = r.n ∧ opened d = some (h, piece r.data j) ∧ h.kind = 2 ∧ h.seq = B.first + i ∧ h.part = j := by
      intro j hj
      obtain ⟨hd, d, hp, hk⟩ := hall j hj
      obtain ⟨l1, hs1, ho1⟩ := partAt_seen hp
      obtain ⟨-, h2⟩ := h.only _ l1 hd d (pos_ge m _) (seen_poss (pos_lt hbig _) hs1) ho1 hk.kind
      obtain ⟨i', r, hr, hseq, -, -, hn, hdat⟩ := h2 (hk.epoch hcnt) (by rw [hk.seq]; exact hcnt)
      have : i' = i := by have := hk.seq; omega
      subst this
      exact ⟨l1, hd, r, hs1, hr, hn, by rw [ho1, hdat, hk.part], hk.kind, hk.seq, hk.part⟩
    obtain ⟨d, hh, r, a1, a2, a3, a4, a5⟩ := key 0 h1
    rw [a1] at hs0
    cases hs0
    rw [a4] at ho0
    cases ho0
    have hpair := main r a2 a3
    refine ⟨r, a2, hpair, fun j hj => ?_⟩
    have e1 : x.1 = r.place := by rw [← hpair]; rfl
    have e2 : x.2 = r.n := by rw [← hpair]; rfl
    obtain ⟨d, hh, r', b1, b2, b3, b4, b5, b6, b7⟩ := key j (by rw [e2]; exact hj)
    rw [a2] at b2
    cases b2
    rw [e1] at b1
    exact ⟨d, hh, b1, b4, b5, b6, b7, b3⟩

theorem scan_take (h : DI m B rs k) (s : Scanned m B l z) : ∀ i, i ≤ l.length → i ≤ rs.length ∧ l.take i = (rs.map Rc.pair).take i := by
  intro i
  induction i with
  | zero => intro _; exact ⟨Nat.zero_le _, by simp⟩
  | succ i ih =>
    intro hi
    obtain ⟨h1, h2⟩ := ih (by omega)
    have hx : l[i]? = some l[i] := List.getElem?_eq_getElem (by omega)
    obtain ⟨r, hr, hp, -⟩ := scan_one h s hx h2 h1
    have hlt := (List.getElem?_eq_some_iff.1 hr).1
    refine ⟨hlt, ?_⟩
    rw [List.take_add_one, List.take_add_one, h2, hx, pair_at hr, ← hp]
    rfl

/-- What a scan finds: what was sure, and of the rest the first few. -/
theorem scan_law (h : DI m B rs k) (s : Scanned m B l z) : k ≤ l.length ∧ l.length ≤ rs.length ∧ l = (rs.take l.length).map Rc.pair ∧ ∀ i r, i < l.length → rs[i]? = some r → ∀ j, j < r.n → ∃ d h, m.seen (m.pos (r.place + j)) = some d ∧ PartOf (B.first + i) r j d h := by
  obtain ⟨h1, h2⟩ := scan_take h s l.length (Nat.le_refl _)
  rw [List.take_length] at h2
  refine ⟨?_, h1, by rw [List.map_take]; exact h2, ?_⟩
  · rcases Nat.lt_or_ge l.length k with hlt | hge
    · exfalso
      obtain ⟨z', hc, hz'⟩ := h.chain
      have hlt2 : l.length < rs.length := by have := h.c3; omega
      obtain ⟨r, hr⟩ : ∃ r, rs[l.length]? = some r := ⟨_, List.getElem?_eq_getElem hlt2⟩
      have hat := hc.at (pair_at hr)
      simp only at hat
      have hplace := s.chain.same hc l.length (by rw [List.take_length]; exact h2) (Nat.le_refl _) (by rw [List.length_map]; omega)
      have e0 : placeAt l z l.length = z := by unfold placeAt; rw [List.getElem?_eq_none (Nat.le_refl _)]
      rw [e0, placeAt_some (pair_at hr)] at hplace
      have hplace : z = r.place := hplace
      refine s.stop r.n ⟨hat.2.2, fun j hj => ?_⟩
      obtain ⟨d, hh, hf, hp, hep⟩ := h.firm l.length r hlt hr j hj
      refine ⟨hh, _, seen_partAt (by rw [hplace]; exact hf.seen) hp.op, hp.kind, hp.seq, hp.part, hp.parts, hep, by omega⟩
    · exact hge
  · intro i r hi hr
    obtain ⟨h3, h4⟩ := scan_take h s i (by omega)
    obtain ⟨r', hr', -, hparts⟩ := scan_one h s (List.getElem?_eq_getElem hi) h4 h3
    rw [hr] at hr'
    cases hr'
    exact hparts

end

theorem firm_clean {m : Dv} (hu : m.unsure = []) {x : Nat} (hx : x < m.sure.length) {d : List UInt8} (hs : m.seen x = some d) : Firm m x d := by
  refine ⟨?_, fun u hu' => by rw [hu] at hu'; cases hu'⟩
  rw [seen_clean hu hx] at hs
  split at hs
  · cases hs
  · rename_i ht
    cases hs
    rw [List.getElem?_eq_getElem hx]
    congr 1
    have : m.sure[x].torn = false := by simpa using ht
    rw [← this]

/-- The records that a scan finds, and the block that comes next. -/
theorem scan_next {m : Dv} {B : Blk} {rs : List Rc} {k : Nat} {l : List (Nat × Nat)} {z : Nat} (h : DI m B rs k) (hu : m.unsure = []) (s : Scanned m B l z) : DI m (openLg B l z).blk (rs.take l.length) l.length := by
  obtain ⟨h1, h2, -, h4⟩ := scan_law h s
  refine h.epoch (g := B.gen + 1) h2 (fun i r hi hr j hj => ?_)
  obtain ⟨d, hh, a1, a2⟩ := h4 i r hi hr j hj
  exact ⟨d, hh, firm_clean hu (pos_lt h.big _) a1, a2⟩

theorem DI.seenAll {m : Dv} {B : Blk} {rs : List Rc} {k : Nat} (h : DI m B rs k) (hk : rs.length ≤ k) : SeenAll m B rs := by
  intro i r hr j hj
  have hlt := (List.getElem?_eq_some_iff.1 hr).1
  obtain ⟨d, hh, a1, a2, a3⟩ := h.firm i r (by omega) hr j hj
  exact ⟨d, hh, a1.seen, a2, a3⟩

/-- The device of a log behind an Open: up and clean; its Save is done. -/
theorem open_up {m : Dv} {B : Blk} {rs : List Rc} {k : Nat} {l : List (Nat × Nat)} {z : Nat} (h : DI m B rs k) (hu : m.unsure = []) (hl : Live m) (hload : loadM m = some B) (hfit : (openLg B l z).blk.Fit) (hdata : ∀ r ∈ rs, r.n = partsN r.data.length ∧ r.n < 256) (s : Scanned m B l z) (hz : z + 2 ≤ B.from_ + m.sure.length) :
    (m.saved (openLg B l z).blk).2 = 0 ∧ LI (m.saved (openLg B l z).blk).1 (openLg B l z) (rs.take l.length) l.length ∧ (m.saved (openLg B l z).blk).1.unsure = [] ∧ Live (m.saved (openLg B l z).blk).1 ∧ k ≤ l.length ∧ l.length ≤ rs.length := by
  obtain ⟨h1, h2, h3, h4⟩ := scan_law h s
  have hn := scan_next h hu s
  have hbig := h.big
  have hsv := saved_live hl hu (by omega) (openLg B l z).blk
  rw [hsv]
  have hg : nextGen (loadM m) (openLg B l z).blk.gen := by rw [hload]; rfl
  have hp := hn.put (B' := (openLg B l z).blk) hu
  have hlen : (rs.take l.length).length = l.length := by rw [List.length_take]; omega
  refine ⟨rfl, ⟨hp, hp.seenAll (by rw [hlen]; exact Nat.le_refl _), load_put hu (by omega) hfit hg, (fun u hu' => ?_), s.chain, by show z + 2 ≤ B.from_ + (m.put _).sure.length; rw [put_len]; exact hz, h3, rfl, hl.up, fun r hr => hdata r (List.mem_of_mem_take hr)⟩, hu, put_live hl _, h1, h2⟩
  have hu'' : (m.put (openLg B l z).blk).unsure = [] := hu
  rw [hu''] at hu'
  cases hu'

/-- The device behind an Open that is cut off, or not: what a crash leaves. -/
theorem open_cut {m : Dv} {B : Blk} {rs : List Rc} {k : Nat} {l : List (Nat × Nat)} {z : Nat} (hw : m.Wf) (h : DI m B rs k) (hu : m.unsure = []) (hd : m.down = false) (hload : loadM m = some B) (hfit : (openLg B l z).blk.Fit) (s : Scanned m B l z) :
    ((m.saved (openLg B l z).blk).2 = 0 ∨ (m.saved (openLg B l z).blk).2 = 8) ∧ k ≤ l.length ∧ l.length ≤ rs.length ∧
      Safe (m.saved (openLg B l z).blk).1 (fun X R K => (X = B ∧ R = rs ∧ K = k) ∨ (X = (openLg B l z).blk ∧ R = rs.take l.length ∧ K = l.length)) := by
  obtain ⟨h1, h2, h3, h4⟩ := scan_law h s
  have hn := scan_next h hu s
  have hbig := h.big
  have hoff : Off m := fun u hu' => by rw [hu] at hu'; cases hu'
  have hsame : Sim m.synced m := by
    refine ⟨?_, by show [] = m.unsure; rw [hu]⟩
    show settleAll m.sure m.unsure = m.sure
    rw [hu]
    rfl
  rcases saved_law hw hd hload hoff hfit rfl h (h.sim hsame) (hn.sim hsame) with ⟨c0, c1, c2, c3⟩ | ⟨c8, c1, c2⟩
  · refine ⟨.inl c0, h1, h2, Safe.sim c2 ?_⟩
    have hp : DI (m.synced.put (openLg B l z).blk) (openLg B l z).blk (rs.take l.length) l.length := (hn.sim hsame).put rfl
    have hg : nextGen (loadM m.synced) (openLg B l z).blk.gen := by rw [hsame.load, hload]; rfl
    exact (safe_off hp (fun u hu' => by cases hu') (load_put rfl (by rw [synced_len]; omega) hfit hg)).mono fun X R K hh => .inr hh
  · refine ⟨.inr c8, h1, h2, c2.mono fun X R K hh => ?_⟩
    rcases hh with ⟨a, b, c⟩ | hh
    · exact .inl ⟨a, b, by rcases c with c | c <;> exact c⟩
    · exact .inr hh

/-- What a log of records reads. -/
theorem LI.read {m : Dv} {L : Lg} {rs : List Rc} {k i : Nat} {r : Rc} (h : LI m L rs k) (hi : rs[i]? = some r) : ∃ hk : i < L.list.length, (L.list[i]).2 ≤ 255 ∧ readM m (L.list[i]).1 (L.list[i]).2 = some r.data := by
  have hp : L.list[i]? = some (r.place, r.n) := by rw [h.list]; exact pair_at hi
  obtain ⟨hk, e⟩ := List.getElem?_eq_some_iff.1 hp
  refine ⟨hk, ?_⟩
  rw [e]
  have hd := h.data r (List.mem_of_getElem? hi)
  refine ⟨by show r.n ≤ 255; omega, ?_⟩
  have hh : ∀ j, j < r.n → ∃ l, m.seen (m.pos (r.place + j)) = some l ∧ ∃ hd, opened l = some (hd, piece r.data j) := by
    intro j hj
    obtain ⟨d, hh, a1, a2, -⟩ := h.seen i r hi j hj
    exact ⟨d, a1, hh, a2.op⟩
  have key : ∀ t, t ≤ r.n → readM m r.place t = some (r.data.take (t * 496)) := by
    intro t
    induction t with
    | zero => intro _; simp [readM]
    | succ t ih =>
      intro ht
      obtain ⟨l, h1, hd', h2⟩ := hh t (by omega)
      unfold readM
      rw [ih (by omega)]
      simp only [Option.bind_some, h1, h2, Option.map_some]
      rw [take_piece]
  show readM m r.place r.n = some r.data
  rw [key r.n (Nat.le_refl _), List.take_of_length_le]
  rw [hd.1]
  exact parts_cover _

end Go.Proofs.Ytpimjachhfnlfaa
