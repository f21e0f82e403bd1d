/-
  Plain laws of chapter 11: the records of a log behind appends, a Sync, a Save and a crash. No program in sight.
-/
import Derived.Test.YtpimjachhfnlfaaSCrash
namespace Go.Proofs.Ytpimjachhfnlfaa
open Go.RowKit

/-- A record: its first place, how many places it takes, its bytes. -/
structure Rc where
  place : Nat
  n : Nat
  data : List UInt8

def Rc.pair (r : Rc) : Nat × Nat := (r.place, r.n)

/-- The sector d is the j-th part of the record r, number s. -/
structure PartOf (s : Nat) (r : Rc) (j : Nat) (d : List UInt8) (h : Hd) : Prop where
  op : opened d = some (h, piece r.data j)
  kind : h.kind = 2
  seq : h.seq = s
  part : h.part = j
  parts : h.parts = r.n

/-- What a device holds, whatever happens to what is not sure: the block counts B.count records as sure, k are. -/
structure DI (m : Dv) (B : Blk) (rs : List Rc) (k : Nat) : Prop where
  big : 3 ≤ m.sure.length
  chain : ∃ z, Chain B.from_ (rs.map Rc.pair) z ∧ z + 2 ≤ B.from_ + m.sure.length
  c1 : B.first ≤ B.count
  c2 : B.count ≤ B.first + k
  c3 : k ≤ rs.length
  firm : ∀ i r, i < k → rs[i]? = some r → ∀ j, j < r.n → ∃ d h, Firm m (m.pos (r.place + j)) d ∧ PartOf (B.first + i) r j d h ∧ (B.count ≤ B.first + i → h.epoch = B.epoch)
  only : ∀ x d h dat, 2 ≤ x → Poss m x d → opened d = some (h, dat) → h.kind = 2 → h.epoch ≤ B.epoch ∧
    (h.epoch = B.epoch → B.count ≤ h.seq → ∃ i r, rs[i]? = some r ∧ h.seq = B.first + i ∧ x = m.pos (r.place + h.part) ∧ h.part < r.n ∧ h.parts = r.n ∧ dat = piece r.data h.part)

/-- All records can be seen. -/
def SeenAll (m : Dv) (B : Blk) (rs : List Rc) : Prop :=
  ∀ i r, rs[i]? = some r → ∀ j, j < r.n → ∃ d h, m.seen (m.pos (r.place + j)) = some d ∧ PartOf (B.first + i) r j d h ∧ (B.count ≤ B.first + i → h.epoch = B.epoch)

theorem DI.sim {c m : Dv} {B : Blk} {rs : List Rc} {k : Nat} (s : Sim c m) (h : DI m B rs k) : DI c B rs k := by
  have hl := s.len
  refine ⟨by rw [hl]; exact h.big, ?_, h.c1, h.c2, h.c3, ?_, ?_⟩
  · obtain ⟨z, h1, h2⟩ := h.chain
    exact ⟨z, h1, by rw [hl]; exact h2⟩
  · intro i r hi hr j hj
    obtain ⟨d, hd, h1, h2⟩ := h.firm i r hi hr j hj
    refine ⟨d, hd, ?_, h2⟩
    rw [pos_len hl]
    exact s.firm h1
  · intro x d hd dat hx hp ho hk
    obtain ⟨h1, h2⟩ := h.only x d hd dat hx (s.poss hp) ho hk
    refine ⟨h1, fun he hc => ?_⟩
    obtain ⟨i, r, a1, a2, a3, a4⟩ := h2 he hc
    exact ⟨i, r, a1, a2, by rw [pos_len hl]; exact a3, a4⟩

theorem SeenAll.congr {c m : Dv} {B : Blk} {rs : List Rc} (hl : c.sure.length = m.sure.length) (hs : ∀ x, 2 ≤ x → x < m.sure.length → c.seen x = m.seen x) (h3 : 3 ≤ m.sure.length) (h : SeenAll m B rs) : SeenAll c B rs := by
  intro i r hr j hj
  obtain ⟨d, hd, h1, h2⟩ := h i r hr j hj
  refine ⟨d, hd, ?_, h2⟩
  rw [pos_len hl, hs _ (pos_ge m _) (pos_lt h3 _)]
  exact h1

theorem DI.crash {m : Dv} {B : Blk} {rs : List Rc} {k : Nat} (h : DI m B rs k) (a b : Nat) : DI (m.crash a b) B rs k := by
  have hl := crash_len m a b
  refine ⟨by rw [hl]; exact h.big, ?_, h.c1, h.c2, h.c3, ?_, ?_⟩
  · obtain ⟨z, h1, h2⟩ := h.chain
    exact ⟨z, h1, by rw [hl]; exact h2⟩
  · intro i r hi hr j hj
    obtain ⟨d, hd, h1, h2⟩ := h.firm i r hi hr j hj
    refine ⟨d, hd, ?_, h2⟩
    rw [pos_len hl]
    exact firm_crash h1
  · intro x d hd dat hx hp ho hk
    obtain ⟨h1, h2⟩ := h.only x d hd dat hx (poss_crash hp) ho hk
    refine ⟨h1, fun he hc => ?_⟩
    obtain ⟨i, r, a1, a2, a3, a4⟩ := h2 he hc
    exact ⟨i, r, a1, a2, by rw [pos_len hl]; exact a3, a4⟩

/-- Behind a Sync all that is seen is firm. -/
theorem DI.synced {m : Dv} {B : Blk} {rs : List Rc} {k : Nat} (h : DI m B rs k) (hw : m.Wf) (hs : SeenAll m B rs) : DI m.synced B rs rs.length := by
  have hl := synced_len m
  refine ⟨by rw [hl]; exact h.big, ?_, h.c1, Nat.le_trans h.c2 (by have := h.c3; omega), Nat.le_refl _, ?_, ?_⟩
  · obtain ⟨z, h1, h2⟩ := h.chain
    exact ⟨z, h1, by rw [hl]; exact h2⟩
  · intro i r hi hr j hj
    obtain ⟨d, hd, h1, h2⟩ := hs i r hr j hj
    refine ⟨d, hd, ?_, h2⟩
    rw [pos_len hl]
    exact firm_of_seen hw (pos_lt h.big _) h1
  · intro x d hd dat hx hp ho hk
    obtain ⟨h1, h2⟩ := h.only x d hd dat hx (poss_synced hw hp) ho hk
    refine ⟨h1, fun he hc => ?_⟩
    obtain ⟨i, r, a1, a2, a3, a4⟩ := h2 he hc
    exact ⟨i, r, a1, a2, by rw [pos_len hl]; exact a3, a4⟩

/-- Fewer that are sure. -/
theorem DI.less {m : Dv} {B : Blk} {rs : List Rc} {k k' : Nat} (h : DI m B rs k) (h1 : B.count ≤ B.first + k') (h2 : k' ≤ k) : DI m B rs k' :=
  ⟨h.big, h.chain, h.c1, h1, Nat.le_trans h2 h.c3, fun i r hi => h.firm i r (by omega), h.only⟩

/-- A write to one of the two first places. -/
theorem DI.low {m : Dv} {B : Blk} {rs : List Rc} {k x : Nat} {b : List UInt8} (h : DI m B rs k) (hx : x < 2) : DI (m.add x b) B rs k := by
  refine ⟨h.big, h.chain, h.c1, h.c2, h.c3, ?_, ?_⟩
  · intro i r hi hr j hj
    obtain ⟨d, hd, h1, h2⟩ := h.firm i r hi hr j hj
    exact ⟨d, hd, (show Firm (m.add x b) (m.pos (r.place + j)) d from firm_add h1 (by have := pos_ge m (r.place + j); omega)), h2⟩
  · intro y d hd dat hy hp ho hk
    rcases poss_add hp with hp | ⟨rfl, _⟩
    · exact h.only y d hd dat hy hp ho hk
    · omega

/-- A block that is written and sure. -/
theorem DI.put {m : Dv} {B B' : Blk} {rs : List Rc} {k : Nat} (h : DI m B rs k) (hu : m.unsure = []) : DI (m.put B') B rs k := by
  have hl := put_len m B'
  refine ⟨by rw [hl]; exact h.big, ?_, h.c1, h.c2, h.c3, ?_, ?_⟩
  · obtain ⟨z, h1, h2⟩ := h.chain
    exact ⟨z, h1, by rw [hl]; exact h2⟩
  · intro i r hi hr j hj
    obtain ⟨d, hd, h1, h2⟩ := h.firm i r hi hr j hj
    refine ⟨d, hd, ?_, h2⟩
    rw [pos_len hl]
    exact firm_put (pos_ge m _) h1
  · intro x d hd dat hx hp ho hk
    obtain ⟨h1, h2⟩ := h.only x d hd dat hx (poss_put hu hx hp) ho hk
    refine ⟨h1, fun he hc => ?_⟩
    obtain ⟨i, r, a1, a2, a3, a4⟩ := h2 he hc
    exact ⟨i, r, a1, a2, by rw [pos_len hl]; exact a3, a4⟩

theorem Chain.at : ∀ {l : List (Nat × Nat)} {a z : Nat} (_ : Chain a l z) {i : Nat} {r : Nat × Nat} (_ : l[i]? = some r), a + i ≤ r.1 ∧ r.1 + r.2 ≤ z ∧ 1 ≤ r.2
  | [], a, z, h, i, r, hr => by simp at hr
  | x :: l, a, z, h, 0, r, hr => by
    simp only [List.getElem?_cons_zero, Option.some.injEq] at hr
    subst hr
    have := h.1
    have := h.2.1
    have := h.2.2.le
    omega
  | x :: l, a, z, h, i + 1, r, hr => by
    simp only [List.getElem?_cons_succ] at hr
    have := h.1
    have := h.2.1
    have h3 := h.2.2.at hr
    omega

/-- Where records lie one behind the other, no two have a place in common. -/
theorem Chain.apart : ∀ {l : List (Nat × Nat)} {a z : Nat} (_ : Chain a l z) {i i' : Nat} {r r' : Nat × Nat} (_ : l[i]? = some r) (_ : l[i']? = some r') (_ : i < i'), r.1 + r.2 ≤ r'.1
  | [], a, z, h, i, i', r, r', hr, hr', hi => by simp at hr
  | x :: l, a, z, h, 0, i' + 1, r, r', hr, hr', hi => by
    simp only [List.getElem?_cons_zero, Option.some.injEq] at hr
    subst hr
    simp only [List.getElem?_cons_succ] at hr'
    have := h.1
    have := (h.2.2.at hr').1
    omega
  | x :: l, a, z, h, i + 1, i' + 1, r, r', hr, hr', hi => by
    simp only [List.getElem?_cons_succ] at hr hr'
    exact h.2.2.apart hr hr' (by omega)

theorem pair_at {rs : List Rc} {i : Nat} {r : Rc} (h : rs[i]? = some r) : (rs.map Rc.pair)[i]? = some (r.place, r.n) := by
  rw [List.getElem?_map, h]; rfl

/-- A place of one record is no place of another. -/
theorem pos_apart {m : Dv} {B : Blk} {rs : List Rc} {z : Nat} (hc : Chain B.from_ (rs.map Rc.pair) z) (hz : z + 2 ≤ B.from_ + m.sure.length) {i i' j j' : Nat} {r r' : Rc} (hr : rs[i]? = some r) (hr' : rs[i']? = some r') (hj : j < r.n) (hj' : j' < r'.n) (he : m.pos (r.place + j) = m.pos (r'.place + j')) : i = i' ∧ j = j' := by
  have h1 := hc.at (pair_at hr)
  have h2 := hc.at (pair_at hr')
  simp only at h1 h2
  have e := pos_inj (m := m) (a := B.from_) (i := r.place + j - B.from_) (j := r'.place + j' - B.from_) (by omega) (by omega) (by rw [show B.from_ + (r.place + j - B.from_) = r.place + j by omega, show B.from_ + (r'.place + j' - B.from_) = r'.place + j' by omega]; exact he)
  have e2 : r.place + j = r'.place + j' := by omega
  rcases Nat.lt_trichotomy i i' with h | h | h
  · have := hc.apart (pair_at hr) (pair_at hr') h
    simp only at this
    omega
  · subst h
    rw [hr] at hr'
    cases hr'
    exact ⟨rfl, by omega⟩
  · have := hc.apart (pair_at hr') (pair_at hr) h
    simp only at this
    omega

/-- A part of a record that is not counted as sure is written. -/
theorem DI.add {m : Dv} {B : Blk} {rs : List Rc} {k i j : Nat} {r : Rc} {d : List UInt8} {hd : Hd} (h : DI m B rs k) (hr : rs[i]? = some r) (hi : k ≤ i) (hj : j < r.n) (hp : PartOf (B.first + i) r j d hd) (he : hd.epoch = B.epoch) (hl : d.length = 512) : DI (m.add (m.pos (r.place + j)) d) B rs k := by
  obtain ⟨z, hc, hz⟩ := h.chain
  refine ⟨h.big, h.chain, h.c1, h.c2, h.c3, ?_, ?_⟩
  · intro i' r' hi' hr' j' hj'
    obtain ⟨d', hd', h1, h2⟩ := h.firm i' r' hi' hr' j' hj'
    have hne : m.pos (r.place + j) ≠ m.pos (r'.place + j') := by
      intro e
      have := (pos_apart hc hz hr hr' hj hj' e).1
      omega
    exact ⟨d', hd', (show Firm (m.add (m.pos (r.place + j)) d) (m.pos (r'.place + j')) d' from firm_add h1 hne), h2⟩
  · intro x d' hd' dat hx hpo ho hk
    rcases poss_add hpo with hpo | ⟨rfl, rfl⟩
    · exact h.only x d' hd' dat hx hpo ho hk
    · rw [pad_512 hl, hp.op] at ho
      cases ho
      refine ⟨Nat.le_of_eq he, fun _ _ => ⟨i, r, hr, hp.seq, ?_, ?_, hp.parts, ?_⟩⟩
      · rw [hp.part]; rfl
      · rw [hp.part]; exact hj
      · rw [hp.part]

/-- A record more, of which nothing is there yet. -/
theorem DI.snoc {m : Dv} {B : Blk} {rs : List Rc} {k z n : Nat} (b : List UInt8) (h : DI m B rs k) (hc : Chain B.from_ (rs.map Rc.pair) z) (hn : 1 ≤ n) (hz : z + n + 2 ≤ B.from_ + m.sure.length) : DI m B (rs ++ [⟨z, n, b⟩]) k := by
  refine ⟨h.big, ⟨z + n, ?_, hz⟩, h.c1, h.c2, by rw [List.length_append]; have := h.c3; omega, ?_, ?_⟩
  · rw [List.map_append]
    exact hc.snoc hn
  · intro i r hi hr
    have hi2 := h.c3
    rw [List.getElem?_append_left (by omega)] at hr
    exact h.firm i r hi hr
  · intro x d hd dat hx hp ho hk
    obtain ⟨h1, h2⟩ := h.only x d hd dat hx hp ho hk
    refine ⟨h1, fun he hcn => ?_⟩
    obtain ⟨i, r, a1, a2⟩ := h2 he hcn
    have hil : i < rs.length := (List.getElem?_eq_some_iff.1 a1).1
    exact ⟨i, r, by rw [List.getElem?_append_left hil]; exact a1, a2⟩

/-- The first records go: another block. -/
theorem DI.drop {m : Dv} {B : Blk} {rs : List Rc} {n : Nat} {z : Nat} (h : DI m B rs rs.length) (hc : Chain B.from_ (rs.map Rc.pair) z) (hz : z + 2 ≤ B.from_ + m.sure.length) (hn : n ≤ rs.length) (g : Nat) :
    DI m ⟨g, B.epoch, B.first + n, placeAt (rs.map Rc.pair) z n, B.first + rs.length⟩ (rs.drop n) (rs.drop n).length := by
  have hge := hc.place_ge n (by rw [List.length_map]; exact hn)
  refine ⟨h.big, ⟨z, ?_, by simp only; omega⟩, by simp only; omega, by simp only [List.length_drop]; omega, Nat.le_refl _, ?_, ?_⟩
  · rw [List.map_drop]
    exact hc.drop n
  · intro i r hi hr j hj
    rw [List.getElem?_drop] at hr
    rw [List.length_drop] at hi
    obtain ⟨d, hd, h1, h2, h3⟩ := h.firm (n + i) r (by omega) hr j hj
    refine ⟨d, hd, h1, ⟨h2.op, h2.kind, ?_, h2.part, h2.parts⟩, ?_⟩
    · rw [h2.seq]; simp only; omega
    · intro hle
      simp only at hle
      omega
  · intro x d hd dat hx hp ho hk
    obtain ⟨h1, h2⟩ := h.only x d hd dat hx hp ho hk
    refine ⟨h1, fun he hcn => ?_⟩
    simp only at hcn he
    have hc2 := h.c2
    obtain ⟨i, r, a1, a2, _⟩ := h2 he (by omega)
    have hil : i < rs.length := (List.getElem?_eq_some_iff.1 a1).1
    omega

/-- Another epoch: what is seen and sure stays. -/
theorem DI.epoch {m : Dv} {B : Blk} {rs : List Rc} {k n g : Nat} (h : DI m B rs k) (hn : n ≤ rs.length) (hf : ∀ i r, i < n → rs[i]? = some r → ∀ j, j < r.n → ∃ d h, Firm m (m.pos (r.place + j)) d ∧ PartOf (B.first + i) r j d h) :
    DI m ⟨g, B.epoch + 1, B.first, B.from_, B.first + n⟩ (rs.take n) n := by
  obtain ⟨z, hc, hz⟩ := h.chain
  refine ⟨h.big, ?_, by simp only; omega, Nat.le_refl _, by rw [List.length_take]; omega, ?_, ?_⟩
  · have hc2 : ∀ {l : List (Nat × Nat)} {a z : Nat} (_ : Chain a l z) (n : Nat), ∃ y, Chain a (l.take n) y ∧ y ≤ z := by
      intro l
      induction l with
      | nil => intro a z h n; exact ⟨z, by simpa using h, Nat.le_refl _⟩
      | cons x l ih =>
        intro a z h n
        cases n with
        | zero => exact ⟨a, rfl, by have := h.2.2.le; omega⟩
        | succ n =>
          obtain ⟨y, h1, h2⟩ := ih h.2.2 n
          exact ⟨y, ⟨h.1, h.2.1, h1⟩, h2⟩
    obtain ⟨y, h1, h2⟩ := hc2 hc n
    exact ⟨y, by rw [List.map_take]; exact h1, by simp only; omega⟩
  · intro i r hi hr j hj
    rw [List.getElem?_take, if_pos hi] at hr
    obtain ⟨d, hd, h1, h2⟩ := hf i r hi hr j hj
    exact ⟨d, hd, h1, h2, fun hle => by simp only at hle; omega⟩
  · intro x d hd dat hx hp ho hk
    obtain ⟨h1, _⟩ := h.only x d hd dat hx hp ho hk
    exact ⟨by simp only; omega, fun he => by simp only at he; omega⟩

end Go.Proofs.Ytpimjachhfnlfaa
