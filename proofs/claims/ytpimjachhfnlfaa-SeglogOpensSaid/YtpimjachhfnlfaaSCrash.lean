/-
  Plain laws of chapter 11: what may be at a place, what is firm there, behind writes, a Sync, a Save and a crash. No program in sight.
-/
import Derived.Test.YtpimjachhfnlfaaSLaw
namespace Go.Proofs.Ytpimjachhfnlfaa
open Go.RowKit

/-- What may be seen at a place behind a crash. -/
def Poss (m : Dv) (x : Nat) (d : List UInt8) : Prop := m.sure[x]? = some ⟨d, false⟩ ∨ (x, d) ∈ m.unsure

/-- What is at a place whatever happens. -/
def Firm (m : Dv) (x : Nat) (d : List UInt8) : Prop := m.sure[x]? = some ⟨d, false⟩ ∧ ∀ u ∈ m.unsure, u.1 ≠ x

/-- The same sectors, the same writes. -/
structure Sim (c m : Dv) : Prop where
  sure : c.sure = m.sure
  unsure : c.unsure = m.unsure

theorem Sim.refl (m : Dv) : Sim m m := ⟨rfl, rfl⟩
theorem Sim.symm {c m : Dv} (h : Sim c m) : Sim m c := ⟨h.sure.symm, h.unsure.symm⟩
theorem Sim.trans {a b c : Dv} (h : Sim a b) (k : Sim b c) : Sim a c := ⟨h.sure.trans k.sure, h.unsure.trans k.unsure⟩
theorem Sim.len {c m : Dv} (h : Sim c m) : c.sure.length = m.sure.length := by rw [h.sure]
theorem Sim.poss {c m : Dv} (h : Sim c m) {x : Nat} {d : List UInt8} (hp : Poss c x d) : Poss m x d := by
  unfold Poss at hp ⊢
  rw [h.sure, h.unsure] at hp
  exact hp
theorem Sim.firm {c m : Dv} (h : Sim c m) {x : Nat} {d : List UInt8} (hp : Firm m x d) : Firm c x d := by
  unfold Firm at hp ⊢
  rw [h.sure, h.unsure]
  exact hp
theorem Sim.seen {c m : Dv} (h : Sim c m) (x : Nat) : c.seen x = m.seen x := by
  unfold Dv.seen
  rw [h.unsure, h.sure]
theorem Sim.load {c m : Dv} (h : Sim c m) : loadM c = loadM m := loadM_seen (h.seen 0) (h.seen 1)
theorem Sim.synced {c m : Dv} (h : Sim c m) : Sim c.synced m.synced := ⟨by show settleAll _ _ = settleAll _ _; rw [h.sure, h.unsure], rfl⟩
theorem Sim.crash {c m : Dv} (h : Sim c m) (a b : Nat) : c.crash a b = { m.crash a b with cap := c.cap, spare := c.spare } := by
  unfold Dv.crash
  rw [h.sure, h.unsure]
theorem Sim.crashed {c m : Dv} (h : Sim c m) (a b : Nat) : Sim (c.crash a b) (m.crash a b) := by rw [h.crash]; exact ⟨rfl, rfl⟩
theorem pos_len {c m : Dv} (h : c.sure.length = m.sure.length) (k : Nat) : c.pos k = m.pos k := by unfold Dv.pos; rw [h]

theorem lastTo_mem {l : List (Nat × List UInt8)} {x : Nat} {d : List UInt8} (h : lastTo l x = some d) : (x, d) ∈ l := by
  unfold lastTo at h
  obtain ⟨u, hu, rfl⟩ := Option.map_eq_some_iff.1 h
  have h1 := List.find?_some hu
  have h2 : u.1 = x := by simpa using h1
  have hm := List.mem_of_find?_eq_some hu
  rw [← h2]
  simpa using hm

theorem lastTo_no {l : List (Nat × List UInt8)} {x : Nat} (h : ∀ u ∈ l, u.1 ≠ x) : lastTo l x = none := by
  cases hl : lastTo l x with
  | none => rfl
  | some d => exact absurd rfl (h _ (lastTo_mem hl))

theorem seen_poss {m : Dv} {x : Nat} {d : List UInt8} (hx : x < m.sure.length) (h : m.seen x = some d) : Poss m x d := by
  cases hl : lastTo m.unsure x with
  | some e =>
    rw [seen_of_at hl] at h
    cases h
    exact .inr (lastTo_mem hl)
  | none =>
    rw [seen_sure hx hl] at h
    split at h
    · cases h
    · rename_i ht
      cases h
      refine .inl ?_
      rw [List.getElem?_eq_getElem hx]
      congr 1
      have : m.sure[x].torn = false := by simpa using ht
      rw [← this]

theorem Firm.lt {m : Dv} {x : Nat} {d : List UInt8} (h : Firm m x d) : x < m.sure.length := by
  rcases Nat.lt_or_ge x m.sure.length with h' | h'
  · exact h'
  · have := h.1
    rw [List.getElem?_eq_none h'] at this
    cases this

theorem Firm.seen {m : Dv} {x : Nat} {d : List UInt8} (h : Firm m x d) : m.seen x = some d := by
  have hx := h.lt
  rw [seen_sure hx (lastTo_no h.2)]
  have := h.1
  rw [List.getElem?_eq_getElem hx] at this
  rw [Option.some.inj this]
  rfl

theorem crashFrom_poss (a b : Nat) : ∀ (l : List (Nat × List UInt8)) (k : Nat) (s : List Sec) (x : Nat) (d : List UInt8), (crashFrom a b k s l)[x]? = some ⟨d, false⟩ → s[x]? = some ⟨d, false⟩ ∨ (x, d) ∈ l
  | [], k, s, x, d, h => .inl h
  | u :: l, k, s, x, d, h => by
    rcases crashFrom_poss a b l _ _ x d h with h | h
    · unfold crashOne at h
      split at h
      · rw [List.getElem?_set] at h
        split at h
        · split at h
          · simp at h
          · cases h
        · exact .inl h
      · split at h
        · rw [List.getElem?_set] at h
          split at h
          · rename_i e
            split at h
            · simp only [Option.some.injEq, Sec.mk.injEq, and_true] at h
              refine .inr ?_
              rw [← e, ← h]
              exact List.mem_cons_self
            · cases h
          · exact .inl h
        · exact .inl h
    · exact .inr (List.mem_cons_of_mem _ h)

theorem poss_crash {m : Dv} {a b x : Nat} {d : List UInt8} (h : Poss (m.crash a b) x d) : Poss m x d := by
  rcases h with h | h
  · exact crashFrom_poss a b _ _ _ _ _ h
  · cases h

theorem crashFrom_firm (a b : Nat) : ∀ (l : List (Nat × List UInt8)) (k : Nat) (s : List Sec) (x : Nat), (∀ u ∈ l, u.1 ≠ x) → (crashFrom a b k s l)[x]? = s[x]?
  | [], k, s, x, h => rfl
  | u :: l, k, s, x, h => by
    have h1 := crashFrom_firm a b l (k + 1) (crashOne a b s k u) x (fun v hv => h v (List.mem_cons_of_mem _ hv))
    have hne := h u List.mem_cons_self
    refine h1.trans ?_
    unfold crashOne
    split
    · rw [List.getElem?_set, if_neg hne]
    · split
      · rw [List.getElem?_set, if_neg hne]
      · rfl

theorem firm_crash {m : Dv} {a b x : Nat} {d : List UInt8} (h : Firm m x d) : Firm (m.crash a b) x d :=
  ⟨(crashFrom_firm a b m.unsure 0 m.sure x h.2).trans h.1, fun u hu => by cases hu⟩

theorem crash_len (m : Dv) (a b : Nat) : (m.crash a b).sure.length = m.sure.length := crashFrom_len _ _ _ _ _

theorem crash_seen {m : Dv} {a b x : Nat} (h : ∀ u ∈ m.unsure, u.1 ≠ x) (hx : x < m.sure.length) : (m.crash a b).seen x = m.seen x := by
  rw [seen_sure hx (lastTo_no h), seen_clean (m := m.crash a b) rfl (by rw [crash_len]; exact hx)]
  have e := crashFrom_firm a b m.unsure 0 m.sure x h
  have e2 : (m.crash a b).sure[x]'(by rw [crash_len]; exact hx) = m.sure[x] := by
    have h1 := List.getElem?_eq_getElem (l := (m.crash a b).sure) (i := x) (by rw [crash_len]; exact hx)
    rw [List.getElem?_eq_getElem hx] at e
    have e' : (m.crash a b).sure[x]? = some m.sure[x] := e
    rw [h1] at e'
    exact Option.some.inj e'
  rw [e2]

/-- No write that is not sure is to one of the two first places. -/
def Off (m : Dv) : Prop := ∀ u ∈ m.unsure, 2 ≤ u.1

theorem load_crash {m : Dv} (h : Off m) (h2 : 2 ≤ m.sure.length) (a b : Nat) : loadM (m.crash a b) = loadM m :=
  loadM_seen (crash_seen (fun u hu => by have := h u hu; omega) (by omega)) (crash_seen (fun u hu => by have := h u hu; omega) (by omega))

theorem synced_at {m : Dv} (h : m.Wf) {x : Nat} (hx : x < m.sure.length) : m.synced.sure[x]? = some (match lastTo m.unsure x with | some d => ⟨d, false⟩ | none => m.sure[x]) := settle_at_pos m.sure x hx _ m.unsure rfl h.wpos

theorem poss_synced {m : Dv} (h : m.Wf) {x : Nat} {d : List UInt8} (hp : Poss m.synced x d) : Poss m x d := by
  rcases hp with hp | hp
  · have hx : x < m.sure.length := by
      rcases Nat.lt_or_ge x m.sure.length with h' | h'
      · exact h'
      · rw [List.getElem?_eq_none (by rw [synced_len]; exact h')] at hp; cases hp
    rw [synced_at h hx] at hp
    cases hl : lastTo m.unsure x with
    | none =>
      rw [hl] at hp
      exact .inl (by rw [List.getElem?_eq_getElem hx]; exact hp)
    | some e =>
      rw [hl] at hp
      simp only [Option.some.injEq, Sec.mk.injEq, and_true] at hp
      rw [← hp]
      exact .inr (lastTo_mem hl)
  · cases hp

theorem firm_of_seen {m : Dv} (h : m.Wf) {x : Nat} (hx : x < m.sure.length) {d : List UInt8} (hs : m.seen x = some d) : Firm m.synced x d := by
  refine ⟨?_, fun u hu => by cases hu⟩
  rw [synced_at h hx]
  cases hl : lastTo m.unsure x with
  | some e => rw [seen_of_at hl] at hs; cases hs; rfl
  | none =>
    rw [seen_sure hx hl] at hs
    split at hs
    · cases hs
    · rename_i ht
      cases hs
      congr 1
      have : m.sure[x].torn = false := by simpa using ht
      rw [← this]

theorem poss_add {m : Dv} {k x : Nat} {b d : List UInt8} (h : Poss (m.add k b) x d) : Poss m x d ∨ (x = k ∧ d = pad b) := by
  rcases h with h | h
  · exact .inl (.inl h)
  · rcases List.mem_append.1 h with h | h
    · exact .inl (.inr h)
    · have := List.mem_singleton.1 h
      cases this
      exact .inr ⟨rfl, rfl⟩

theorem firm_add {m : Dv} {k x : Nat} {b d : List UInt8} (h : Firm m x d) (hk : k ≠ x) : Firm (m.add k b) x d := by
  refine ⟨h.1, fun u hu => ?_⟩
  rcases List.mem_append.1 hu with hu | hu
  · exact h.2 u hu
  · have := List.mem_singleton.1 hu
    cases this
    exact hk

theorem poss_put {m : Dv} (hu : m.unsure = []) {B : Blk} {x : Nat} {d : List UInt8} (hx : 2 ≤ x) (h : Poss (m.put B) x d) : Poss m x d := by
  rcases h with h | h
  · have h' : (m.sure.set (B.gen % 2) ⟨blkSec B, false⟩)[x]? = some ⟨d, false⟩ := h
    rw [List.getElem?_set, if_neg (by omega)] at h'
    exact .inl h'
  · have h' : (x, d) ∈ m.unsure := h
    rw [hu] at h'
    cases h'

theorem firm_put {m : Dv} {B : Blk} {x : Nat} {d : List UInt8} (hx : 2 ≤ x) (h : Firm m x d) : Firm (m.put B) x d := by
  refine ⟨?_, h.2⟩
  show (m.sure.set (B.gen % 2) ⟨blkSec B, false⟩)[x]? = some ⟨d, false⟩
  rw [List.getElem?_set, if_neg (by omega)]
  exact h.1

/-- What a Write of a device that is up does. -/
theorem write_up {m : Dv} (hd : m.down = false) {k : Nat} (hk : k < m.sure.length) {b : List UInt8} (hb : b.length ≤ 512) :
    ((m.write k b).2 = 0 ∧ (m.write k b).1.down = false ∧ Sim (m.write k b).1 (m.add k b) ∧ (m.limit = 0 → (m.write k b).1.limit = 0)) ∨ ((m.write k b).2 = 8 ∧ (m.write k b).1.down = true ∧ Sim (m.write k b).1 m) := by
  have hc : m.code k = 0 := by simp [Dv.code, hd]; omega
  have e : ¬ 512 < b.length := by omega
  unfold Dv.write
  rw [hc, if_neg (by simp), if_neg e]
  by_cases h1 : m.limit = 1
  · rw [if_pos h1]
    refine .inr ⟨rfl, ?_, ?_⟩
    · unfold Dv.spent; rw [if_neg (by omega)]; simp [h1]
    · exact ⟨spent_sure m, spent_unsure m⟩
  · rw [if_neg h1]
    refine .inl ⟨rfl, ?_, ?_, ?_⟩
    · unfold Dv.spent
      split
      · exact hd
      · simp [h1]
    · refine ⟨spent_sure m, ?_⟩
      simp [Dv.add]
    · intro h0
      unfold Dv.spent
      rw [if_pos h0]
      exact h0

theorem sync_up {m : Dv} (hd : m.down = false) :
    (m.sync.2 = 0 ∧ m.sync.1.down = false ∧ Sim m.sync.1 m.synced ∧ (m.limit = 0 → m.sync.1.limit = 0)) ∨ (m.sync.2 = 8 ∧ m.sync.1.down = true ∧ Sim m.sync.1 m) := by
  unfold Dv.sync
  rw [if_neg (by simp [hd])]
  by_cases h1 : m.limit = 1
  · rw [if_pos h1]
    refine .inr ⟨rfl, ?_, ⟨spent_sure m, spent_unsure m⟩⟩
    unfold Dv.spent; rw [if_neg (by omega)]; simp [h1]
  · rw [if_neg h1]
    refine .inl ⟨rfl, ?_, ⟨rfl, rfl⟩, ?_⟩
    · show m.spent.down = false
      unfold Dv.spent
      split
      · exact hd
      · simp [h1]
    · intro h0
      show m.spent.limit = 0
      unfold Dv.spent
      rw [if_pos h0]
      exact h0

end Go.Proofs.Ytpimjachhfnlfaa
