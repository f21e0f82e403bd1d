/-
  The document's device in memory (gazetteerref08), and its small calls: spend, New, Read. No condition.
-/
import Derived.Test.YtpimjachhfnlfaaCopy
import Derived.Deep.RegionHeld3
namespace Go.Proofs.Ytpimjachhfnlfaa
open Go.RowKit

/-- A sector of the document's device, and where its bytes lie. -/
structure RS where
  data : List UInt8
  torn : Bool
  g : Nat
  c : Nat

def RS.cells (s : RS) : List Value := [.slice (some ⟨s.g, 0, none⟩) 512 s.c, .bool s.torn]

/-- What it tells of a sector: a torn one's bytes do not count. -/
def RS.tells (s : RS) (t : Sec) : Prop := s.torn = t.torn ∧ (t.torn = false → s.data = t.data)

structure RDevAt (w : World) (q : Nat) (sv uv : Value) (ss : List RS) (us : List UW) (m : Dv) : Prop where
  head : w.heap[q]? = some (.cells #[sv, uv, .int .i64 m.limit, .bool m.down] 50 (0, 0))
  sure : w.ownsRow 0 134 2 sv ss.length (ss.flatMap RS.cells)
  len : ss.length = m.sure.length
  tells : ∀ i (h1 : i < ss.length) (h2 : i < m.sure.length), (ss[i]).tells m.sure[i]
  sdata : ∀ s ∈ ss, Row w s.g 5 (bvs s.data) ∧ 512 ≤ s.c ∧ s.data.length = 512
  list : w.ownsRow 0 57 2 uv us.length (us.flatMap UW.cells)
  eq : m.unsure = us.map UW.pair
  data : ∀ u ∈ us, Row w u.g 5 (bvs u.data) ∧ 512 ≤ u.c
  wf : m.Wf

/-- The document's device m lies at q, in blocks of T. -/
def RDev (w : World) (T : Nat → Prop) (q : Nat) (m : Dv) : Prop :=
  ∃ sv uv ss us, RDevAt w q sv uv ss us m ∧ T q ∧ (∀ k, sv.ownBlock = some k → T k) ∧ (∀ k, uv.ownBlock = some k → T k) ∧ (∀ s ∈ ss, T s.g) ∧ (∀ u ∈ us, T u.g) ∧ ∀ k, T k → k < w.heap.size

theorem RDevAt.fr {T : Nat → Prop} {w w' : World} {q : Nat} {sv uv : Value} {ss : List RS} {us : List UW} {m : Dv} (h : RDevAt w q sv uv ss us m) (f : Fr T w w')
    (h1 : ¬ T q) (h2 : ∀ k, sv.ownBlock = some k → ¬ T k) (h3 : ∀ k, uv.ownBlock = some k → ¬ T k) (h4 : ∀ s ∈ ss, ¬ T s.g) (h5 : ∀ u ∈ us, ¬ T u.g) : RDevAt w' q sv uv ss us m :=
  ⟨f.heap h.head h1, owns_fr h.sure f h2, h.len, h.tells, fun s hs => ⟨(h.sdata s hs).1.fr f (h4 s hs), (h.sdata s hs).2⟩, owns_fr h.list f h3, h.eq, fun u hu => ⟨(h.data u hu).1.fr f (h5 u hu), (h.data u hu).2⟩, h.wf⟩

theorem RDevAt.fr0 {w w' : World} {q : Nat} {sv uv : Value} {ss : List RS} {us : List UW} {m : Dv} (h : RDevAt w q sv uv ss us m) (f : Fr No w w') : RDevAt w' q sv uv ss us m :=
  h.fr f id (fun _ _ => id) (fun _ _ => id) (fun _ _ => id) (fun _ _ => id)

theorem RDev.fr {S T : Nat → Prop} {w w' : World} {q : Nat} {m : Dv} (h : RDev w T q m) (f : Fr S w w') (hd : ∀ k, T k → ¬ S k) : RDev w' T q m := by
  obtain ⟨sv, uv, ss, us, h, hq, hs, hu, hg, hh, hl⟩ := h
  exact ⟨sv, uv, ss, us, h.fr f (hd _ hq) (fun k hk => hd _ (hs k hk)) (fun k hk => hd _ (hu k hk)) (fun s h => hd _ (hg s h)) (fun u h => hd _ (hh u h)), hq, hs, hu, hg, hh, fun k hk => Nat.lt_of_lt_of_le (hl k hk) f.size⟩

section
variable {w : World} {q : Nat} {sv uv : Value} {ss : List RS} {us : List UW} {m : Dv}
theorem RDevAt.c0 (h : RDevAt w q sv uv ss us m) : w.cell? ⟨q, 0, none⟩ = some sv := by rw [cell_of_row w q 0 _ _ _ h.head]; rfl
theorem RDevAt.c1 (h : RDevAt w q sv uv ss us m) : w.cell? ⟨q, 1, none⟩ = some uv := by rw [cell_of_row w q 1 _ _ _ h.head]; rfl
theorem RDevAt.c2 (h : RDevAt w q sv uv ss us m) : w.cell? ⟨q, 2, none⟩ = some (.int .i64 m.limit) := by rw [cell_of_row w q 2 _ _ _ h.head]; rfl
theorem RDevAt.c3 (h : RDevAt w q sv uv ss us m) : w.cell? ⟨q, 3, none⟩ = some (.bool m.down) := by rw [cell_of_row w q 3 _ _ _ h.head]; rfl
theorem RDevAt.free (h : RDevAt w q sv uv ss us m) (i : Nat) : w.frozen? ⟨q, i, none⟩ = false := frozen_of_row w q i _ _ h.head
theorem RDevAt.q_ne (h : RDevAt w q sv uv ss us m) : (∀ k, sv.ownBlock = some k → k ≠ q) ∧ (∀ k, uv.ownBlock = some k → k ≠ q) ∧ (∀ s ∈ ss, s.g ≠ q) ∧ ∀ u ∈ us, u.g ≠ q :=
  ⟨owns_ne h.sure h.head (by decide), owns_ne h.list h.head (by decide), fun s hs => (h.sdata s hs).1.ne h.head (by decide), fun u hu => (h.data u hu).1.ne h.head (by decide)⟩

/-- The head is written anew: limit and down. -/
theorem RDevAt.rehead {w' : World} (h : RDevAt w q sv uv ss us m) (f : Fr (· = q) w w') (l : Nat) (d : Bool) (hl : l ≤ 9223372036854775807)
    (hh : w'.heap[q]? = some (.cells #[sv, uv, .int .i64 l, .bool d] 50 (0, 0))) : RDevAt w' q sv uv ss us { m with limit := l, down := d } :=
  ⟨hh, owns_fr h.sure f h.q_ne.1, h.len, h.tells, fun s hs => ⟨(h.sdata s hs).1.fr f (h.q_ne.2.2.1 s hs), (h.sdata s hs).2⟩, owns_fr h.list f h.q_ne.2.1, h.eq, fun u hu => ⟨(h.data u hu).1.fr f (h.q_ne.2.2.2 u hu), (h.data u hu).2⟩, ⟨h.wf.few, h.wf.size, h.wf.wsize, h.wf.wpos, hl⟩⟩
end

theorem rspend_at {w : World} {q : Nat} {sv uv : Value} {ss : List RS} {us : List UW} {m : Dv} (h : RDevAt w q sv uv ss us m) (hd : m.down = false) :
    Calls Try.prog 79 #[.pointer (some ⟨q, 0, none⟩)] w fun e w' => e = .returned (.bool (decide (m.limit ≠ 1))) ∧ RDevAt w' q sv uv ss us m.spent ∧ Fr (· = q) w w' := by
  have h2 := h.c2
  have hl := h.wf.lim
  have hf2 := h.free 2
  have hf3 := h.free 3
  have h3 := h.c3
  rw [hd] at h3
  have HD := hid hd
  have hH : Hid (RDevAt w q sv uv ss us m) := h
  clear h hd
  by_cases h0 : m.limit = 0
  · rw [h0] at h2
    have e1 : decide (m.limit ≠ 1) = true := by simp [h0]
    rw [e1]
    have e2 : m.spent = m := by simp [Dv.spent, h0]
    rw [e2]
    clear e1 e2 h0
    go_enter Try.func79, Try.ntmps79
    go_wp2
    go_ret
    exact ⟨rfl, hH.out, Fr.refl _ _⟩
  · have e2 : m.spent = { m with limit := m.limit - 1, down := decide (m.limit = 1) } := by simp [Dv.spent, h0]
    rw [e2]
    by_cases h1 : m.limit = 1
    · have E1 : Hid (m.limit = 1) := h1
      rw [h1] at h2
      have e1 : decide (m.limit ≠ 1) = false := by simp [h1]
      have e3 : decide (m.limit = 1) = true := by simp [h1]
      have e4 : m.limit - 1 = 0 := by omega
      rw [e1, e3, e4]
      clear e1 e2 e3 e4 h0 h1
      go_enter Try.func79, Try.ntmps79
      go_wp2
      go_ret
      refine ⟨rfl, ?_, (Fr.set1 _ _ _ _).step (Fr.set1 _ _ _ _)⟩
      refine hH.out.rehead ((Fr.set1 _ _ _ _).step (Fr.set1 _ _ _ _)) 0 true (by omega) ?_
      rw [heap_setCell_same _ _ _ _ _ _ (heap_setCell_same _ _ _ _ _ _ hH.out.head)]
      rfl
    · have e1 : decide (m.limit ≠ 1) = true := by simp [h1]
      have e3 : decide (m.limit = 1) = false := by simp [h1]
      rw [e1, e3]
      have q1 : ((m.limit : Int) == 0) = false := by rw [beq_eq_false_iff_ne]; omega
      have q2 : ((m.limit : Int) - 1 == 0) = false := by rw [beq_eq_false_iff_ne]; omega
      have e4 : Hid (((m.limit - 1 : Nat) : Int) = (m.limit : Int) - 1) := by show _ = _; omega
      clear e1 e2 e3 h0 h1
      go_enter Try.func79, Try.ntmps79
      go_wp2
      go_ret
      refine ⟨rfl, ?_, Fr.set1 _ _ _ _⟩
      refine hH.out.rehead (Fr.set1 _ _ _ _) (m.limit - 1) false (by omega) ?_
      rw [heap_setCell_same _ _ _ _ _ _ hH.out.head, e4.out, HD.out]
      simp

theorem info_rsec : (Try.prog.info? 134).map (fun i => (i.zero, i.size, i.bytes)) = some (some (.agg #[.slice none 0 0, .bool false]), 2, 32) := by kernel_rfl

end Go.Proofs.Ytpimjachhfnlfaa
