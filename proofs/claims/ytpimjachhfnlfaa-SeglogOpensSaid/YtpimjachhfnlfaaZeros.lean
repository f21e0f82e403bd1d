/-
  append(s, make([]T, m)...), s a row of the call's own: a law of no program. No condition but on the size.
-/
import Derived.Test.YtpimjachhfnlfaaNum
import Derived.Laws.BitsLemmas
import Derived.Laws.AppendOwnNone
namespace Go.Proofs.Ytpimjachhfnlfaa
open Go.RowKit

theorem zeroCells_one (z : Value) (hz : z.cells = #[z]) (m : Nat) : Builtin.zeroCells z.cells m = (List.replicate m z).toArray := by
  rw [hz]
  apply Array.ext'
  simp only [Builtin.zeroCells, Array.toList_map, Array.toList_range]
  apply List.ext_getElem?
  intro j
  by_cases hj : j < m
  · simp [hj, Nat.mod_one]
  · simp [hj]

theorem run_append_zeros {P : Program} (w : World) (t tn ty e : TypeId) (i : TypeInfo) (z : Value) (ht : P.underlying t = some (.slice e)) (htn : P.underlying tn = some (.int .i64)) (hi : P.info? e = some i) (hz : i.zero = some z) (hs : i.size = 1) (hby : i.bytes = 1)
    (hzc : z.cells = #[z]) (hz1 : z.oneCell' = true) (g n cap : Nat) (xs : List Value) (hown : w.ownsRow 0 e 1 (.slice (some ⟨g, 0, none⟩) n cap) n xs) (m : Nat) (hm : n + m ≤ 1099511627776) :
    ∃ g' c' w', (Builtin.append_ #[t, tn] ty #[.slice (some ⟨g, 0, none⟩) n cap, .int .i64 m]).run P w = .ok (.slice (some ⟨g', 0, none⟩) (n + m) c') w' ∧ w'.ownsRow 0 e 1 (.slice (some ⟨g', 0, none⟩) (n + m) c') (n + m) (xs ++ List.replicate m z) ∧ (g' = g ∨ w.heap.size ≤ g') ∧ Fr (· = g) w w' := by
  have hw : IntKind.i64.wrap (m : Int) = m := by rw [IntKind.wrap_i64]; omega
  have hneg : ¬ ((m : Int) < 0) := by omega
  have h48i : ¬ (281474976710656 < (m : Int)) := by omega
  have hlen : (xs ++ List.replicate m z).length = (n + m) * 1 := by rw [List.length_append, hown.1, List.length_replicate, Nat.mul_one, Nat.mul_one]
  have hzz := zeroCells_one z hzc
  rcases hown.2 with ⟨h, _⟩ | ⟨g', cap', cur, h, hbg, hg, hnc, hcm, hcs, htake⟩
  · simp at h
  simp only [Value.slice.injEq, Option.some.injEq, Addr.mk.injEq, and_true, true_and] at h
  obtain ⟨rfl, rfl⟩ := h
  by_cases hroom : n + m ≤ cap
  · by_cases h0 : m = 0
    · subst h0
      refine ⟨g, cap, w, ?_, by simpa using hown, .inl rfl, Fr.refl _ _⟩
      have hw0 : IntKind.i64.wrap 0 = 0 := by rw [IntKind.wrap_i64]; decide
      simp [Builtin.append_, run_underlying ht, run_underlying htn, sizeOf, typeInfo, zeroValue, hi, hz, hby, asInt, asIntOf, hw0, hnc, storeCells]
    · have hst := run_storeCells_at P g n e (List.replicate m z) 0 cur w hg (by rw [hcs, List.length_replicate]; omega) (fun v hv => by rw [List.eq_of_mem_replicate hv]; exact hz1)
      simp only [Nat.add_zero] at hst
      refine ⟨g, cap, _, ?_, ⟨hlen, .inr ⟨g, cap, _, rfl, hbg, setRow_heap w g cur _ e _ hg, hroom, hcm, ?_, ?_⟩⟩, .inl rfl, Fr.setRow w g (cur.toList.take n ++ List.replicate m z ++ cur.toList.drop (n + m)).toArray (.inl rfl)⟩
      · have hns : ¬ (m * 1 = 0) := by omega
        simp [Builtin.append_, run_underlying ht, run_underlying htn, sizeOf, typeInfo, zeroValue, hi, hz, hs, hby, asInt, asIntOf, hw, hneg, h48i, hroom, h0, hzz, Addr.add_lit, hst]
      · simp only [List.size_toArray, List.length_append, List.length_take, List.length_drop, Array.length_toList, List.length_replicate]
        omega
      · rw [Nat.mul_one] at htake
        rw [htake, ← hlen]
        exact List.take_left
  · have h0 : m ≠ 0 := by omega
    have h63' : ¬ (9223372036854775807 < ((n : Int) + (m : Int))) := by omega
    have hgf : Builtin.nextslicecap (n + m) cap * 1 ≤ 281474976710656 := growslice_fits (by omega) (by omega)
    have h48' : ¬ (281474976710656 < Builtin.nextslicecap (n + m) cap) := by omega
    have hfo := run_firstCells_some (P := P) w.drew 1 n ⟨g, 0, none⟩ n cap xs hown.1 (by simpa using hown.cells (g := g) rfl)
    have hge := grownCap_ge w (n + m) cap e
    refine ⟨w.heap.size, grownCap w (n + m) cap e, w.drew.alloc (.cells (xs.toArray ++ Builtin.zeroCells z.cells m ++ Builtin.zeroCells z.cells (grownCap w (n + m) cap e - (n + m))) e), ?_, ⟨hlen, .inr ⟨w.heap.size, _, _, rfl, Nat.zero_le _, heap_alloc_new w.drew _, hge, grownCap_le_maxLen w (n + m) cap e (by unfold maxLen; omega), ?_, ?_⟩⟩, .inr (Nat.le_refl _), (Fr.drew w).step (Fr.alloc _ _)⟩
    · simp [Builtin.append_, run_underlying ht, run_underlying htn, sizeOf, typeInfo, zeroValue, hi, hz, hs, hby, asInt, asIntOf, hw, hneg, h48i, hroom, h0, h63', h48', Question.forced, hfo, newRow, grownCap]
    · simp only [Array.size_append, List.size_toArray, size_zeroCells, hzc, hown.1]
      simp
      omega
    · rw [hzz m]
      simp only [Array.toList_append, List.append_assoc]
      rw [← List.append_assoc, ← hlen]
      exact List.take_left

/-- .. for the walk. -/
theorem wpList_append_zeros {P : Program} (w : World) {ops : Array Oper} {rest : List Oper} {o : Oper} {a : Act} {Q : Exit → Act → World → Prop} (hgd : o.guard = none) (s x : Operand) (t tn : TypeId)
    (ho : o.op = .call { callee := .builtin .append, args := #[s, x], argTypes := #[t, tn] }) (e : TypeId) (i : TypeInfo) (z : Value) (ht : P.underlying t = some (.slice e)) (htn : P.underlying tn = some (.int .i64)) (hi : P.info? e = some i) (hz : i.zero = some z) (hs : i.size = 1) (hby : i.bytes = 1)
    (hzc : z.cells = #[z]) (hz1 : z.oneCell' = true) (g n cap : Nat) (xs : List Value) (hvs : a.eval s = .slice (some ⟨g, 0, none⟩) n cap) (hown : w.ownsRow 0 e 1 (.slice (some ⟨g, 0, none⟩) n cap) n xs) (m : Nat) (hvx : a.eval x = .int .i64 m) (hm : n + m ≤ 1099511627776)
    (h : ∀ g' c' w', Hid (w'.ownsRow 0 e 1 (.slice (some ⟨g', 0, none⟩) (n + m) c') (n + m) (xs ++ List.replicate m z)) → Hid (g' = g ∨ w.heap.size ≤ g') → Hid (Fr (· = g) w w') → wpList P ops Q rest (a.put o.dst (.slice (some ⟨g', 0, none⟩) (n + m) c')) w') :
    wpList P ops Q (o :: rest) a w := by
  refine wpList_plain hgd fun K hK => ?_
  obtain ⟨g', c', w', hr, h1, h2, h3⟩ := run_append_zeros (P := P) w t tn o.type e i z ht htn hi hz hs hby hzc hz1 g n cap xs hown m hm
  unfold Oper.wp execOp
  simp only [ho, resolve, invoke, builtin, Sem.run_bind, Sem.run_pure, Result.andThen_ok, List.map_toArray, List.map_cons, List.map_nil, hvs, hvx, hr]
  exact hK _ _ (h g' c' w' h1 h2 h3)

/-- append onto a row of the call's own, whatever is appended: nil, empty or not. -/
theorem wpList_append_more {P : Program} (w : World) {ops : Array Oper} {rest : List Oper} {o : Oper} {a : Act} {Q : Exit → Act → World → Prop} (hgd : o.guard = none) (s x : Operand) (t : TypeId)
    (ho : o.op = .call { callee := .builtin .append, args := #[s, x], argTypes := #[t, t] })
    (e : TypeId) (i : TypeInfo) (z : Value) (size bytes : Nat) (ht : P.underlying t = some (.slice e)) (hi : P.info? e = some i) (hz : i.zero = some z)
    (hsize : i.size = size) (hby : i.bytes = bytes) (hzs : z.cells.size = size) (hsz : 0 < size)
    (g n cap : Nat) (xs : List Value) (hs : a.eval s = .slice (some ⟨g, 0, none⟩) n cap) (hown : w.ownsRow 0 e size (.slice (some ⟨g, 0, none⟩) n cap) n xs)
    (ao : Option Addr) (m c : Nat) (news : List Value) (hx : a.eval x = .slice ao m c) (hnil : ao = none → m = 0 ∧ c = 0) (hl : news.length = m * size) (hnews : ∀ ad, ao = some ad → ∀ j u, news[j]? = some u → w.cell? (ad.add j) = some u) (h1 : ∀ u ∈ news, u.oneCell' = true)
    (h63 : n + m ≤ maxLen) (hbytes : (n + m) * bytes ≤ 140737488355328)
    (h : ∀ g' c' w', Hid (w'.ownsRow 0 e size (.slice (some ⟨g', 0, none⟩) (n + m) c') (n + m) (xs ++ news)) → Hid (g' = g ∨ w.heap.size ≤ g') → Hid (Fr (· = g) w w') → wpList P ops Q rest (a.put o.dst (.slice (some ⟨g', 0, none⟩) (n + m) c')) w') :
    wpList P ops Q (o :: rest) a w := by
  cases ao with
  | none =>
    obtain ⟨rfl, rfl⟩ := hnil rfl
    have hn : news = [] := List.eq_nil_of_length_eq_zero (by simpa using hl)
    subst hn
    refine wpList_append_own_none hgd s x t ho 0 e i size ht hi _ n xs hs hown hx ?_
    exact h g cap w (by rw [List.append_nil]; exact hown) (.inl rfl) (Fr.refl _ _)
  | some ad =>
    by_cases hm : m = 0
    · subst hm
      have hn : news = [] := List.eq_nil_of_length_eq_zero (by simpa using hl)
      subst hn
      refine wpList_append_fits w hgd s x t ho 0 e i size ht hi hsize g n cap xs hs hown ad 0 c [] hx hl (hnews ad rfl) h1 (by have := owns_cap hown; omega) ?_
      intro w' how hgr
      exact h g cap w' how (.inl rfl) (Fr.grown hgr (fun k hk => .inl (by cases hk; rfl)))
    · refine wpList_append_at w hgd s x t ho e i z size bytes ht hi hz hsize hby hzs hsz _ n xs hs hown ad m c news hx hl (hnews ad rfl) h1 (by omega) h63 hbytes ?_
      intro g' c' w' how hg hf
      exact h g' c' w' how (by rcases hg.out with hh | hh; · cases hh; exact .inl rfl
                               · exact .inr hh) (hf.out.mono (fun k _ hk => by cases hk; rfl))

end Go.Proofs.Ytpimjachhfnlfaa
