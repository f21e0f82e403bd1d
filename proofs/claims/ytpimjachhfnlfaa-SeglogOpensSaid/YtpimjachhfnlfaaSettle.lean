/-
  The device's settle: a write is done, or torn. No condition.
-/
import Derived.Test.YtpimjachhfnlfaaDev2
namespace Go.Proofs.Ytpimjachhfnlfaa
open Go.RowKit

/-- copy into a row that is known whole, as one step of a region that draws its order. -/
theorem step_copy_row {P : Program} {ops : Array Oper} {o : Oper} {a : Act} {w : World} {K : Act → World → Prop} {Q : Exit → Act → World → Prop} {E : Prop} (hgd : o.guard = none) (d s : Operand) (dT sT : TypeId)
    (ho : o.op = .call { callee := .builtin .copy, args := #[d, s], argTypes := #[dT, sT] }) (elem : TypeId) (hu : P.underlying dT = some (.slice elem)) (hsz : (P.info? elem).map (·.size) = some 1)
    (g off dLen dCap : Nat) (ad : Addr) (sLen sCap : Nat) (hd : a.eval d = .slice (some ⟨g, off, none⟩) dLen dCap) (hs : a.eval s = .slice (some ad) sLen sCap)
    (cur : Array Value) (t : TypeId) (hg : w.heap[g]? = some (.cells cur t (0, 0))) (cs : List Value) (hn : cs.length = Nat.min sLen dLen)
    (hsrc : ∀ j v, cs[j]? = some v → w.cell? (ad.add j) = some v) (hfit : off + cs.length ≤ cur.size) (h1 : ∀ v ∈ cs, v.oneCell' = true)
    (h : K (a.put o.dst (goInt cs.length)) (w.setRow g (splice cur.toList off cs).toArray)) :
    if Region.wanted o (yielded ops a.tmps) = true then Oper.wp P o a w K Q else E := by
  have hw : Region.wanted o (yielded ops a.tmps) = true := by simp [Region.wanted, hgd]
  rw [if_pos hw]
  have hrun := run_copy_row (P := P) w dT sT o.type elem g off dLen dCap ad sLen sCap cur t cs hu hsz hg hn hsrc hfit h1
  unfold Oper.wp
  simp [execOp, ho, resolve, invoke, builtin, hd, hs, hrun, Result.andThen]
  exact h

set_option maxRecDepth 100000 in
theorem settle_at {w : World} {p bs : Nat} {uv : Value} {us : List UW} {m : Dv} (h : DevAt w p bs uv us m) (pos : Nat) (hpos : pos < m.sure.length) (data : List UInt8) (g c : Nat) (hrow : Row w g 5 (bvs data)) (hlen : data.length = 512) (torn : Bool) :
    Calls Try.prog 77 #[.pointer (some ⟨p, 0, none⟩), .agg #[.int .i64 pos, .slice (some ⟨g, 0, none⟩) 512 c], .bool torn] w fun e w' =>
      e = .returned (.tuple #[]) ∧ DevAt w' p bs uv us { m with sure := m.sure.set pos ⟨data, torn⟩ } ∧ Fr (· = bs) w w' := by
  have h0 := h.c0
  have b1 : (0 : Int) ≤ (pos : Int) := by omega
  have b2 : (pos : Int) < (m.sure.length : Int) := by omega
  have hp : p < w.heap.size := lt_of_some h.head
  have hb : bs < w.heap.size := lt_of_some h.rows
  have ht := h.torn pos hpos
  have hf := frozen_of_row w bs (pos * 513 + 512) _ _ h.rows
  have hH := hid h
  have hR := hid hrow
  clear h hrow
  go_enter Try.func77, Try.ntmps77
  go_wp2
  go_quiet (fail)
  go_wp2
  obtain ⟨cur, hcur⟩ : ∃ cur : Array Value, cur = (m.sure.flatMap Sec.cells ++ m.spare).toArray.setIfInBounds (pos * 513 + 512) (.bool torn) := ⟨_, rfl⟩
  have hlt1 : bs < (w.alloc (Obj.cells #[Value.int IntKind.i64 ↑pos, Value.slice (some { block := g, off := 0 }) 512 c] 57)).heap.size := by simp; omega
  have f0 : Fr (· = bs) w (((w.alloc (Obj.cells #[Value.int IntKind.i64 ↑pos, Value.slice (some { block := g, off := 0 }) 512 c] 57)).drewN nq).setCell { block := bs, off := pos * 513 + 512 } (Value.bool torn)) :=
    ((Fr.alloc _ _).step (Fr.drewN _ _)).step (Fr.set1 _ _ _ _)
  have hrow0 : (((w.alloc (Obj.cells #[Value.int IntKind.i64 ↑pos, Value.slice (some { block := g, off := 0 }) 512 c] 57)).drewN nq).setCell { block := bs, off := pos * 513 + 512 } (Value.bool torn)).heap[bs]? = some (.cells cur 132 (0, 0)) := by
    rw [hcur]; exact heap_setCell_same _ _ _ _ _ _ ((Below.heap_alloc w _ bs hb).trans hH.out.rows)
  have hbox0 : (((w.alloc (Obj.cells #[Value.int IntKind.i64 ↑pos, Value.slice (some { block := g, off := 0 }) 512 c] 57)).drewN nq).setCell { block := bs, off := pos * 513 + 512 } (Value.bool torn)).cell? ⟨w.heap.size, 1, none⟩ = some (.slice (some ⟨g, 0, none⟩) 512 c) := by
    rw [World.cell?_setCell_other _ _ _ _ (by intro e; have := congrArg Addr.block e; simp at this; omega)]
    exact World.cell?_alloc_new w _ _ 1
  generalize (((w.alloc (Obj.cells #[Value.int IntKind.i64 ↑pos, Value.slice (some { block := g, off := 0 }) 512 c] 57)).drewN nq).setCell { block := bs, off := pos * 513 + 512 } (Value.bool torn)) = W at f0 hrow0 hbox0 ⊢
  have hg : Row W g 5 (bvs data) := hR.out.fr f0 (hR.out.ne hH.out.rows (by decide))
  have hg2 := hid hg
  have HC := hid hcur
  clear hcur hg ht hf h0 hlt1
  have hrow1 := hid hrow0
  have f1 := hid f0
  clear hrow0 f0
  go_region_law (refine step_copy_row rfl (.tmp 21) (.tmp 23) 23 23 rfl 5 Try.underlying23 (by kernel_rfl) bs (pos * 513) 512 512 ⟨g, 0, none⟩ 512 c rfl rfl cur 132 hrow1.out (bvs data) (by simp [bvs, hlen]) (fun j v hj => by rw [Addr.add_lit]; simpa using hg2.out.cell j v hj) (by rw [HC.out]; simp [bvs, hlen, length_flatMap_fixed _ _ 513 (sec_cells_len hH.out.wf)]; omega) (bvs_one _) ?_)
  go_end0
  have hl := length_flatMap_fixed _ _ 513 (sec_cells_len hH.out.wf)
  have hfit : pos * 513 + 512 < (m.sure.flatMap Sec.cells ++ m.spare).length := by rw [List.length_append, hl]; omega
  have e : splice cur.toList (pos * 513) (bvs data) = (m.sure.set pos ⟨data, torn⟩).flatMap Sec.cells ++ m.spare := by
    rw [HC.out, flatMap_set_fixed Sec.cells 513 m.sure (sec_cells_len hH.out.wf) pos _ hpos]
    simp only [Array.toList_setIfInBounds]
    rw [splice_set _ _ 512 _ _ (by simp [bvs, hlen]) hfit, List.take_append_of_le_length (by rw [hl]; omega), List.drop_append_of_le_length (by rw [hl]; omega)]
    simp [Sec.cells, List.append_assoc]
  rw [e]
  have f : Fr (· = bs) w (W.drew.setRow bs ((m.sure.set pos ⟨data, torn⟩).flatMap Sec.cells ++ m.spare).toArray) := (f1.out.step (Fr.drew _)).step (Fr.setRow _ _ _ (.inl rfl))
  have hr : (W.drew.setRow bs ((m.sure.set pos ⟨data, torn⟩).flatMap Sec.cells ++ m.spare).toArray).heap[bs]? = some (.cells ((m.sure.set pos ⟨data, torn⟩).flatMap Sec.cells ++ m.spare).toArray 132 (0, 0)) :=
    setRow_heap _ _ _ _ _ _ hrow1.out
  have h := hH.out
  refine ⟨rfl, ⟨?_, hr, owns_fr h.list f h.bs_ne.2.1, h.eq, fun u hu => ⟨(h.data u hu).1.fr f (h.bs_ne.2.2 u hu), (h.data u hu).2⟩, ?_⟩, f⟩
  · rw [f.heap h.head h.bs_ne.1]; simp
  · refine ⟨by simpa using h.wf.few, ?_, h.wf.wsize, (fun u hu => by simpa using h.wf.wpos u hu), h.wf.lim⟩
    intro s hs
    rcases List.mem_or_eq_of_mem_set hs with hs | rfl
    · exact h.wf.size s hs
    · exact hlen
end Go.Proofs.Ytpimjachhfnlfaa
