/-
  The device's small writers: spend, settle, New, Limit; slices.Clone of bytes and of sectors. No condition.
-/
import Derived.Test.YtpimjachhfnlfaaDev
namespace Go.Proofs.Ytpimjachhfnlfaa
open Go.RowKit

theorem DevAt.p_ne {w : World} {p bs : Nat} {uv : Value} {us : List UW} {m : Dv} (h : DevAt w p bs uv us m) : bs ≠ p ∧ (∀ k, uv.ownBlock = some k → k ≠ p) ∧ ∀ u ∈ us, u.g ≠ p :=
  ⟨ne_of_elem h.rows h.head (by decide), owns_ne h.list h.head (by decide), fun u hu => (h.data u hu).1.ne h.head (by decide)⟩

theorem DevAt.bs_ne {w : World} {p bs : Nat} {uv : Value} {us : List UW} {m : Dv} (h : DevAt w p bs uv us m) : p ≠ bs ∧ (∀ k, uv.ownBlock = some k → k ≠ bs) ∧ ∀ u ∈ us, u.g ≠ bs :=
  ⟨ne_of_elem h.head h.rows (by decide), owns_ne h.list h.rows (by decide), fun u hu => (h.data u hu).1.ne h.rows (by decide)⟩

/-- The head is written anew: limit and down. -/
theorem DevAt.rehead {w w' : World} {p bs : Nat} {uv : Value} {us : List UW} {m : Dv} (h : DevAt w p bs uv us m) (f : Fr (· = p) w w') (l : Nat) (d : Bool) (hl : l ≤ 9223372036854775807)
    (hh : w'.heap[p]? = some (.cells #[.slice (some ⟨bs, 0, none⟩) m.sure.length m.cap, uv, .int .i64 l, .bool d] 127 (0, 0))) :
    DevAt w' p bs uv us { m with limit := l, down := d } :=
  ⟨hh, f.heap h.rows h.p_ne.1, owns_fr h.list f h.p_ne.2.1, h.eq, fun u hu => ⟨(h.data u hu).1.fr f (h.p_ne.2.2 u hu), (h.data u hu).2⟩,
    ⟨h.wf.few, h.wf.size, h.wf.wsize, h.wf.wpos, hl⟩⟩

theorem Dev.re {S : Nat → Prop} {w w' : World} {p bs : Nat} {uv : Value} {us : List UW} {m : Dv} (h : DevAt w' p bs uv us m) (hS : S p ∧ S bs ∧ (∀ k, uv.ownBlock = some k → S k) ∧ (∀ u ∈ us, S u.g) ∧ ∀ k, S k → k < w.heap.size) (hz : w.heap.size ≤ w'.heap.size) : Dev w' S p m :=
  ⟨bs, uv, us, h, hS.1, hS.2.1, hS.2.2.1, hS.2.2.2.1, fun k hk => Nat.lt_of_lt_of_le (hS.2.2.2.2 k hk) hz⟩

/-- What spend leaves. -/
def Dv.spent (m : Dv) : Dv := if m.limit = 0 then m else { m with limit := m.limit - 1, down := decide (m.limit = 1) }

theorem spend_at {p bs : Nat} {uv : Value} {us : List UW} {m : Dv} (w : World) (h : DevAt w p bs uv us m) :
    Calls Try.prog 76 #[.pointer (some ⟨p, 0, none⟩)] w fun e w' => e = .returned (.bool (decide (m.limit ≠ 1))) ∧ DevAt w' p bs uv us m.spent ∧ Fr (· = p) w w' := by
  have h2 := h.c2
  have hl := h.wf.lim
  have hf2 := h.free 2
  have hf3 := h.free 3
  have h3 := h.c3
  have hH : Hid (DevAt w p bs uv us m) := h
  clear h
  by_cases h0 : m.limit = 0
  · rw [h0] at h2
    have e1 : decide (m.limit ≠ 1) = true := by simp [h0]
    rw [e1]
    have e2 : m.spent = m := by simp [Dv.spent, h0]
    rw [e2]
    clear e1 e2 h0
    go_enter Try.func76, Try.ntmps76
    go_wp2
    go_ret
    exact ⟨rfl, hH.out, Fr.refl _ _⟩
  · have e2 : m.spent = { m with limit := m.limit - 1, down := decide (m.limit = 1) } := by simp [Dv.spent, h0]
    rw [e2]
    by_cases h1 : m.limit = 1
    · have E1 : Hid (m.limit = 1) := h1
      rw [h1] at h2
      have e1 : decide (m.limit ≠ 1) = false := by simp [h1]
      have e3 : decide (m.limit = 1) = true := by simp [h1]
      have e4 : m.limit - 1 = 0 := by omega
      rw [e1, e3, e4]
      clear e1 e2 e3 e4 h0 h1
      go_enter Try.func76, Try.ntmps76
      go_wp2
      go_ret
      refine ⟨rfl, ?_, (Fr.set1 _ _ _ _).step (Fr.set1 _ _ _ _)⟩
      refine hH.out.rehead ((Fr.set1 _ _ _ _).step (Fr.set1 _ _ _ _)) 0 true (by omega) ?_
      rw [heap_setCell_same _ _ _ _ _ _ (heap_setCell_same _ _ _ _ _ _ hH.out.head)]
      rfl
    · have e1 : decide (m.limit ≠ 1) = true := by simp [h1]
      have e3 : decide (m.limit = 1) = false := by simp [h1]
      rw [e1, e3]
      have q1 : ((m.limit : Int) == 0) = false := by rw [beq_eq_false_iff_ne]; omega
      have q2 : ((m.limit : Int) - 1 == 0) = false := by rw [beq_eq_false_iff_ne]; omega
      have e4 : Hid (((m.limit - 1 : Nat) : Int) = (m.limit : Int) - 1) := by show _ = _; omega
      clear e1 e2 e3 h0 h1
      go_enter Try.func76, Try.ntmps76
      go_wp2
      go_ret
      refine ⟨rfl, ?_, (Fr.set1 _ _ _ _).step (Fr.set1 _ _ _ _)⟩
      refine hH.out.rehead ((Fr.set1 _ _ _ _).step (Fr.set1 _ _ _ _)) (m.limit - 1) false (by omega) ?_
      rw [heap_setCell_same _ _ _ _ _ _ (heap_setCell_same _ _ _ _ _ _ hH.out.head), e4.out]
      simp

theorem limit_nil (n : Int) (w : World) : Calls Try.prog 29 #[.pointer none, .int .i64 n] w fun e w' => e = .returned (.int .i64 1) ∧ w' = w := by
  go_enter Try.func29, Try.ntmps29
  go_wp2
  go_ret
  exact ⟨rfl, rfl⟩

theorem limit_neg (p : Nat) (n : Int) (w : World) (hn : n < 0) : Calls Try.prog 29 #[.pointer (some ⟨p, 0, none⟩), .int .i64 n] w fun e w' => e = .returned (.int .i64 1) ∧ w' = w := by
  go_enter Try.func29, Try.ntmps29
  go_wp2
  go_ret
  exact ⟨rfl, rfl⟩

theorem limit_any {S : Nat → Prop} {p : Nat} {m : Dv} (n : Nat) (w : World) (hd : Dev w S p m) (hn : n ≤ 9223372036854775807) :
    Calls Try.prog 29 #[.pointer (some ⟨p, 0, none⟩), .int .i64 n] w fun e w' => e = .returned (.int .i64 0) ∧ Dev w' S p { m with limit := n } ∧ Fr S w w' := by
  obtain ⟨bs, uv, us, h, hS⟩ := hd
  have h2 := h.c2
  have hf2 := h.free 2
  have hH : Hid (DevAt w p bs uv us m) := h
  clear h
  go_enter Try.func29, Try.ntmps29
  go_wp2
  go_ret
  have f := Fr.set1 w p 2 (.int .i64 n)
  refine ⟨rfl, ?_, f.mono fun i _ hi => hi ▸ hS.1⟩
  refine Dev.re (hH.out.rehead f n m.down hn ?_) hS f.size
  rw [heap_setCell_same _ _ _ _ _ _ hH.out.head]
  simp

theorem sec_cells_len {m : Dv} (h : m.Wf) : ∀ s ∈ m.sure, s.cells.length = 513 := by
  intro s hs; simp [Sec.cells, bvs, h.size s hs]

theorem DevAt.byte {w : World} {p bs : Nat} {uv : Value} {us : List UW} {m : Dv} (h : DevAt w p bs uv us m) (i j : Nat) (hi : i < m.sure.length) (hj : j < 513) : w.cell? ⟨bs, i * 513 + j, none⟩ = (m.sure[i]).cells[j]? := by
  rw [cell_of_row w bs _ _ _ _ h.rows]
  have := getElem?_flatMap_fixed m.sure Sec.cells 513 (sec_cells_len h.wf) i j hj
  rw [List.getElem?_toArray, List.getElem?_append_left]
  · simpa [hi] using this
  · rw [length_flatMap_fixed _ _ 513 (sec_cells_len h.wf)]
    have : (i + 1) * 513 ≤ m.sure.length * 513 := Nat.mul_le_mul_right _ hi
    omega

theorem DevAt.torn {w : World} {p bs : Nat} {uv : Value} {us : List UW} {m : Dv} (h : DevAt w p bs uv us m) (i : Nat) (hi : i < m.sure.length) : w.cell? ⟨bs, i * 513 + 512, none⟩ = some (.bool (m.sure[i]).torn) := by
  rw [h.byte i 512 hi (by decide)]
  have := h.wf.size _ (List.getElem_mem hi)
  simp [Sec.cells, bvs, this]

/-! ### New -/
def zeroSec : Sec := ⟨List.replicate 512 0, false⟩
def zeroSecA : Array Value := Array.replicate 512 (.int .u8 0) ++ #[.bool false]
theorem zeros_cells (n : Nat) (b : Value) : Array.replicate n (.int .u8 0) ++ #[b] = (bvs (List.replicate n 0) ++ [b]).toArray := by
  have e : bv 0 = .int .u8 0 := rfl
  apply Array.ext'
  simp [bvs, List.map_replicate, e]
theorem zeroSecA_eq : zeroSecA = zeroSec.cells.toArray := zeros_cells 512 _
theorem zeroSec_len (n : Nat) (b : Value) : (bvs (List.replicate n 0) ++ [b]).length = n + 1 := by simp [bvs]
theorem info_sec : (Try.prog.info? 132).map (fun i => (i.zero, i.size, i.bytes)) = some (some (.agg zeroSecA), 513, 513) := by kernel_rfl

theorem made_zero (z : List Value) (n : Nat) (hz : 0 < z.length) : (madeCells z.toArray (n * z.length)).toList = (List.replicate n z).flatten := by
  apply List.ext_getElem?
  intro i
  rcases Nat.lt_or_ge i (n * z.length) with hi | hi
  · have h1 : i / z.length < n := Nat.div_lt_of_lt_mul (by rw [Nat.mul_comm]; exact hi)
    have h2 : i % z.length < z.length := Nat.mod_lt _ hz
    have e : i = (i / z.length) * z.length + i % z.length := by rw [Nat.mul_comm]; exact (Nat.div_add_mod i z.length).symm
    have := getElem?_flatMap_fixed (List.replicate n z) (fun x => x) z.length (fun x hx => by rw [List.eq_of_mem_replicate hx]) (i / z.length) (i % z.length) h2
    rw [← e] at this
    rw [← List.flatMap_id', this, List.getElem?_replicate, if_pos h1]
    simp [madeCells, hi, h2]
  · rw [List.getElem?_eq_none (by simpa [madeCells] using hi), List.getElem?_eq_none]
    simp
    exact hi

/-- A new device. -/
def Dv.zero (n : Nat) : Dv := ⟨List.replicate n zeroSec, [], 0, false, n, []⟩

theorem new_bad (n : Int) (w : World) (h : n < 1 ∨ 4096 < n) :
    Calls Try.prog 18 #[.int .i64 n] w fun e w' => e = .returned (.tuple #[.pointer none, .int .i64 1]) ∧ w' = w := by
  rcases h with h | h
  · go_enter Try.func18, Try.ntmps18
    go_wp2
    go_ret2
    exact ⟨rfl, rfl⟩
  · have h' : ¬ n < 1 := by omega
    go_enter Try.func18, Try.ntmps18
    go_wp2
    go_ret2
    exact ⟨rfl, rfl⟩

set_option maxRecDepth 100000 in
theorem new_ok (n : Nat) (w : World) (h1 : 1 ≤ n) (h2 : n ≤ 4096) :
    Calls Try.prog 18 #[.int .i64 n] w fun e w' => ∃ p, e = .returned (.tuple #[.pointer (some ⟨p, 0, none⟩), .int .i64 0]) ∧ Dev w' (fun k => w.heap.size ≤ k ∧ k < w'.heap.size) p (Dv.zero n) ∧ Fr No w w' := by
  obtain ⟨i, hi, hz0, hz1, hz2⟩ := info_parts info_sec
  have a1 : (1 : Int) ≤ (n : Int) := by omega
  have a2 : (n : Int) ≤ 4096 := by omega
  generalize hZ : zeroSecA = Z at hz0
  have HZ := hid hZ
  clear hZ
  go_enter Try.func18, Try.ntmps18
  go_wp2_with (at_make; go_must (refine wpList_make_full _ rfl _ _ 125 rfl 0 132 i (.agg Z) 513 Try.underlying125 hi hz0 hz1 _ _ _ _ n rfl rfl rfl rfl ?b1 ?b2 (Nat.zero_le _) ?_))
  case b1 => rw [hz2]; omega
  case b2 => unfold maxLen; omega
  intro w1 hown hg
  go_wp2
  go_ret2
  have f : Fr No w w1 := Fr.grown hg (fun k hk => by cases hk)
  have hrow : w1.heap[w.heap.size]? = some (.cells ((Dv.zero n).sure.flatMap Sec.cells).toArray 132 (0, 0)) := by
    rcases hown.2 with ⟨h, _⟩ | ⟨g, cap, cur, hv, _, hgg, _, _, hcs, ht⟩
    · cases h
    · cases hv
      rw [hgg]
      have e1 : cur.toList.take (n * 513) = cur.toList := List.take_of_length_le (by simpa using Nat.le_of_eq hcs)
      rw [e1] at ht
      have hz : Z = zeroSec.cells.toArray := by rw [← HZ.out]; exact zeroSecA_eq
      have hz3 : zeroSec.cells.length = 513 := zeroSec_len 512 _
      have e2 : cur.toList = (List.replicate n zeroSec.cells).flatten := by
        rw [ht, hz, show n * 513 = n * zeroSec.cells.length by rw [hz3]]
        exact made_zero _ _ (by rw [hz3]; decide)
      have e3 : cur = ((Dv.zero n).sure.flatMap Sec.cells).toArray := by
        apply Array.ext'
        rw [e2]
        simp [Dv.zero, List.flatMap]
      rw [e3]
  have hlt : w.heap.size < w1.heap.size := lt_of_some hrow
  refine ⟨_, rfl, ⟨w.heap.size, .slice none 0 0, [], ⟨?_, ?_, ?_, rfl, ?_, ?_⟩, ?_⟩, f.step (Fr.alloc _ _)⟩
  · rw [heap_alloc_new]; simp [Dv.zero]
  · rw [Below.heap_alloc _ _ _ hlt, hrow]; simp [Dv.zero]
  · exact World.ownsRow_nil _ _ _ _
  · intro u hu; cases hu
  · refine ⟨by simp [Dv.zero]; omega, ?_, (fun u hu => by cases hu), (fun u hu => by cases hu), by simp [Dv.zero]⟩
    intro s hs
    rw [List.eq_of_mem_replicate hs]; exact List.length_replicate
  · refine ⟨⟨f.size, by simp⟩, ⟨Nat.le_refl _, by simp; omega⟩, (fun k hk => by cases hk), (fun u hu => by cases hu), fun k hk => hk.2⟩
end Go.Proofs.Ytpimjachhfnlfaa
