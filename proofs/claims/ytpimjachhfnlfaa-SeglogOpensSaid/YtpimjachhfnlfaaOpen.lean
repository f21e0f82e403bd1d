/-
  sector.Open: what a sector is. No condition but that there are 512 bytes.
-/
import Derived.Test.YtpimjachhfnlfaaSeal
import Derived.Laws.BytesArg
namespace Go.Proofs.Ytpimjachhfnlfaa
open Go.RowKit

set_option maxRecDepth 100000 in
theorem bclone_any (a : Addr) (l : List UInt8) (n c : Nat) (w : World) (hn : l.length = n) (hl : n ≤ 140737488355328) (hc : ∀ j u, (bvs l)[j]? = some u → w.cell? (a.add j) = some u) :
    Calls Try.prog 167 #[.slice (some a) n c] w fun e w' => ∃ g c', e = .returned (.slice (some ⟨g, 0, none⟩) n c') ∧ Row w' g 5 (bvs l) ∧ (n ≤ c' ∧ c' ≤ maxLen) ∧ w.heap.size ≤ g ∧ Fr No w w' := by
  obtain ⟨i, hi, hz0, hz1, hz2⟩ := info_parts info_u8
  have HC := hid hc
  have HN := hid hn
  clear hc hn
  have he := eql_nil_u8
  go_enter Try.func167, Try.ntmps167
  go_wp2_with (at_builtin; go_must (refine wpList_append_own _ rfl _ _ 23 rfl w.heap.size 5 i (.int .u8 0) 1 1 Try.underlying23 hi hz0 hz1 hz2 rfl (by decide) _ 0 [] rfl (World.ownsRow_made w #[] 0 (Nat.le_refl _) (by decide) (by simp)) a n c (bvs l) rfl (by simp [bvs, HN.out]) ?c1 (bvs_one l) (by unfold maxLen; omega) (by omega) (by simp) ?_))
  case c1 =>
    intro j u hu
    have := HC.out j u hu
    rw [World.cell?_alloc_lt _ _ _ (block_lt_of_cell this)]
    exact this
  intro v' w1 hown hg hv
  try simp only [Nat.zero_add, List.nil_append] at hown
  obtain ⟨g, c', rfl, hrow, hn', hb⟩ := owns_shape2 hown hv
  have f : Fr No w w1 := (Fr.alloc (S := No) w _).trans (Fr.grown (S := fun k => k = w.heap.size) hg (fun k hk => by cases hk; exact .inl rfl)) (fun i hi => .inr (by rw [hi]; exact Nat.le_refl _))
  clear hown hv hg
  go_wp2
  go_ret
  exact ⟨g, c', rfl, hrow, hn', hb, f⟩

theorem strNums (l : List UInt8) : strOfNums (l.map fun b => (b.toNat : Int)) = ⟨l.toArray⟩ := by
  unfold strOfNums
  congr 2
  rw [List.map_map]
  conv => rhs; rw [← List.map_id l]
  exact List.map_congr_left (fun x _ => by simp)

theorem conv_str {w : World} {a : Option Addr} {n : Nat} {l : List UInt8} (h : BytesIn w a n l) (c : Nat) : (convert 23 9 (.slice a n c)).run Try.prog w = .ok (.string ⟨l.toArray⟩) w := by
  rcases Nat.eq_zero_or_pos n with h0 | h0
  · subst h0
    obtain rfl : l = [] := List.eq_nil_of_length_eq_zero h.len
    rw [run_convert_bytes_string w 23 9 5 a 0 c Try.underlying23 Try.underlying5 Try.underlying9]
    cases a with
    | none => simp [Conv.bytesToString]; rfl
    | some ad => exact run_bytesToString w ad 0 c [] (by simp [loadCells, loadCellsFrom])
  · obtain ⟨b, o, rfl, hc⟩ := h.at h0
    have := run_convert_bytes_arg (P := Try.prog) w 23 5 Try.underlying23 Try.underlying5 b o n c (l.map fun b => (b.toNat : Int)) (by rw [List.length_map]; exact h.len) (fun i hi => by
      have hl : i < l.length := by rw [h.len]; exact hi
      rw [hc i (bv l[i]) (by simp [bvs, hl])]
      simp [List.getD, hl, bv]) 9 Try.underlying9
    rw [strNums] at this
    exact this

set_option maxRecDepth 100000 in
theorem beq_any (a1 a2 : Option Addr) (n1 c1 n2 c2 : Nat) (l1 l2 : List UInt8) (w : World) (h1 : BytesIn w a1 n1 l1) (h2 : BytesIn w a2 n2 l2) :
    Calls Try.prog 124 #[.slice a1 n1 c1, .slice a2 n2 c2] w fun e w' => e = .returned (.bool (decide (l1 = l2))) ∧ w' = w := by
  have q1 := conv_str h1 c1
  have q2 := conv_str h2 c2
  clear h1 h2
  go_enter Try.func124, Try.ntmps124
  go_wp2_with fail
  go_ret
  refine ⟨congrArg (fun b => Ending.returned (.bool b)) (?_ : (l1 == l2) = decide (l1 = l2)), rfl⟩
  by_cases h : l1 = l2
  · rw [decide_eq_true h, beq_iff_eq]; exact h
  · rw [decide_eq_false h, beq_eq_false_iff_ne]; exact h

/-- A row of numbers, whole. -/
def Nums (w : World) (g : Nat) (ns : List Nat) : Prop := w.heap[g]? = some (.cells (ns.map intv).toArray 228 (0, 0))

theorem Nums.cell {w : World} {g : Nat} {ns : List Nat} (h : Nums w g ns) {j x : Nat} (hj : ns[j]? = some x) : w.cell? ⟨g, j, none⟩ = some (.int .i64 x) := by
  rw [cell_of_row w g j _ _ _ h]
  simp [hj, intv]
theorem Nums.free {w : World} {g : Nat} {ns : List Nat} (h : Nums w g ns) (j : Nat) : w.frozen? ⟨g, j, none⟩ = false := frozen_of_row w g j _ _ h
theorem Nums.set {w : World} {g : Nat} {ns : List Nat} (h : Nums w g ns) (j x : Nat) : Nums (w.setCell ⟨g, j, none⟩ (.int .i64 x)) g (ns.set j x) := by
  unfold Nums
  rw [heap_setCell_same _ _ _ _ _ _ h]
  simp [intv]
theorem Nums.fr {S : Nat → Prop} {w w' : World} {g : Nat} {ns : List Nat} (h : Nums w g ns) (f : Fr S w w') (hg : ¬ S g) : Nums w' g ns := f.heap h hg
theorem Nums.fr0 {w w' : World} {g : Nat} {ns : List Nat} (h : Nums w g ns) (f : Fr No w w') : Nums w' g ns := f.heap0 h

def offs (j : Nat) : Nat := (szs.take j).sum

/-- What stands at a sector's head. -/
def heads (l : List UInt8) : List Nat := (List.range 6).map fun j => ofBe ((l.drop (offs j)).take (szs.getD j 0))

theorem heads_len (l : List UInt8) : (heads l).length = 6 := by simp [heads]

def part (l : List UInt8) (j : Nat) : List Nat := (heads l).take j ++ List.replicate (6 - j) 0

theorem part_set (l : List UInt8) (j x : Nat) (hj : j < 6) (hx : (heads l)[j]? = some x) : (part l j).set j x = part l (j + 1) := by
  unfold part
  have e : 6 - j = (6 - (j + 1)) + 1 := by omega
  have hl : ((heads l).take j).length = j := by rw [List.length_take, heads_len]; omega
  rw [e, List.replicate_succ, List.set_append_right _ _ (by omega), hl, Nat.sub_self, List.set_cons_zero, List.take_add_one, hx]
  simp

def hdOf (l : List UInt8) : Hd := ⟨(heads l).getD 0 0, (heads l).getD 1 0, (heads l).getD 2 0, (heads l).getD 3 0, (heads l).getD 4 0⟩
def lenOf (l : List UInt8) : Nat := (heads l).getD 5 0
def Hd.bad (h : Hd) : Bool := decide (h.kind = 0 ∨ h.parts = 0 ∨ h.parts ≤ h.part)

/-- What a sector is. -/
def opened (l : List UInt8) : Option (Hd × List UInt8) :=
  if lenOf l ≤ 496 ∧ (hdOf l).bad = false ∧ sealB (hdOf l) ((l.drop 16).take (lenOf l)) = l then some (hdOf l, (l.drop 16).take (lenOf l)) else none

def zeroHd : Hd := ⟨0, 0, 0, 0, 0⟩

theorem offs_at (l : List UInt8) {j : Nat} (h : j < 6) : ∃ z, szs[j]? = some z ∧ 1 ≤ z ∧ z ≤ 7 ∧ offs j + z = offs (j + 1) ∧ offs (j + 1) ≤ 16 ∧ (heads l)[j]? = some (ofBe ((l.drop (offs j)).take z)) := by
  match j, h with
  | 0, _ => exact ⟨1, rfl, by decide, by decide, rfl, by decide, rfl⟩
  | 1, _ => exact ⟨4, rfl, by decide, by decide, rfl, by decide, rfl⟩
  | 2, _ => exact ⟨7, rfl, by decide, by decide, rfl, by decide, rfl⟩
  | 3, _ => exact ⟨1, rfl, by decide, by decide, rfl, by decide, rfl⟩
  | 4, _ => exact ⟨1, rfl, by decide, by decide, rfl, by decide, rfl⟩
  | 5, _ => exact ⟨2, rfl, by decide, by decide, rfl, by decide, rfl⟩

theorem part_at (l : List UInt8) {j : Nat} (h : j < 6) : (part l j)[j]? = some 0 := by
  unfold part
  have hl : ((heads l).take j).length = j := by rw [List.length_take, heads_len]; omega
  rw [List.getElem?_append_right (by omega), hl, Nat.sub_self, List.getElem?_replicate, if_pos (by omega)]

theorem part_end (l : List UInt8) : part l 6 = heads l := by
  unfold part
  rw [List.take_of_length_le (by rw [heads_len]; exact Nat.le_refl _)]
  simp

theorem two_heaps (w : World) (A B : Array Value) (tA tB : TypeId) : ((w.alloc (.cells A tA)).alloc (.cells B tB)).heap[w.heap.size + 1]? = some (.cells B tB) ∧ ((w.alloc (.cells A tA)).alloc (.cells B tB)).heap[w.heap.size]? = some (.cells A tA) ∧ Fr No w ((w.alloc (.cells A tA)).alloc (.cells B tB)) := by
  refine ⟨?_, (Fr.alloc (w.alloc (.cells A tA)) (.cells B tB)).heap0 (heap_alloc_new w _), (Fr.alloc _ _).step (Fr.alloc _ _)⟩
  have := heap_alloc_new (w.alloc (.cells A tA)) (.cells B tB)
  simpa using this

theorem heads_fit {l : List UInt8} (hl : l.length = 512) : (hdOf l).Fit := by
  have key : ∀ o z : Nat, o + z ≤ 512 → ofBe ((l.drop o).take z) < 2 ^ (8 * z) := fun o z h => by
    have := ofBe_lt ((l.drop o).take z)
    rwa [show ((l.drop o).take z).length = z by rw [List.length_take, List.length_drop, hl]; omega] at this
  exact ⟨key 0 1 (by decide), key 1 4 (by decide), key 5 7 (by decide), key 12 1 (by decide), key 13 1 (by decide)⟩

theorem sealB_len (h : Hd) (d : List UInt8) (hd : d.length ≤ 496) : (sealB h d).length = 512 := by
  unfold sealB
  rw [List.length_append, List.length_append, List.length_replicate, show (hbytes (h.row d.length) 6).length = 16 from rfl]
  omega

/-- A struct of five cells, stored whole. -/
theorem five {w : World} {g : Nat} {e : TypeId} {a0 a1 a2 a3 a4 : Value} (h : w.heap[g]? = some (.cells #[a0, a1, a2, a3, a4] e (0, 0))) (v0 v1 v2 v3 v4 : Value) :
    (((((w.setCell ⟨g, 0, none⟩ v0).setCell ⟨g, 1, none⟩ v1).setCell ⟨g, 2, none⟩ v2).setCell ⟨g, 3, none⟩ v3).setCell ⟨g, 4, none⟩ v4).heap[g]? = some (.cells #[v0, v1, v2, v3, v4] e (0, 0)) ∧
    Fr (· = g) w (((((w.setCell ⟨g, 0, none⟩ v0).setCell ⟨g, 1, none⟩ v1).setCell ⟨g, 2, none⟩ v2).setCell ⟨g, 3, none⟩ v3).setCell ⟨g, 4, none⟩ v4) := by
  refine ⟨?_, (((((Fr.set1 _ _ _ _).step (Fr.set1 _ _ _ _)).step (Fr.set1 _ _ _ _)).step (Fr.set1 _ _ _ _)).step (Fr.set1 _ _ _ _))⟩
  rw [heap_setCell_same _ _ _ _ _ _ (heap_setCell_same _ _ _ _ _ _ (heap_setCell_same _ _ _ _ _ _ (heap_setCell_same _ _ _ _ _ _ (heap_setCell_same _ _ _ _ _ _ h))))]
  rfl

theorem five_cells {w : World} {g : Nat} {e : TypeId} {a0 a1 a2 a3 a4 : Value} (h : w.heap[g]? = some (.cells #[a0, a1, a2, a3, a4] e (0, 0))) :
    w.cell? ⟨g, 0, none⟩ = some a0 ∧ w.cell? ⟨g, 1, none⟩ = some a1 ∧ w.cell? ⟨g, 2, none⟩ = some a2 ∧ w.cell? ⟨g, 3, none⟩ = some a3 ∧ w.cell? ⟨g, 4, none⟩ = some a4 :=
  ⟨cell_of_row w g 0 _ _ _ h, cell_of_row w g 1 _ _ _ h, cell_of_row w g 2 _ _ _ h, cell_of_row w g 3 _ _ _ h, cell_of_row w g 4 _ _ _ h⟩

theorem five_free {w : World} {g : Nat} {e : TypeId} {cs : Array Value} (h : w.heap[g]? = some (.cells cs e (0, 0))) :
    w.frozen? ⟨g, 0, none⟩ = false ∧ w.frozen? ⟨g, 1, none⟩ = false ∧ w.frozen? ⟨g, 2, none⟩ = false ∧ w.frozen? ⟨g, 3, none⟩ = false ∧ w.frozen? ⟨g, 4, none⟩ = false :=
  ⟨frozen_of_row w g 0 _ _ h, frozen_of_row w g 1 _ _ h, frozen_of_row w g 2 _ _ h, frozen_of_row w g 3 _ _ h, frozen_of_row w g 4 _ _ h⟩

set_option maxRecDepth 100000 in
set_option maxHeartbeats 2000000 in
theorem open_any (b o c : Nat) (l : List UInt8) (w : World) (hb : BytesIn w (some ⟨b, o, none⟩) 512 l) (hc : 512 ≤ c) (hcm : c ≤ maxLen) :
    Calls Try.prog 125 #[.slice (some ⟨b, o, none⟩) 512 c] w fun e w' => Fr No w w' ∧ ((∃ h d g c', opened l = some (h, d) ∧ e = .returned (.tuple #[h.val, .slice (some ⟨g, 0, none⟩) d.length c', .int .i64 0]) ∧ Row w' g 5 (bvs d) ∧ (d.length ≤ c' ∧ c' ≤ maxLen) ∧ w.heap.size ≤ g)
      ∨ (opened l = none ∧ e = .returned (.tuple #[zeroHd.val, .slice none 0 0, .int .i64 14]))) := by
  have HB := hid hb
  have hcm2 : c ≤ 9223372036854775807 := by unfold maxLen at hcm; omega
  have HCM := hid hcm
  clear hb hcm
  have hbs : b < w.heap.size := by
    obtain ⟨b', o', e, hcell⟩ := HB.out.at (by decide)
    cases e
    have hl : 0 < l.length := by rw [HB.out.len]; decide
    have := hcell 0 (bv (l[0]'hl)) (by simp [bvs, hl])
    exact block_lt_of_cell this
  have hH := hid (two_heaps w #[.int .i64 0, .int .i64 0, .int .i64 0, .int .i64 0, .int .i64 0] #[.int .i64 0, .int .i64 0, .int .i64 0, .int .i64 0, .int .i64 0, .int .i64 0] 144 228)
  go_enter Try.func125, Try.ntmps125
  go_wp2_with fail
  refine (sizes_any _).mono ?_
  rintro e w3 ⟨g3, rfl, hr3, hg3, hf3⟩
  have G3 : Hid (w.heap.size + 2 ≤ g3) := by
    show w.heap.size + 2 ≤ g3
    simpa using hg3
  have N3 : Hid (Nums w3 (w.heap.size + 1) (part l 0)) := hf3.heap0 hH.out.1
  have R3 : Hid (w3.heap[w.heap.size]? = some (.cells #[.int .i64 0, .int .i64 0, .int .i64 0, .int .i64 0, .int .i64 0] 144 (0, 0))) := hf3.heap0 hH.out.2.1
  have F3 := hid (hH.out.2.2.step hf3)
  have S3 := hid hr3
  clear hr3 hf3 hH hg3
  obtain ⟨g5, hg5⟩ : ∃ g5, g5 = w.heap.size + 1 := ⟨_, rfl⟩
  rw [← hg5] at N3
  go_wp2_with fail
  rw [← hg5]
  have HG5 := hid hg5
  clear hg5
  go_loopw [6, 16] (fun v i wr => ∃ j : Nat, j ≤ 6 ∧ i = .int .i64 j ∧ v = .int .i64 (offs j) ∧ Hid (Nums wr g5 (part l j)) ∧ Hid (Fr (· = g5) w3 wr)) (fun _ i _ => 6 - (intOf i).toNat)
  case atStart => exact ⟨0, Nat.zero_le _, rfl, rfl, N3, Fr.refl _ _⟩
  case round =>
    obtain ⟨j, hj, rfl, rfl, hn, hf⟩ := hrel
    have hg35 : Hid (g3 ≠ g5) := by
      have h1 := G3.out
      have h2 := HG5.out
      show g3 ≠ g5
      omega
    have hb5 : Hid (b ≠ g5) := by have := HG5.out; show b ≠ g5; omega
    by_cases hlt : j < 6
    · obtain ⟨z, hz, hz1, hz7, hoff, hoff16, hx⟩ := offs_at l hlt
      have c0 := (S3.out.fr hf.out hg35.out).cell j (.int .i64 z) (by rw [List.getElem?_map, hz]; rfl)
      have c5 := hn.out.cell (part_at l hlt)
      have f5 := hn.out.free j
      have HX := hid hx
      have HB2 := hid ((HB.out.fr0 F3.out).fr hf.out (fun ad had => by cases had; exact hb5.out))
      obtain ⟨x, hxx⟩ : ∃ x, x = ofBe ((l.drop (offs j)).take z) := ⟨_, rfl⟩
      rw [← hxx] at HX
      have HN' := hid (hn.out.set j x)
      rw [part_set l j x hlt HX.out] at HN'
      have HF' := hid (hf.out.step (Fr.set1 wr g5 j (.int .i64 x)))
      have HXX := hid hxx
      clear hz hx hxx
      go_wp2_with fail
      refine (get_num b o 512 c (offs j) z l wr HB2.out hc HCM.out hz1 hz7 (by omega)).mono ?_
      rintro e w' ⟨rfl, rfl⟩
      rw [← HXX.out]
      go_wp2_with fail
      go_roundw
      case rel => exact ⟨j + 1, by omega, by go_num, by rw [← hoff]; go_num, HN', HF'⟩
      case measure => simp [intOf]; omega
    · have hj6 : j = 6 := by omega
      subst hj6
      rw [part_end] at hn
      clear hlt hj
      obtain ⟨h, hh⟩ : ∃ h, h = hdOf l := ⟨_, rfl⟩
      obtain ⟨n, hn'⟩ : ∃ n, n = lenOf l := ⟨_, rfl⟩
      have HH := hid hh
      have HN := hid hn'
      have he : heads l = [h.kind, h.epoch, h.seq, h.part, h.parts, n] := by rw [hh, hn']; rfl
      rw [he] at hn
      have n0 := hn.out.cell (j := 0) rfl
      have n1 := hn.out.cell (j := 1) rfl
      have n2 := hn.out.cell (j := 2) rfl
      have n3 := hn.out.cell (j := 3) rfl
      have n4 := hn.out.cell (j := 4) rfl
      have n5 := hn.out.cell (j := 5) rfl
      have hr := hf.out.heap R3.out (show w.heap.size ≠ g5 by have := HG5.out; omega)
      obtain ⟨k0, k1, k2, k3, k4⟩ := five_cells hr
      obtain ⟨f0, f1, f2, f3, f4⟩ := five_free hr
      have HR := hid hr
      clear hh hn' he hr
      have HZ := hid (fun v0 v1 v2 v3 v4 => (⟨(five HR.out v0 v1 v2 v3 v4).1, (F3.out.trans hf.out (fun k hk => .inr (by rw [hk, HG5.out]; omega))).trans (five HR.out v0 v1 v2 v3 v4).2 (fun k hk => .inr (by rw [hk]; exact Nat.le_refl _))⟩ : _ ∧ Fr No w _))
      by_cases hlen : (496 : Int) < (n : Int)
      · have HO : Hid (opened l = none) := by
          show opened l = none
          unfold opened
          rw [if_neg (by rw [← HN.out]; omega)]
        go_wp2_with fail
        have Z := HZ.out (.int .i64 0) (.int .i64 0) (.int .i64 0) (.int .i64 0) (.int .i64 0)
        revert Z
        generalize (((((wr.setCell ⟨w.heap.size, 0, none⟩ (.int .i64 0)).setCell ⟨w.heap.size, 1, none⟩ (.int .i64 0)).setCell ⟨w.heap.size, 2, none⟩ (.int .i64 0)).setCell ⟨w.heap.size, 3, none⟩ (.int .i64 0)).setCell ⟨w.heap.size, 4, none⟩ (.int .i64 0)) = W
        rintro ⟨Z, ZF⟩
        obtain ⟨q0, q1, q2, q3, q4⟩ := five_cells Z
        refine bodyPost_ret (v := .tuple #[zeroHd.val, .slice none 0 0, .int .i64 14]) (by simp [results, Try.results125, go_sem, q0, q1, q2, q3, q4, zeroHd, Hd.val, intv]) rfl ⟨ZF, .inr ⟨HO.out, rfl⟩⟩
      · have HB3 := hid (fun k (hk : Fr No w k) => HB.out.fr0 hk)
        go_wp2_with fail
        have Z := HZ.out (.int .i64 h.kind) (.int .i64 h.epoch) (.int .i64 h.seq) (.int .i64 h.part) (.int .i64 h.parts)
        have HNW := hid (fun v0 v1 v2 v3 v4 => hn.out.fr (five HR.out v0 v1 v2 v3 v4).2 (show g5 ≠ w.heap.size by have := HG5.out; omega))
        have NW := HNW.out (.int .i64 h.kind) (.int .i64 h.epoch) (.int .i64 h.seq) (.int .i64 h.part) (.int .i64 h.parts)
        revert Z NW
        generalize (((((wr.setCell ⟨w.heap.size, 0, none⟩ (.int .i64 h.kind)).setCell ⟨w.heap.size, 1, none⟩ (.int .i64 h.epoch)).setCell ⟨w.heap.size, 2, none⟩ (.int .i64 h.seq)).setCell ⟨w.heap.size, 3, none⟩ (.int .i64 h.part)).setCell ⟨w.heap.size, 4, none⟩ (.int .i64 h.parts)) = W
        rintro ⟨Z, ZF⟩ NW
        clear HNW k0 k1 k2 k3 k4 f0 f1 f2 f3 f4 n0 n1 n2 n3 n4 n5 HR hf hn HZ
        have hl512 := HB.out.len
        obtain ⟨d, hd⟩ : ∃ d, d = (l.drop 16).take n := ⟨_, rfl⟩
        have HD := hid hd
        have hn496 : n ≤ 496 := by omega
        have hdl : d.length = n := by rw [hd, List.length_take, List.length_drop, hl512]; omega
        have hcd : ∀ j u, (bvs d)[j]? = some u → W.cell? ((⟨b, o + 16, none⟩ : Addr).add j) = some u := by
          intro j u hu
          have hj : j < n := by
            have := (List.getElem?_eq_some_iff.1 hu).1
            rwa [bvs_len, hdl] at this
          have e2 : (bvs l)[16 + j]? = some u := by
            rw [← hu, hd]
            simp only [bvs, List.getElem?_map, List.getElem?_take, List.getElem?_drop, hj, if_true]
          have := (HB3.out W ZF).cell _ rfl (16 + j) u e2
          rw [Addr.add_lit] at this ⊢
          rw [Nat.add_assoc]
          exact this
        have HDL := hid hdl
        have hfit := heads_fit hl512
        rw [← HH.out] at hfit
        have HFIT := hid hfit
        clear hl512 hd hfit
        refine (bclone_any ⟨b, o + 16, none⟩ d n (c - 16) W hdl (by omega) hcd).mono ?_
        rintro e w5 ⟨g6, c6, rfl, hr6, hc6, hg6, hf6⟩
        have HR6 := hid hr6
        have HC6 := hid hc6
        have Z5 := hf6.heap0 Z
        have F5 := hid (ZF.step hf6)
        have HG6 : Hid (w.heap.size < g6) := Nat.lt_of_lt_of_le (lt_of_some Z) hg6
        obtain ⟨k0, k1, k2, k3, k4⟩ := five_cells Z5
        have HZ5 := hid Z5
        clear hr6 hc6 hg6 hf6 hcd hdl Z ZF NW Z5 HB3
        go_wp2_with fail
        refine (seal_any h (some ⟨g6, 0, none⟩) n c6 d w5 (HR6.out.bytes HDL.out) (fun e => by cases e) hn496 HFIT.out).mono ?_
        rintro e w6 ⟨hf6, hcase⟩
        have F6 := hid (F5.out.step hf6)
        have Z6 := hf6.heap0 HZ5.out
        have HR7 := hid (HR6.out.fr0 hf6)
        clear k0 k1 k2 k3 k4
        obtain ⟨k0, k1, k2, k3, k4⟩ := five_cells Z6
        obtain ⟨f0, f1, f2, f3, f4⟩ := five_free Z6
        have HZ6 := hid (fun v0 v1 v2 v3 v4 => (⟨(five Z6 v0 v1 v2 v3 v4).1, F6.out.trans (five Z6 v0 v1 v2 v3 v4).2 (fun k hk => .inr (by rw [hk]; exact Nat.le_refl _)), HR7.out.fr (five Z6 v0 v1 v2 v3 v4).2 (show g6 ≠ w.heap.size by have := HG6.out; omega)⟩ : _ ∧ Fr No w _ ∧ Row _ g6 5 (bvs d)))
        clear Z6
        rcases hcase with ⟨hbad, rfl⟩ | ⟨hgood, g8, c8, rfl, hr8, hc8, hg8⟩
        · have HO : Hid (opened l = none) := by
            show opened l = none
            unfold opened
            rw [if_neg]
            rintro ⟨_, h2, _⟩
            rw [← HH.out] at h2
            exact absurd hbad (of_decide_eq_false h2)
          go_wp2_with fail
          have Z := HZ6.out (.int .i64 0) (.int .i64 0) (.int .i64 0) (.int .i64 0) (.int .i64 0)
          revert Z
          generalize (((((w6.setCell ⟨w.heap.size, 0, none⟩ (.int .i64 0)).setCell ⟨w.heap.size, 1, none⟩ (.int .i64 0)).setCell ⟨w.heap.size, 2, none⟩ (.int .i64 0)).setCell ⟨w.heap.size, 3, none⟩ (.int .i64 0)).setCell ⟨w.heap.size, 4, none⟩ (.int .i64 0)) = W
          rintro ⟨Z, ZF, _⟩
          obtain ⟨q0, q1, q2, q3, q4⟩ := five_cells Z
          refine bodyPost_ret (v := .tuple #[zeroHd.val, .slice none 0 0, .int .i64 14]) (by simp [results, Try.results125, go_sem, q0, q1, q2, q3, q4, zeroHd, Hd.val, intv]) rfl ⟨ZF, .inr ⟨HO.out, rfl⟩⟩
        · have HR8 := hid hr8
          have HB8 := hid (HB.out.fr0 F6.out)
          clear hr8 hc8 hg8
          have HGOOD : Hid (h.bad = false) := decide_eq_false hgood
          clear hgood
          by_cases hs : sealB h d = l
          · have hq : decide (sealB h d = l) = true := decide_eq_true hs
            have HO : Hid (opened l = some (h, d)) := by
              show opened l = some (h, d)
              unfold opened
              rw [← HH.out, ← HN.out, ← HD.out, if_pos ⟨hn496, HGOOD.out, hs⟩]
            have hlen8 : (sealB h d).length = 512 := by rw [hs]; exact HB.out.len
            go_wp2_with (go_at_call 124; refine (beq_any _ _ _ _ _ _ _ _ w6 (HR8.out.bytes hlen8) HB8.out).mono ?_; rintro e w' ⟨rfl, rfl⟩; rw [hq])
            have Z := HZ6.out (.int .i64 h.kind) (.int .i64 h.epoch) (.int .i64 h.seq) (.int .i64 h.part) (.int .i64 h.parts)
            revert Z
            generalize (((((w'.setCell ⟨w.heap.size, 0, none⟩ (.int .i64 h.kind)).setCell ⟨w.heap.size, 1, none⟩ (.int .i64 h.epoch)).setCell ⟨w.heap.size, 2, none⟩ (.int .i64 h.seq)).setCell ⟨w.heap.size, 3, none⟩ (.int .i64 h.part)).setCell ⟨w.heap.size, 4, none⟩ (.int .i64 h.parts)) = W
            rintro ⟨Z, ZF, ZR⟩
            obtain ⟨q0, q1, q2, q3, q4⟩ := five_cells Z
            refine bodyPost_ret (v := .tuple #[h.val, .slice (some ⟨g6, 0, none⟩) n c6, .int .i64 0]) (by simp [results, Try.results125, go_sem, q0, q1, q2, q3, q4, Hd.val, intv]) rfl ⟨ZF, .inl ⟨h, d, g6, c6, HO.out, by rw [HDL.out], ZR, by rw [HDL.out]; exact HC6.out, Nat.le_of_lt HG6.out⟩⟩
          · have hq : decide (sealB h d = l) = false := decide_eq_false hs
            have HO : Hid (opened l = none) := by
              show opened l = none
              unfold opened
              rw [← HH.out, ← HN.out, ← HD.out, if_neg (fun hh => hs hh.2.2)]
            have hlen8 : (sealB h d).length = 512 := sealB_len h d (by rw [HDL.out]; exact hn496)
            go_wp2_with (go_at_call 124; refine (beq_any _ _ _ _ _ _ _ _ w6 (HR8.out.bytes hlen8) HB8.out).mono ?_; rintro e w' ⟨rfl, rfl⟩; rw [hq])
            have Z := HZ6.out (.int .i64 0) (.int .i64 0) (.int .i64 0) (.int .i64 0) (.int .i64 0)
            revert Z
            generalize (((((w'.setCell ⟨w.heap.size, 0, none⟩ (.int .i64 0)).setCell ⟨w.heap.size, 1, none⟩ (.int .i64 0)).setCell ⟨w.heap.size, 2, none⟩ (.int .i64 0)).setCell ⟨w.heap.size, 3, none⟩ (.int .i64 0)).setCell ⟨w.heap.size, 4, none⟩ (.int .i64 0)) = W
            rintro ⟨Z, ZF, _⟩
            obtain ⟨q0, q1, q2, q3, q4⟩ := five_cells Z
            refine bodyPost_ret (v := .tuple #[zeroHd.val, .slice none 0 0, .int .i64 14]) (by simp [results, Try.results125, go_sem, q0, q1, q2, q3, q4, zeroHd, Hd.val, intv]) rfl ⟨ZF, .inr ⟨HO.out, rfl⟩⟩

end Go.Proofs.Ytpimjachhfnlfaa
