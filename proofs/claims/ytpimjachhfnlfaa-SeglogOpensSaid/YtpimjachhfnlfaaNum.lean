/-
  num.Fits, num.Put, num.Get: what they compute. No condition but on the sizes.
-/
import Derived.Test.YtpimjachhfnlfaaCopy
import Derived.BigQuiet
namespace Go.Proofs.Ytpimjachhfnlfaa
open Go.RowKit

/-- Has n so many bytes? -/
def fitsB (n : Int) (s : Nat) : Bool := decide (0 ≤ n) && decide (n < ((2 ^ (8 * s) : Nat) : Int))

theorem div_zero_iff (n : Int) (k : Nat) (hn : 0 ≤ n) : (n / 2 ^ k == 0) = decide (n < ((2 ^ k : Nat) : Int)) := by
  obtain ⟨m, rfl⟩ := Int.eq_ofNat_of_zero_le hn
  have h2 : (2 : Int) ^ k = ((2 ^ k : Nat) : Int) := by simp
  rw [h2, ← Int.natCast_ediv]
  have hp : 0 < 2 ^ k := Nat.pow_pos (by decide)
  have : m / 2 ^ k = 0 ↔ m < 2 ^ k := Nat.div_eq_zero_iff_lt hp
  by_cases h : m < 2 ^ k
  · rw [this.2 h]
    simp only [Int.ofNat_lt, h, decide_true]
    rfl
  · have h0 : m / 2 ^ k ≠ 0 := fun e => h (this.1 e)
    have h1 : ¬ ((m : Int) < ((2 ^ k : Nat) : Int)) := by omega
    rw [decide_eq_false h1, beq_eq_false_iff_ne]
    intro e
    exact h0 (by simpa using Int.ofNat_inj.1 e)

set_option maxRecDepth 100000 in
theorem fits_num (n : Int) (s : Nat) (h1 : 1 ≤ s) (h2 : s ≤ 7) (w : World) : Calls Try.prog 84 #[.int .i64 n, .int .i64 s] w fun e w' => e = .returned (.bool (fitsB n s)) ∧ w' = w := by
  have b1 : (1 : Int) ≤ (s : Int) := by omega
  have b2 : (s : Int) ≤ 7 := by omega
  go_enter Try.func84, Try.ntmps84
  by_cases hn : 0 ≤ n
  · go_wp2
    go_ret
    refine ⟨congrArg (fun b => Ending.returned (.bool b)) ?_, rfl⟩
    rw [div_zero_iff n _ hn]
    simp [fitsB, hn]
  · go_wp2
    go_ret
    refine ⟨congrArg (fun b => Ending.returned (.bool b)) ?_, rfl⟩
    unfold fitsB
    rw [decide_eq_false (by omega : ¬ 0 ≤ n), Bool.false_and]

/-- A number's bytes. -/
def be (s n : Nat) : List UInt8 := (List.range s).map fun i => UInt8.ofNat (n / 2 ^ (8 * (s - 1 - i)))

theorem be_len (s n : Nat) : (be s n).length = s := by simp [be]
theorem be_take (s n j : Nat) (h : j < s) : (be s n).take (j + 1) = (be s n).take j ++ [UInt8.ofNat (n / 2 ^ (8 * (s - 1 - j)))] := by
  rw [List.take_add_one, List.getElem?_eq_getElem (by rw [be_len]; exact h)]
  simp [be]

theorem bv_ofNat (k : Nat) : bv (UInt8.ofNat k) = .int .u8 ((k : Int) % 256) := by
  unfold bv
  rw [UInt8.toNat_ofNat']
  simp

theorem int_pow2 (k : Nat) : (2 : Int) ^ k = ((2 ^ k : Nat) : Int) := by simp

theorem owns_cap {w : World} {base e size n c g : Nat} {xs : List Value} (h : w.ownsRow base e size (.slice (some ⟨g, 0, none⟩) n c) n xs) : n ≤ c := by
  rcases h.2 with ⟨h0, _⟩ | ⟨g', cap, cur, hv, _, _, hnc, _⟩
  · cases h0
  · cases hv; exact hnc

theorem splice_put (l : List UInt8) (n : Nat) (h : l.length = n) : splice (bvs (List.replicate (n + 7) 0)) 0 (bvs l) = bvs (l ++ List.replicate 7 0) := by
  unfold splice bvs
  simp only [List.take_zero, List.nil_append, Nat.zero_add, List.length_map, List.map_append, ← List.map_drop, List.drop_replicate, h]
  congr 3
  omega

theorem made_arr (n : Nat) : madeCells #[Value.int .u8 0] n = (bvs (List.replicate n 0)).toArray := by rw [← made_u8 n]

set_option maxRecDepth 100000 in
set_option maxHeartbeats 1000000 in
theorem put_num (a : Option Addr) (n c : Nat) (l : List UInt8) (x s : Nat) (w : World) (hb : BytesIn w a n l) (hn : n ≤ 1048576) (h1 : 1 ≤ s) (h2 : s ≤ 7) (hx : x < 2 ^ (8 * s)) :
    Calls Try.prog 85 #[.slice a n c, .int .i64 x, .int .i64 s] w fun e w' => ∃ g c', e = .returned (.slice (some ⟨g, 0, none⟩) (n + s) c') ∧ w'.ownsRow 0 5 1 (.slice (some ⟨g, 0, none⟩) (n + s) c') (n + s) (bvs (l ++ be s x)) ∧ w.heap.size ≤ g ∧ Fr No w w' := by
  obtain ⟨iu, hiu, hu0, hu1, hu2⟩ := info_parts info_u8
  have hmk : ∀ w : World, (Instr.makeSlice 23 (.int .i64 (n : Int)) (.int .i64 ((n : Int) + 7))).run Try.prog w = .ok (.slice (some ⟨w.heap.size, 0, none⟩) n (n + 7)) (w.alloc (.cells (bvs (List.replicate (n + 7) 0)).toArray 5)) := by
    intro w
    have hr := run_make (P := Try.prog) w 23 5 iu (.int .u8 0) Try.underlying23 hiu hu0 .i64 .i64 n (n + 7) (by omega) (by omega) (by rw [hu2]; omega) (by omega)
    simp only [hu1, Nat.mul_one] at hr
    rw [← made_arr]
    exact hr
  have HB := hid hb
  have HN := hid hb.len
  have HX := hid hx
  clear hb hx
  have b1 : (1 : Int) ≤ (s : Int) := by omega
  have b2 : (s : Int) ≤ 7 := by omega
  have HSP := hid (splice_put l n HN.out)
  obtain ⟨Z, hZ⟩ : ∃ Z, Z = bvs (List.replicate (n + 7) 0) := ⟨_, rfl⟩
  obtain ⟨B, hBB⟩ : ∃ B, B = bvs l := ⟨_, rfl⟩
  have HZ := hid hZ
  have HBB := hid hBB
  have HZL : Hid (Z.length = n + 7) := by show Z.length = n + 7; rw [hZ, bvs_len, List.length_replicate]
  have HBL : Hid (B.length = n) := by show B.length = n; rw [hBB, bvs_len, HN.out]
  have HBC : Hid (∀ ad, a = some ad → ∀ j u, B[j]? = some u → (w.alloc (.cells Z.toArray 5)).cell? (ad.add j) = some u) := by
    show ∀ ad, a = some ad → ∀ j u, B[j]? = some u → (w.alloc (.cells Z.toArray 5)).cell? (ad.add j) = some u
    rw [hBB]
    exact (HB.out.fr0 (Fr.alloc w _)).cell
  have HB1 : Hid (∀ u ∈ B, u.oneCell' = true) := by show ∀ u ∈ B, u.oneCell' = true; rw [hBB]; exact bvs_one l
  rw [← hZ] at hmk
  clear hZ hBB
  have hno := HB.out.nil
  have HR : Hid ((w.alloc (.cells Z.toArray 5)).heap[w.heap.size]? = some (.cells Z.toArray 5 (0, 0))) := by
    exact heap_alloc_new _ _
  go_enter Try.func85, Try.ntmps85
  go_wp2_with (with_reducible refine wpList_copy_fr rfl (.tmp 15) (.tmp 16) 23 23 rfl 5 Try.underlying23 (by kernel_rfl) w.heap.size 0 n (n + 7) a n c rfl rfl Z 5 HR.out B (by rw [HBL.out]; exact (Nat.min_self n).symm) hno HBC.out (by rw [HBL.out, HZL.out]; omega) HB1.out ?_)
  intro w3 hr3 hf3
  have HR3 : Hid (w3.heap[w.heap.size]? = some (.cells (bvs (l ++ List.replicate 7 0)).toArray 5 (0, 0))) := by
    have h := hr3.out
    rw [HZ.out, HBB.out, HSP.out] at h
    exact h
  have HF3 := hid (show Fr No w w3 from ((Fr.alloc w _).trans hf3.out (fun i hi => .inr (Nat.le_of_eq hi.symm)) : Fr No w w3))
  have HO3 : Hid (w3.ownsRow 0 5 1 (.slice (some ⟨w.heap.size, 0, none⟩) n (n + 7)) n (bvs l)) := by
    refine ⟨by rw [bvs_len, HN.out, Nat.mul_one], .inr ⟨w.heap.size, n + 7, (bvs (l ++ List.replicate 7 0)).toArray, rfl, Nat.zero_le _, HR3.out, by omega, by unfold maxLen; omega, ?_, ?_⟩⟩
    · simp [bvs, HN.out]
    · simp [bvs, HN.out]
  clear hr3 hf3
  have hfx : fitsB (x : Int) s = true := by
    have := HX.out
    unfold fitsB
    rw [decide_eq_true (by omega : (0 : Int) ≤ x), decide_eq_true (by omega), Bool.true_and]
  go_wp2_with (go_at_call 84; refine (fits_num _ _ h1 h2 _).mono ?_; rintro e w' ⟨rfl, rfl⟩)
  go_loopw [7, 8] (fun v i wr => ∃ j t g c' : Nat, j + t = s ∧ i = .int .i64 ((t : Int) - 1) ∧ v = .slice (some ⟨g, 0, none⟩) (n + j) c' ∧ Hid (wr.ownsRow 0 5 1 (.slice (some ⟨g, 0, none⟩) (n + j) c') (n + j) (bvs (l ++ (be s x).take j))) ∧ Hid (w.heap.size ≤ g) ∧ Hid (Fr No w wr)) (fun _ i _ => (intOf i + 1).toNat)
  case atStart => exact ⟨0, s, w.heap.size, n + 7, by omega, rfl, rfl, by rw [List.take_zero, List.append_nil]; exact HO3.out, Nat.le_refl _, HF3.out⟩
  case round =>
    obtain ⟨j, t, g, c', hjt, rfl, rfl, hown, hg, hf⟩ := hrel
    match t, hjt with
    | 0, hjt =>
      have hjs : j = s := by omega
      subst hjs
      go_wp2
      go_ret
      have := hown.out
      rw [List.take_of_length_le (by rw [be_len]; exact Nat.le_refl _)] at this
      exact ⟨g, c', rfl, this, hg.out, hf.out⟩
    | t + 1, hjt =>
      have ht : (((t + 1 : Nat) : Int) - 1) = (t : Int) := by omega
      rw [ht]
      obtain ⟨y, hy⟩ : ∃ y, y = UInt8.ofNat (x / 2 ^ (8 * t)) := ⟨_, rfl⟩
      have HY := hid hy
      clear hy
      go_wp2_with (at_builtin; go_must (refine wpList_append_at _ rfl (.tmp 29) (.tmp 35) 23 rfl 5 iu (.int .u8 0) 1 1 Try.underlying23 hiu hu0 hu1 hu2 rfl (by decide) (.slice (some ⟨g, 0, none⟩) (n + j) c') (n + j) (bvs (l ++ (be s x).take j)) rfl (owns_fr hown.out (Fr.alloc wr _) (fun _ _ => id)) ⟨wr.heap.size, 0, none⟩ 1 1 [bv y] rfl rfl ?n1 (fun u hu => by rcases List.mem_singleton.1 hu with rfl; rfl) (by decide) ?b1 ?b2 ?_))
      case n1 =>
        intro i u hu
        match i, hu with
        | 0, hu =>
          cases hu
          rw [Addr.add_lit, World.cell?_alloc_new]
          rw [HY.out, bv_ofNat, Int.natCast_ediv, ← int_pow2]
          rfl
      case b1 => unfold maxLen; omega
      case b2 => omega
      intro g2 c2 w2 ho2 hg2 hf2
      have HG2 : Hid (w.heap.size ≤ g2) := by
        rcases hg2.out with h | h
        · cases h; exact hg.out
        · have h1 : wr.heap.size + 1 ≤ g2 := h
          have := hf.out.size
          show w.heap.size ≤ g2
          omega
      have HF2 := hid ((hf.out.step (Fr.alloc wr _)).trans hf2.out (fun i hi => .inr (by cases hi; exact hg.out)) : Fr No w w2)
      have HO2 : Hid (w2.ownsRow 0 5 1 (.slice (some ⟨g2, 0, none⟩) (n + (j + 1)) c2) (n + (j + 1)) (bvs (l ++ (be s x).take (j + 1)))) := by
        have e : bvs (l ++ (be s x).take (j + 1)) = bvs (l ++ (be s x).take j) ++ [bv y] := by
          rw [be_take s x j (by omega), ← List.append_assoc, show s - 1 - j = t by omega, HY.out]
          simp [bvs]
        show w2.ownsRow _ _ _ _ _ _
        rw [e]
        exact ho2.out
      clear ho2 hg2 hf2
      go_wp2_with fail
      go_roundw
      case rel => exact ⟨j + 1, t, g2, c2, by omega, rfl, rfl, HO2, HG2, HF2⟩
      case measure => simp [intOf]

/-- The number of bytes. -/
def ofBe (l : List UInt8) : Nat := l.foldl (fun n x => n * 256 + x.toNat) 0

theorem ofBe_snoc (l : List UInt8) (x : UInt8) : ofBe (l ++ [x]) = ofBe l * 256 + x.toNat := by simp [ofBe]

theorem ofBe_go (l : List UInt8) : ∀ a : Nat, l.foldl (fun n x => n * 256 + x.toNat) a < (a + 1) * 2 ^ (8 * l.length) := by
  induction l with
  | nil => intro a; simp
  | cons x l ih =>
    intro a
    have h := ih (a * 256 + x.toNat)
    have hx := x.toNat_lt
    have e : 2 ^ (8 * (x :: l).length) = 256 * 2 ^ (8 * l.length) := by rw [List.length_cons, Nat.mul_add, Nat.pow_add, Nat.mul_comm]
    rw [List.foldl_cons, e, ← Nat.mul_assoc]
    exact Nat.lt_of_lt_of_le h (Nat.mul_le_mul_right _ (by omega))

theorem ofBe_lt (l : List UInt8) : ofBe l < 2 ^ (8 * l.length) := by
  have h := ofBe_go l 0
  rw [Nat.zero_add, Nat.one_mul] at h
  exact h

theorem or_byte (q x : Nat) (hq : q < 281474976710656) (hx : x < 2 ^ 8) : bits BinOp.or .i64 ((q : Int) * 256) (x : Int) = ((q * 256 + x : Nat) : Int) := by
  have e0 : ((q : Int) * 256) = ((q * 256 : Nat) : Int) := by omega
  have h1 : (BitVec.ofInt 64 ((q * 256 : Nat) : Int)).toNat = q * 256 := by
    rw [BitVec.ofInt_natCast, BitVec.toNat_ofNat]; exact Nat.mod_eq_of_lt (by omega)
  have h2 : (BitVec.ofInt 64 (x : Int)).toNat = x := by
    rw [BitVec.ofInt_natCast, BitVec.toNat_ofNat]; exact Nat.mod_eq_of_lt (by omega)
  have h3 : q * 256 ||| x = q * 256 + x := by
    have := Nat.shiftLeft_add_eq_or_of_lt hx q
    rw [Nat.shiftLeft_eq] at this
    exact this.symm
  rw [e0]
  show IntKind.i64.wrap ((BitVec.ofInt 64 ((q * 256 : Nat) : Int) ||| BitVec.ofInt 64 (x : Int)).toNat : Int) = _
  rw [BitVec.toNat_or, h1, h2, h3, IntKind.wrap_i64]
  omega

set_option maxRecDepth 100000 in
set_option maxHeartbeats 1000000 in
theorem get_num (b o n c k s : Nat) (l : List UInt8) (w : World) (hb : BytesIn w (some ⟨b, o, none⟩) n l) (hc : n ≤ c) (hcm : c ≤ maxLen) (h1 : 1 ≤ s) (h2 : s ≤ 7) (hk : k + s ≤ n) :
    Calls Try.prog 126 #[.slice (some ⟨b, o, none⟩) n c, .int .i64 k, .int .i64 s] w fun e w' => e = .returned (.tuple #[.int .i64 (ofBe ((l.drop k).take s)), .int .i64 0]) ∧ w' = w := by
  have HB := hid hb
  have hm : c ≤ 9223372036854775807 := by unfold maxLen at hcm; omega
  clear hb hcm
  have b1 : (1 : Int) ≤ (s : Int) := by omega
  have b2 : (s : Int) ≤ 7 := by omega
  have b3 : (k : Int) ≤ (n : Int) := by omega
  have b4 : (s : Int) ≤ (n : Int) - (k : Int) := by omega
  have b5 : (k : Int) + (s : Int) ≤ (c : Int) := by omega
  go_enter Try.func126, Try.ntmps126
  go_wp2_with fail
  go_loop [8, 42] (fun v i => ∃ j : Nat, j ≤ s ∧ i = .int .i64 j ∧ v = .int .i64 (ofBe ((l.drop k).take j))) (fun _ i => s - (intOf i).toNat)
  case atStart => exact ⟨0, Nat.zero_le _, rfl, rfl⟩
  case round =>
    obtain ⟨j, hj, rfl, rfl⟩ := hrel
    by_cases hlt : j < s
    · obtain ⟨x, hx⟩ : ∃ x, l[k + j]? = some x := ⟨_, List.getElem?_eq_getElem (by rw [HB.out.len]; omega)⟩
      have c0 : w.cell? ⟨b, o + k + j, none⟩ = some (.int .u8 x.toNat) := by
        have := HB.out.cell _ rfl (k + j) (bv x) (by simp [bvs, hx])
        rw [Addr.add_lit] at this
        rw [Nat.add_assoc]
        exact this
      have hx2 := x.toNat_lt
      obtain ⟨q, hq⟩ : ∃ q, q = ofBe ((l.drop k).take j) := ⟨_, rfl⟩
      have hql : q < 281474976710656 := by
        have h := ofBe_lt ((l.drop k).take j)
        rw [← hq] at h
        refine Nat.lt_of_lt_of_le h (Nat.le_trans (Nat.pow_le_pow_right (by decide) (?_ : _ ≤ 48)) (by decide))
        have : ((l.drop k).take j).length ≤ j := List.length_take_le _ _
        omega
      have hq2 : ofBe ((l.drop k).take (j + 1)) = q * 256 + x.toNat := by
        rw [List.take_add_one, show (l.drop k)[j]? = some x by rw [List.getElem?_drop]; exact hx, hq]
        exact ofBe_snoc _ _
      have HQ2 := hid hq2
      rw [← hq]
      clear hq hq2 hx
      go_wp2_with fail
      refine ⟨⟨j + 1, by omega, by go_num, ?_⟩, by simp [intOf]; omega⟩
      rw [or_byte q _ hql hx2, HQ2.out]
    · obtain rfl : j = s := by omega
      go_wp2_with fail
      go_ret2
      exact ⟨rfl, rfl⟩

end Go.Proofs.Ytpimjachhfnlfaa
