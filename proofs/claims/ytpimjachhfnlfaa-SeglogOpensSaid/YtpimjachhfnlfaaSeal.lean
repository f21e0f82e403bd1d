/-
  sector.sizes, sector.Seal: the bytes of a sector. No condition but on the sizes.
-/
import Derived.Test.YtpimjachhfnlfaaZeros
namespace Go.Proofs.Ytpimjachhfnlfaa
open Go.RowKit

def intv (n : Nat) : Value := .int .i64 n
def szs : List Nat := [1, 4, 7, 1, 1, 2]

set_option maxRecDepth 100000 in
theorem sizes_any (w : World) : Calls Try.prog 127 #[] w fun e w' => ∃ g, e = .returned (.slice (some ⟨g, 0, none⟩) 6 6) ∧ Row w' g 3 (szs.map intv) ∧ w.heap.size ≤ g ∧ Fr No w w' := by
  go_enter Try.func127, Try.ntmps127
  go_wp2
  go_ret
  refine ⟨w.heap.size, rfl, ⟨_, heap_alloc_new w _, rfl⟩, Nat.le_refl _, Fr.alloc w _⟩

/-- What a sector tells of itself. -/
structure Hd where
  kind : Nat
  epoch : Nat
  seq : Nat
  part : Nat
  parts : Nat
deriving DecidableEq

def Hd.val (h : Hd) : Value := .agg #[intv h.kind, intv h.epoch, intv h.seq, intv h.part, intv h.parts]

structure Hd.Fit (h : Hd) : Prop where
  kind : h.kind < 2 ^ (8 * 1)
  epoch : h.epoch < 2 ^ (8 * 4)
  seq : h.seq < 2 ^ (8 * 7)
  part : h.part < 2 ^ (8 * 1)
  parts : h.parts < 2 ^ (8 * 1)

def Hd.row (h : Hd) (n : Nat) : List Nat := [h.kind, h.epoch, h.seq, h.part, h.parts, n]

/-- The first j numbers' bytes. -/
def hbytes (xs : List Nat) (j : Nat) : List UInt8 := ((xs.zip szs).take j).flatMap fun p => be p.2 p.1

def sealB (h : Hd) (d : List UInt8) : List UInt8 := hbytes (h.row d.length) 6 ++ d ++ List.replicate (496 - d.length) 0

theorem fits_true {x s : Nat} (h : x < 2 ^ (8 * s)) : fitsB (x : Int) s = true := by
  unfold fitsB
  rw [decide_eq_true (by omega : (0 : Int) ≤ x), decide_eq_true (by omega), Bool.true_and]

theorem szs_at {j : Nat} (h : j < 6) : ∃ z, szs[j]? = some z ∧ 1 ≤ z ∧ z ≤ 7 := by
  match j, h with
  | 0, _ => exact ⟨1, rfl, by decide, by decide⟩
  | 1, _ => exact ⟨4, rfl, by decide, by decide⟩
  | 2, _ => exact ⟨7, rfl, by decide, by decide⟩
  | 3, _ => exact ⟨1, rfl, by decide, by decide⟩
  | 4, _ => exact ⟨1, rfl, by decide, by decide⟩
  | 5, _ => exact ⟨2, rfl, by decide, by decide⟩

theorem row_at {h : Hd} {n j : Nat} (hf : h.Fit) (hn : n < 2 ^ (8 * 2)) (hj : j < 6) : ∃ x, (h.row n)[j]? = some x ∧ ∀ z, szs[j]? = some z → x < 2 ^ (8 * z) := by
  match j, hj with
  | 0, _ => exact ⟨_, rfl, fun z hz => by cases hz; exact hf.kind⟩
  | 1, _ => exact ⟨_, rfl, fun z hz => by cases hz; exact hf.epoch⟩
  | 2, _ => exact ⟨_, rfl, fun z hz => by cases hz; exact hf.seq⟩
  | 3, _ => exact ⟨_, rfl, fun z hz => by cases hz; exact hf.part⟩
  | 4, _ => exact ⟨_, rfl, fun z hz => by cases hz; exact hf.parts⟩
  | 5, _ => exact ⟨_, rfl, fun z hz => by cases hz; exact hn⟩

theorem hbytes_succ {xs : List Nat} {j x z : Nat} (hx : xs[j]? = some x) (hz : szs[j]? = some z) : hbytes xs (j + 1) = hbytes xs j ++ be z x := by
  unfold hbytes
  rw [List.take_add_one, List.flatMap_append]
  have : (xs.zip szs)[j]? = some (x, z) := by rw [List.getElem?_zip_eq_some]; exact ⟨hx, hz⟩
  rw [this]
  simp

theorem two_rows (w : World) (A B : Array Value) (tA tB : TypeId) : Row ((w.alloc (.cells A tA)).alloc (.cells B tB)) (w.heap.size + 1) tB B.toList ∧ Row ((w.alloc (.cells A tA)).alloc (.cells B tB)) w.heap.size tA A.toList ∧ Fr No w ((w.alloc (.cells A tA)).alloc (.cells B tB)) := by
  refine ⟨⟨B, ?_, List.take_length⟩, (show Row (w.alloc (.cells A tA)) w.heap.size tA _ from ⟨A, heap_alloc_new w _, List.take_length⟩).fr0 (Fr.alloc _ _), (Fr.alloc _ _).step (Fr.alloc _ _)⟩
  have := heap_alloc_new (w.alloc (.cells A tA)) (.cells B tB)
  simpa using this

set_option maxRecDepth 100000 in
set_option maxHeartbeats 2000000 in
theorem seal_any (h : Hd) (a : Option Addr) (n c : Nat) (d : List UInt8) (w : World) (hb : BytesIn w a n d) (hnil : a = none → c = 0) (hn : n ≤ 496) (hf : h.Fit) :
    Calls Try.prog 86 #[h.val, .slice a n c] w fun e w' => Fr No w w' ∧ ((h.kind = 0 ∨ h.parts = 0 ∨ h.parts ≤ h.part) ∧ e = .returned (.tuple #[.slice none 0 0, .int .i64 15])
      ∨ ¬ (h.kind = 0 ∨ h.parts = 0 ∨ h.parts ≤ h.part) ∧ ∃ g c', e = .returned (.tuple #[.slice (some ⟨g, 0, none⟩) 512 c', .int .i64 0]) ∧ Row w' g 5 (bvs (sealB h d)) ∧ 512 ≤ c' ∧ w.heap.size ≤ g) := by
  obtain ⟨iu, hiu, hu0, hu1, hu2⟩ := info_parts info_u8
  have HB := hid hb
  have HN := hid hb.len
  have HF := hid hf
  have hnil2 : a = none → n = 0 ∧ c = 0 := fun e => ⟨HB.out.nil e, hnil e⟩
  clear hb hf
  have hn16 : n < 2 ^ (8 * 2) := Nat.lt_of_le_of_lt hn (by decide)
  have HW := hid (fun j (hj : j < 6) => row_at HF.out hn16 hj)
  clear hn16
  obtain ⟨xs, hxs⟩ : ∃ xs, xs = h.row n := ⟨_, rfl⟩
  rw [← hxs] at HW
  have HXS := hid hxs
  have h3 := two_rows w #[.int .i64 h.kind, .int .i64 h.epoch, .int .i64 h.seq, .int .i64 h.part, .int .i64 h.parts] #[.int .i64 h.kind, .int .i64 h.epoch, .int .i64 h.seq, .int .i64 h.part, .int .i64 h.parts, .int .i64 n] 144 3
  rw [show (#[.int .i64 h.kind, .int .i64 h.epoch, .int .i64 h.seq, .int .i64 h.part, .int .i64 h.parts, .int .i64 n] : Array Value).toList = xs.map intv by rw [hxs]; rfl] at h3
  have h3 := hid h3
  clear hxs
  have b9 : (n : Int) ≤ 496 := by omega
  go_enter Try.func86, Try.ntmps86
  unfold Hd.val intv
  go_wp2_with fail
  revert h3
  generalize ((w.alloc (.cells #[.int .i64 h.kind, .int .i64 h.epoch, .int .i64 h.seq, .int .i64 h.part, .int .i64 h.parts] 144)).alloc (.cells #[.int .i64 h.kind, .int .i64 h.epoch, .int .i64 h.seq, .int .i64 h.part, .int .i64 h.parts, .int .i64 n] 3)) = w2
  generalize w.heap.size + 1 = g1
  intro h3
  obtain ⟨hrow, hrh, hfr⟩ := h3.out
  have hrow := hid hrow
  have hrh := hid hrh
  have hfr := hid hfr
  clear h3
  go_loopw [28] (fun i wr => ∃ j : Nat, j ≤ 5 ∧ i = .int .i64 j ∧ Hid (Fr No w2 wr)) (fun i _ => 5 - (intOf i).toNat)
  case atStart => exact ⟨0, Nat.zero_le _, rfl, Fr.refl _ _⟩
  case round =>
    obtain ⟨j, hj, rfl, hf⟩ := hrel
    by_cases hlt : j < 5
    · obtain ⟨z, hz, hz1, hz7⟩ := szs_at (show j < 6 by omega)
      obtain ⟨x, hx, hxz⟩ := HW.out j (by omega)
      have hxz := hxz z hz
      have c0 := (hrow.out.fr0 hf.out).cell j (.int .i64 x) (by rw [List.getElem?_map, hx]; rfl)
      have HX := hid hx
      have HZ := hid hz
      have HXZ := hid hxz
      clear hx hz hxz
      go_wp2_with fail
      refine (sizes_any _).mono ?_
      rintro e w3 ⟨g3, rfl, hr3, hg3, hf3⟩
      have c3 := hr3.cell j (.int .i64 z) (by rw [List.getElem?_map, HZ.out]; rfl)
      have HF3 := hid (hf.out.step hf3)
      clear hr3 hg3 hf3 c0
      have hft := fits_true HXZ.out
      go_wp2_with (go_at_call 84; refine (fits_num _ _ hz1 hz7 _).mono ?_; rintro e w' ⟨rfl, rfl⟩)
      go_roundw
      case rel => exact ⟨j + 1, by omega, by go_num, HF3⟩
      case measure => simp [intOf]; omega
    · have k0 := (hrh.out.fr0 hf.out).cell 0 (.int .i64 h.kind) rfl
      have k3 := (hrh.out.fr0 hf.out).cell 3 (.int .i64 h.part) rfl
      have k4 := (hrh.out.fr0 hf.out).cell 4 (.int .i64 h.parts) rfl
      by_cases e1 : (h.kind : Int) = 0
      · go_wp2_with fail
        go_ret2
        exact ⟨hfr.out.step hf.out, .inl ⟨.inl (by omega), rfl⟩⟩
      by_cases e2 : (h.parts : Int) = 0
      · go_wp2_with fail
        go_ret2
        exact ⟨hfr.out.step hf.out, .inl ⟨.inr (.inl (by omega)), rfl⟩⟩
      by_cases e3 : (h.parts : Int) ≤ (h.part : Int)
      · go_wp2_with fail
        go_ret2
        exact ⟨hfr.out.step hf.out, .inl ⟨.inr (.inr (by omega)), rfl⟩⟩
      have hgood : ¬ (h.kind = 0 ∨ h.parts = 0 ∨ h.parts ≤ h.part) := by omega
      have HGOOD := hid hgood
      have e4 : (h.part : Int) < (h.parts : Int) := by omega
      have q1 : ((h.kind : Int) == 0) = false := beq_eq_false_iff_ne.2 e1
      have q2 : ((h.parts : Int) == 0) = false := beq_eq_false_iff_ne.2 e2
      clear hgood e1 e2 e3
      go_wp2_with fail
      have F2 := hid (hfr.out.step hf.out)
      have HROW := hid (hrow.out.fr0 hf.out)
      clear hrow hrh hfr hf hj hlt k0 k3 k4 e4 q1 q2
      generalize decide ((j : Int) < 5) = b29
      generalize decide (h.parts ≤ h.part) = b41
      obtain ⟨w4, hw4⟩ : ∃ w4 : World, w4 = wr := ⟨_, rfl⟩
      subst hw4
      go_loopw [9, 63] (fun v i wr => ∃ j a' n' c' : Nat, j ≤ 6 ∧ i = .int .i64 j ∧ n' ≤ 7 * j ∧ Hid (Fr No w4 wr) ∧ ((j = 0 ∧ v = .slice none 0 0) ∨ 0 < j ∧ v = .slice (some ⟨a', 0, none⟩) n' c' ∧ Hid (wr.ownsRow 0 5 1 (.slice (some ⟨a', 0, none⟩) n' c') n' (bvs (hbytes xs j))) ∧ Hid (w.heap.size ≤ a'))) (fun _ i _ => 6 - (intOf i).toNat)
      case atStart => exact ⟨0, 0, 0, 0, Nat.zero_le _, rfl, Nat.zero_le _, Fr.refl _ _, .inl ⟨rfl, rfl⟩⟩
      case round =>
        obtain ⟨j, a', n', c', hj, rfl, hn', hf, hv⟩ := hrel
        by_cases hlt : j < 6
        · obtain ⟨a2, n2, c2, rfl, hb2, hn2⟩ : ∃ a2 n2 c2, u9 = .slice a2 n2 c2 ∧ Hid (BytesIn wr a2 n2 (hbytes xs j)) ∧ n2 ≤ 7 * j := by
            rcases hv with ⟨rfl, rfl⟩ | ⟨_, rfl, ho, _⟩
            · exact ⟨none, 0, 0, rfl, BytesIn.nothing _, Nat.le_refl _⟩
            · exact ⟨_, _, _, rfl, (row_of_owns ho.out).bytes (by have := ho.out.1; rwa [bvs_len, Nat.mul_one] at this), hn'⟩
          obtain ⟨z, hz, hz1, hz7⟩ := szs_at (show j < 6 by omega)
          obtain ⟨x, hx, hxz⟩ := HW.out j (by omega)
          have hxz := hxz z hz
          have c0 := (HROW.out.fr0 hf.out).cell j (.int .i64 x) (by rw [List.getElem?_map, hx]; rfl)
          have HX := hid hx
          have HZ := hid hz
          have HXZ := hid hxz
          clear hx hz hxz hv
          have HJ := hid hn2
          clear hn2 hn'
          go_wp2_with fail
          refine (sizes_any _).mono ?_
          rintro e w5 ⟨g5, rfl, hr5, hg5, hf5⟩
          have c5 := hr5.cell j (.int .i64 z) (by rw [List.getElem?_map, HZ.out]; rfl)
          have HF5 := hid (hf.out.step hf5)
          have HB5 := hid (hb2.out.fr0 hf5)
          clear hr5 hg5 hf5 c0
          go_wp2_with fail
          refine (put_num a2 n2 c2 _ x z w5 HB5.out (by have := HJ.out; omega) hz1 hz7 HXZ.out).mono ?_
          rintro e w6 ⟨g6, c6, rfl, ho6, hg6, hf6⟩
          rw [← hbytes_succ HX.out HZ.out] at ho6
          have HO6 := hid ho6
          have HF6 := hid (HF5.out.step hf6)
          have HG6 : Hid (w.heap.size ≤ g6) := Nat.le_trans (Nat.le_trans F2.out.size HF5.out.size) hg6
          clear ho6 hg6 hf6
          go_wp2_with fail
          go_roundw
          case rel => exact ⟨j + 1, g6, n2 + z, c6, by omega, by go_num, by have := HJ.out; omega, HF6, .inr ⟨by omega, rfl, HO6, HG6⟩⟩
          case measure => simp [intOf]; omega
        · have hj6 : j = 6 := by omega
          subst hj6
          rcases hv with ⟨h0, _⟩ | ⟨_, rfl, ho, hga⟩
          · cases h0
          have hn16 : n' = 16 := by
            have := ho.out.1
            rw [bvs_len, Nat.mul_one, HXS.out] at this
            rw [← this]
            rfl
          subst hn16
          clear hlt hj hn'
          have HBD := hid (fun ad (had : a = some ad) => (((HB.out.fr0 F2.out).fr0 hf.out).cell ad had))
          have HL16 := hid ho.out
          go_wp2_with (at_builtin; go_must (refine wpList_append_more _ rfl (.tmp 76) (.tmp 77) 23 rfl 5 iu (.int .u8 0) 1 1 Try.underlying23 hiu hu0 hu1 hu2 rfl (by decide) a' 16 c' (bvs (hbytes xs 6)) rfl HL16.out a n c (bvs d) rfl hnil2 (by rw [bvs_len, HN.out, Nat.mul_one]) HBD.out (bvs_one _) ?c1 ?c2 ?_))
          case c1 => unfold maxLen; omega
          case c2 => omega
          intro g7 c7 w7 ho7 hg7 hf7
          go_wp2_with (at_builtin; go_must (refine wpList_append_zeros _ rfl (.tmp 79) (.tmp 82) 23 3 rfl 5 iu (.int .u8 0) Try.underlying23 Try.underlying3 hiu hu0 hu1 hu2 rfl rfl g7 (16 + n) c7 (bvs (hbytes xs 6) ++ bvs d) rfl ho7.out (496 - n) ?c3 (by omega) ?_))
          case c3 =>
            refine congrArg (Value.int .i64) (?_ : (512 - (16 + (n : Int)) : Int) = ((496 - n : Nat) : Int))
            omega
          intro g8 c8 w8 ho8 hg8 hf8
          have e512 : 16 + n + (496 - n) = 512 := by omega
          rw [e512] at ho8 ⊢
          have HR8 : Hid (Row w8 g8 5 (bvs (sealB h d))) := by
            have := row_of_owns ho8.out
            have e : bvs (sealB h d) = bvs (hbytes xs 6) ++ bvs d ++ List.replicate (496 - n) (.int .u8 0) := by
              unfold sealB
              rw [HN.out, ← HXS.out]
              simp [bvs, List.map_replicate, bv]
            show Row _ _ _ _
            rw [e]
            simpa using this
          have HF8 : Hid (Fr No w w8) := by
            refine ((F2.out.step hf.out).trans hf7.out (fun k hk => .inr (by rw [hk]; exact hga.out))).trans hf8.out (fun k hk => .inr ?_)
            rw [hk]
            rcases hg7.out with e | e
            · rw [e]; exact hga.out
            · exact Nat.le_trans (Nat.le_trans F2.out.size hf.out.size) e
          have HG8 : Hid (w.heap.size ≤ g8) := by
            have h7 : w.heap.size ≤ g7 := by
              rcases hg7.out with e | e
              · rw [e]; exact hga.out
              · exact Nat.le_trans (Nat.le_trans F2.out.size hf.out.size) e
            rcases hg8.out with e | e
            · show w.heap.size ≤ g8; rw [e]; exact h7
            · exact Nat.le_trans (Nat.le_trans (Nat.le_trans F2.out.size hf.out.size) hf7.out.size) e
          have HC8 := hid (owns_cap ho8.out)
          clear ho8 hg8 hf8
          go_wp2_with fail
          go_ret2
          exact ⟨HF8.out, .inr ⟨HGOOD.out, g8, c8, rfl, HR8.out, HC8.out, HG8.out⟩⟩

end Go.Proofs.Ytpimjachhfnlfaa
