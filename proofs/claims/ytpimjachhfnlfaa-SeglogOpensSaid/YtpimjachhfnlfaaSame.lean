/-
  The same bytes? And a sector of noughts. No condition.
-/
import Derived.Test.YtpimjachhfnlfaaCrash
namespace Go.Proofs.Ytpimjachhfnlfaa
open Go.RowKit

theorem BytesIn.at {w : World} {a : Option Addr} {n : Nat} {l : List UInt8} (h : BytesIn w a n l) (hn : 0 < n) :
    ∃ b o, a = some ⟨b, o, none⟩ ∧ ∀ j u, (bvs l)[j]? = some u → w.cell? ⟨b, o + j, none⟩ = some u := by
  cases a with
  | none => have := h.nil rfl; omega
  | some ad =>
    obtain ⟨b, o, s⟩ := ad
    have h0 : ∃ u, (bvs l)[0]? = some u := ⟨_, List.getElem?_eq_getElem (by rw [bvs_len, h.len]; exact hn)⟩
    obtain ⟨u, hu⟩ := h0
    have hs : s = none := by
      have := h.cell _ rfl 0 u hu
      simpa [Addr.add] using World.cell?_spot this
    subst hs
    refine ⟨b, o, rfl, fun j u hu => ?_⟩
    have := h.cell _ rfl j u hu
    rwa [Addr.add_lit] at this

theorem Row.bytes {w : World} {g n : Nat} {l : List UInt8} (h : Row w g 5 (bvs l)) (hn : l.length = n) : BytesIn w (some ⟨g, 0, none⟩) n l :=
  ⟨hn, (fun e => by cases e), fun ad had j u hu => by cases had; rw [Addr.add_lit]; simpa using h.cell j u hu⟩

theorem BytesIn.nothing (w : World) : BytesIn w none 0 [] := ⟨rfl, fun _ => rfl, fun ad h => by cases h⟩

theorem BytesIn.fr {S : Nat → Prop} {w w' : World} {a : Option Addr} {n : Nat} {l : List UInt8} (h : BytesIn w a n l) (f : Fr S w w') (hn : ∀ ad, a = some ad → ¬ S ad.block) : BytesIn w' a n l :=
  ⟨h.len, h.nil, fun ad had j u hu => f.cell (h.cell ad had j u hu) (by rw [add_block]; exact hn ad had)⟩

theorem BytesIn.fr0 {w w' : World} {a : Option Addr} {n : Nat} {l : List UInt8} (h : BytesIn w a n l) (f : Fr No w w') : BytesIn w' a n l := h.fr f fun _ _ => id

theorem BytesIn.drewN {w : World} {a : Option Addr} {n : Nat} {l : List UInt8} (h : BytesIn w a n l) (k : Nat) : BytesIn (w.drewN k) a n l := h.fr0 (Fr.drewN w k)

theorem zero_any (w : World) : Calls Try.prog 24 #[] w fun e w' => ∃ g, e = .returned (.slice (some ⟨g, 0, none⟩) 512 512) ∧ w'.heap[g]? = some (.cells (bvs (List.replicate 512 0)).toArray 5 (0, 0)) ∧ w.heap.size ≤ g ∧ Fr No w w' := by
  obtain ⟨iu, hiu, hu0, hu1, hu2⟩ := info_parts info_u8
  go_enter Try.func24, Try.ntmps24
  go_wp2_with (at_make; go_must (refine wpList_make_full _ rfl _ _ 23 rfl 0 5 iu (.int .u8 0) 1 Try.underlying23 hiu hu0 hu1 _ _ _ _ 512 rfl rfl rfl rfl ?b1 ?b2 (Nat.zero_le _) ?_))
  case b1 => rw [hu2]; decide
  case b2 => decide
  intro w2 hown hg2
  have hrow : w2.heap[w.heap.size]? = some (.cells (bvs (List.replicate 512 0)).toArray 5 (0, 0)) := by
    rcases hown.2 with ⟨h, _⟩ | ⟨g, cap, cur, hv, _, hgg, _, _, hcs, ht⟩
    · cases h
    · cases hv
      rw [hgg]
      have e1 : cur.toList.take (512 * 1) = cur.toList := List.take_of_length_le (by rw [Array.length_toList]; omega)
      rw [e1, made_u8 512] at ht
      rw [← ht]
  have HR := hid hrow
  have HF := hid (show Fr No w w2 from Fr.grown hg2 (fun k hk => by cases hk))
  clear hown hg2 hrow
  go_wp2_with fail
  go_ret
  exact ⟨_, rfl, HR.out, Nat.le_refl _, HF.out⟩

theorem same_short (a1 a2 : Option Addr) (n1 c1 n2 c2 : Nat) (w : World) (h : n1 ≠ n2) :
    Calls Try.prog 25 #[.slice a1 n1 c1, .slice a2 n2 c2] w fun e w' => e = .returned (.bool false) ∧ w' = w := by
  have hq : ((n1 : Int) != (n2 : Int)) = true := by rw [bne_iff_ne]; omega
  go_enter Try.func25, Try.ntmps25
  go_wp2
  go_ret
  exact ⟨rfl, rfl⟩

theorem same_empty (a1 a2 : Option Addr) (c1 c2 : Nat) (w : World) :
    Calls Try.prog 25 #[.slice a1 0 c1, .slice a2 0 c2] w fun e w' => e = .returned (.bool true) ∧ w' = w := by
  go_enter Try.func25, Try.ntmps25
  go_wp2
  refine wp_loop_rounds 1 ?_
  rw [rounds_succ]
  go_wp2_with fail
  go_ret
  exact ⟨rfl, rfl⟩

theorem bv_inj {x y : UInt8} (h : (x.toNat : Int) = (y.toNat : Int)) : x = y := UInt8.toNat_inj.1 (by omega)

theorem list_ext_to {α : Type} {l1 l2 : List α} {n : Nat} (h1 : l1.length = n) (h2 : l2.length = n) (h : ∀ t, t < n → l1[t]? = l2[t]?) : l1 = l2 := by
  apply List.ext_getElem?
  intro i
  rcases Nat.lt_or_ge i n with hi | hi
  · exact h i hi
  · rw [List.getElem?_eq_none (by omega), List.getElem?_eq_none (by omega)]

def samePost (w : World) (r : Prop) (e : Ending) (w' : World) : Prop := (∃ b : Bool, e = .returned (.bool b) ∧ (b = true ↔ r)) ∧ ∃ k, w' = w.drewN k

set_option maxRecDepth 100000 in
theorem same_long (b1 o1 b2 o2 n c1 c2 : Nat) (l1 l2 : List UInt8) (w : World) (h1 : l1.length = n) (h2 : l2.length = n) (hn : n ≤ 9223372036854775806)
    (k1 : ∀ j u, (bvs l1)[j]? = some u → w.cell? ⟨b1, o1 + j, none⟩ = some u) (k2 : ∀ j u, (bvs l2)[j]? = some u → w.cell? ⟨b2, o2 + j, none⟩ = some u) :
    Calls Try.prog 25 #[.slice (some ⟨b1, o1, none⟩) n c1, .slice (some ⟨b2, o2, none⟩) n c2] w fun e w' => samePost w (l1 = l2) e w' := by
  have H1 := hid h1
  have H2 := hid h2
  have K1 := hid k1
  have K2 := hid k2
  clear h1 h2 k1 k2
  go_enter Try.func25, Try.ntmps25
  go_wp2
  go_loopw [5] (fun i wr => ∃ j k : Nat, j ≤ n ∧ i = .int .i64 j ∧ wr = w.drewN k ∧ ∀ t, t < j → l1[t]? = l2[t]?) (fun i _ => n - (intOf i).toNat)
  case atStart => exact ⟨0, 0, Nat.zero_le _, rfl, rfl, fun t ht => by omega⟩
  case round =>
    obtain ⟨j, k, hj, rfl, rfl, hall⟩ := hrel
    have HA := hid hall
    clear hall
    by_cases hlt : j < n
    · have hj1 : Hid (j < l1.length) := by have := H1.out; show j < l1.length; omega
      have hj2 : Hid (j < l2.length) := by have := H2.out; show j < l2.length; omega
      have c1 := K1.out j (bv (l1[j]'hj1.out)) (by simp [bvs, hj1.out])
      have c2 := K2.out j (bv (l2[j]'hj2.out)) (by simp [bvs, hj2.out])
      unfold bv at c1 c2
      by_cases he : l1[j]'hj1.out = l2[j]'hj2.out
      · have hq : (((l1[j]'hj1.out).toNat : Int) != ((l2[j]'hj2.out).toNat : Int)) = false := by rw [he]; simp
        have HE := hid he
        clear he
        have hI1 : (0 : Int) ≤ (j : Int) := by omega
        have hI2 : (j : Int) < (n : Int) := by omega
        go_wp2_with fail
        go_quiet (fail)
        go_wp2_with fail
        go_roundw
        case rel =>
          refine ⟨j + 1, _, hlt, by go_num, rfl, ?_⟩
          intro t ht
          by_cases h : t = j
          · subst h; rw [List.getElem?_eq_getElem hj1.out, List.getElem?_eq_getElem hj2.out, HE.out]
          · exact HA.out t (by omega)
        case measure => simp [intOf]; omega
      · have hq : (((l1[j]'hj1.out).toNat : Int) != ((l2[j]'hj2.out).toNat : Int)) = true := by
          rw [bne_iff_ne]; exact fun e => he (bv_inj e)
        have HE := hid he
        clear he
        have hI1 : (0 : Int) ≤ (j : Int) := by omega
        have hI2 : (j : Int) < (n : Int) := by omega
        go_wp2_with fail
        go_quiet (fail)
        go_wp2_with fail
        go_ret
        refine ⟨⟨false, rfl, ?_⟩, _, World.drewN_drewN _ _ _⟩
        simp only [Bool.false_eq_true, false_iff]
        intro e
        have h1 := hj1.out
        have h2 := hj2.out
        have h3 := HE.out
        subst e
        exact h3 rfl
    · go_wp2_with fail
      go_ret
      refine ⟨⟨true, rfl, ?_⟩, _, rfl⟩
      simp only [true_iff]
      exact list_ext_to H1.out H2.out (fun t ht => HA.out t (by omega))

/-- The same bytes? -/
theorem same_any {w : World} {a1 a2 : Option Addr} {n1 n2 : Nat} {l1 l2 : List UInt8} (c1 c2 : Nat) (h1 : BytesIn w a1 n1 l1) (h2 : BytesIn w a2 n2 l2) (hn : n1 ≤ 9223372036854775806) :
    Calls Try.prog 25 #[.slice a1 n1 c1, .slice a2 n2 c2] w fun e w' => samePost w (l1 = l2) e w' := by
  by_cases h : n1 = n2
  · subst h
    by_cases h0 : n1 = 0
    · subst h0
      refine (same_empty a1 a2 c1 c2 w).mono fun e w' hh => ?_
      obtain ⟨rfl, rfl⟩ := hh
      have e1 := List.eq_nil_of_length_eq_zero h1.len
      have e2 := List.eq_nil_of_length_eq_zero h2.len
      exact ⟨⟨true, rfl, by simp [e1, e2]⟩, 0, rfl⟩
    · obtain ⟨b1, o1, rfl, k1⟩ := h1.at (by omega)
      obtain ⟨b2, o2, rfl, k2⟩ := h2.at (by omega)
      exact same_long b1 o1 b2 o2 n1 c1 c2 l1 l2 w h1.len h2.len hn k1 k2
  · refine (same_short a1 a2 n1 c1 n2 c2 w h).mono fun e w' hh => ?_
    obtain ⟨rfl, rfl⟩ := hh
    refine ⟨⟨false, rfl, ?_⟩, 0, rfl⟩
    simp only [Bool.false_eq_true, false_iff]
    intro e
    have := h1.len
    have := h2.len
    subst e
    omega

end Go.Proofs.Ytpimjachhfnlfaa
