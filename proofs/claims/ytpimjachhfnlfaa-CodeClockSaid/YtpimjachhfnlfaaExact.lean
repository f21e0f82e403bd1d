/-
  gazetteerref01.Exact; bytes of names and of times are their own. No condition.
-/
import Derived.Test.YtpimjachhfnlfaaEnc
import Derived.Test.YtpimjachhfnlfaaSaveLaw
namespace Go.Proofs.Ytpimjachhfnlfaa
open Go.RowKit

theorem ba_ext {s t : ByteArray} (h : sb s = sb t) : s = t := by
  obtain ⟨⟨l⟩⟩ := s
  obtain ⟨⟨m⟩⟩ := t
  have : l = m := h
  rw [this]

theorem ba_toList (s : ByteArray) : s.toList = sb s := ByteArray.toList_eq s

set_option maxRecDepth 100000 in
theorem exact_any (a1 a2 : Option Addr) (n1 n2 c1 c2 : Nat) (l1 l2 : List ByteArray) (w : World) (h1 : StrIn w a1 n1 l1) (h2 : StrIn w a2 n2 l2) (hn : n1 ≤ 9223372036854775806) :
    Calls Try.prog 59 #[.slice a1 n1 c1, .slice a2 n2 c2] w fun e w' => e = .returned (.bool (decide (l1 = l2))) ∧ ∃ k, w' = w.drewN k := by
  by_cases hl : n1 = n2
  · subst hl
    have H1 := hid h1
    have H2 := hid h2
    obtain ⟨r, hr⟩ : ∃ r, r = decide (l1 = l2) := ⟨_, rfl⟩
    rw [← hr]
    have HR := hid hr
    clear h1 h2 hr
    go_enter Try.func59, Try.ntmps59
    go_wp2_with fail
    go_loopw [5] (fun i wr => ∃ j : Nat, j ≤ n1 ∧ i = .int .i64 j ∧ Hid (l1.take j = l2.take j) ∧ ∃ k, wr = w.drewN k) (fun i _ => n1 - (intOf i).toNat)
    case atStart => exact ⟨0, Nat.zero_le _, rfl, rfl, 0, rfl⟩
    case round =>
      obtain ⟨j, hj, rfl, hall, kd, rfl⟩ := hrel
      by_cases hlt : j < n1
      · obtain ⟨b1, o1, rfl, -, k1⟩ := H1.out.at (by omega)
        obtain ⟨b2, o2, rfl, -, k2⟩ := H2.out.at (by omega)
        have hj1 : Hid (j < l1.length) := by have := H1.out.len; show j < l1.length; omega
        have hj2 : Hid (j < l2.length) := by have := H2.out.len; show j < l2.length; omega
        have x1 := k1 j _ (List.getElem?_eq_getElem hj1.out)
        have x2 := k2 j _ (List.getElem?_eq_getElem hj2.out)
        have t1 := hid (List.take_succ_eq_append_getElem hj1.out)
        have t2 := hid (List.take_succ_eq_append_getElem hj2.out)
        have g1 := hid (List.getElem?_eq_getElem hj1.out)
        have g2 := hid (List.getElem?_eq_getElem hj2.out)
        generalize l1[j]'hj1.out = s1 at *
        generalize l2[j]'hj2.out = s2 at *
        clear k1 k2
        by_cases he : s1 = s2
        · subst he
          have q : (s1.toList != s1.toList) = false := by rw [bne_eq_false_iff_eq]
          go_wp2_with fail
          go_quiet (fail)
          go_wp2_with fail
          go_roundw
          case rel => exact ⟨j + 1, hlt, by go_num, by show _ = _; rw [t1.out, t2.out, hall.out], _, rfl⟩
          case measure => simp [intOf]; omega
        · have q : (s1.toList != s2.toList) = true := by
            rw [bne_iff_ne, ba_toList, ba_toList]
            exact fun h => he (ba_ext h)
          have q2 : (s1.toList == s2.toList) = false := by
            rw [beq_eq_false_iff_ne, ba_toList, ba_toList]
            exact fun h => he (ba_ext h)
          have q3 : ¬ s1.toList = s2.toList := by
            rw [ba_toList, ba_toList]
            exact fun h => he (ba_ext h)
          have hf : Hid (r = false) := by
            show r = false
            rw [HR.out, decide_eq_false]
            intro h
            have := g1.out
            rw [h, g2.out] at this
            cases this
            exact he rfl
          clear he
          go_wp2_with fail
          go_quiet (fail)
          go_wp2_with fail
          go_ret
          rw [hf.out]
          exact ⟨rfl, _, World.drewN_drewN _ _ _⟩
      · obtain rfl : j = n1 := by omega
        have ht : Hid (r = true) := by
          show r = true
          rw [HR.out, decide_eq_true]
          have := hall.out
          rwa [List.take_of_length_le (by rw [H1.out.len]; exact Nat.le_refl _), List.take_of_length_le (by rw [H2.out.len]; exact Nat.le_refl _)] at this
        clear hall
        go_wp2_with fail
        go_ret
        rw [ht.out]
        exact ⟨rfl, _, rfl⟩
  · have hf : decide (l1 = l2) = false := by
      rw [decide_eq_false]
      intro h
      have := h1.len
      have := h2.len
      rw [h] at *
      omega
    rw [hf]
    have q : ((n1 : Int) != (n2 : Int)) = true := by rw [bne_iff_ne]; omega
    clear h1 h2 hf hl
    go_enter Try.func59, Try.ntmps59
    go_wp2_with fail
    go_ret
    exact ⟨rfl, 0, rfl⟩

/-- A label, and what stands behind it. -/
theorem labB_inj {s t : ByteArray} {x y : List UInt8} (hs : s.size ≤ 63) (ht : t.size ≤ 63) (h : labB s ++ x = labB t ++ y) : s = t ∧ x = y := by
  unfold labB at h
  rw [List.cons_append, List.cons_append] at h
  injection h with h1 h2
  have hsz : s.size = t.size := by
    have := congrArg UInt8.toNat h1
    rw [UInt8.toNat_ofNat', UInt8.toNat_ofNat'] at this
    omega
  have hlen : (sb s).length = (sb t).length := by rw [sb_len, sb_len, hsz]
  have := List.append_inj h2 hlen
  exact ⟨ba_ext this.1, this.2⟩

theorem restB_inj : ∀ (l m : List ByteArray), (∀ s ∈ l, 1 ≤ s.size ∧ s.size ≤ 63) → (∀ s ∈ m, 1 ≤ s.size ∧ s.size ≤ 63) → restB l ++ be 1 0 = restB m ++ be 1 0 → l = m := by
  intro l
  induction l with
  | nil =>
    intro m _ hm h
    cases m with
    | nil => rfl
    | cons t m =>
      exfalso
      have e : restB (t :: m) = labB t ++ restB m := rfl
      rw [e, be1] at h
      unfold labB restB at h
      rw [List.flatMap_nil, List.nil_append, List.append_assoc, List.cons_append] at h
      injection h with h1 h2
      have := congrArg UInt8.toNat h1
      rw [UInt8.toNat_ofNat', UInt8.toNat_ofNat'] at this
      have := hm t List.mem_cons_self
      omega
  | cons s l ih =>
    intro m hl hm h
    have e : restB (s :: l) = labB s ++ restB l := rfl
    cases m with
    | nil =>
      exfalso
      rw [e, be1] at h
      unfold labB restB at h
      rw [List.flatMap_nil, List.nil_append, List.append_assoc, List.cons_append] at h
      injection h with h1 h2
      have := congrArg UInt8.toNat h1
      rw [UInt8.toNat_ofNat', UInt8.toNat_ofNat'] at this
      have := hl s List.mem_cons_self
      omega
    | cons t m =>
      have e2 : restB (t :: m) = labB t ++ restB m := rfl
      rw [e, e2, List.append_assoc, List.append_assoc] at h
      obtain ⟨rfl, h2⟩ := labB_inj (hl s List.mem_cons_self).2 (hm t List.mem_cons_self).2 h
      rw [ih m (fun x hx => hl x (List.mem_cons_of_mem _ hx)) (fun x hx => hm x (List.mem_cons_of_mem _ hx)) h2]

theorem soundB_labels {l : List ByteArray} (h : soundB l = true) : ∀ s ∈ l, 1 ≤ s.size ∧ s.size ≤ 63 := by
  unfold soundB at h
  simp only [Bool.and_eq_true, List.all_eq_true] at h
  exact fun s hs => (goodL_iff s).1 (h.1 s hs)

theorem zone_inj {l m : List ByteArray} (hl : soundB l = true) (hm : soundB m = true) : (be 1 2 ++ restB l ++ be 1 0 = be 1 2 ++ restB m ++ be 1 0) ↔ l = m := by
  constructor
  · intro h
    rw [List.append_assoc, List.append_assoc] at h
    exact restB_inj l m (soundB_labels hl) (soundB_labels hm) (List.append_cancel_left h)
  · intro h; rw [h]

theorem time_inj {a b : Nat} (ha : a ≤ 36028797018963968) (hb : b ≤ 36028797018963968) : (be 1 3 ++ be 7 a = be 1 3 ++ be 7 b) ↔ a = b := by
  constructor
  · intro h
    have h2 := congrArg ofBe (List.append_cancel_left h)
    rwa [ofBe_be (s := 7) (x := a) (by show a < 72057594037927936; omega), ofBe_be (s := 7) (x := b) (by show b < 72057594037927936; omega)] at h2
  · intro h; rw [h]

end Go.Proofs.Ytpimjachhfnlfaa
