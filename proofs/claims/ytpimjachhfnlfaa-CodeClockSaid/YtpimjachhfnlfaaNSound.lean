/-
  name.Sound and gazetteerref01.Sound: what they compute. No condition.
-/
import Derived.Test.YtpimjachhfnlfaaStrs
namespace Go.Proofs.Ytpimjachhfnlfaa
open Go.RowKit

theorem badL_any (s : ByteArray) (w : World) (hs : s.size ≤ 9223372036854775807) : Calls Try.prog 156 #[.string s] w fun e w' => e = .returned (.bool (!goodL s)) ∧ w' = w := by
  by_cases h : s.size = 0
  · have h1 : s = ⟨#[]⟩ := by
      obtain ⟨d⟩ := s
      have : d = #[] := Array.eq_empty_of_size_eq_zero h
      rw [this]
    subst h1
    have e : (!goodL ⟨#[]⟩) = true := rfl
    rw [e]
    clear h
    go_enter Try.func156, Try.ntmps156
    go_wp2
    go_ret
    exact ⟨rfl, rfl⟩
  · have e2 : s.toList.isEmpty = false := by
      rw [ByteArray.toList_eq]
      cases hl : s.data.toList with
      | nil =>
        exfalso
        apply h
        have : s.data.toList.length = 0 := by rw [hl]; rfl
        simpa using this
      | cons _ _ => rfl
    by_cases h2 : 63 < s.size
    · have q : (63 : Int) < (s.size : Int) := by omega
      have e : (!goodL s) = true := by simp [goodL]; omega
      rw [e]
      clear e h h2
      go_enter Try.func156, Try.ntmps156
      go_wp2
      go_ret
      exact ⟨rfl, rfl⟩
    · have q : ¬ (63 : Int) < (s.size : Int) := by omega
      have e : (!goodL s) = false := by simp [goodL]; omega
      rw [e]
      clear e h h2
      go_enter Try.func156, Try.ntmps156
      go_wp2
      go_ret
      exact ⟨rfl, rfl⟩

/-- The index of a bad label, or -1. -/
def IndexPost (l : List ByteArray) (w : World) (e : Ending) (w' : World) : Prop := ∃ z : Int, e = .returned (.int .i64 z) ∧ ((0 ≤ z ∧ l.all goodL = false) ∨ (z < 0 ∧ l.all goodL = true)) ∧ w' = w

set_option maxRecDepth 100000 in
theorem indexL_any (a : Option Addr) (n c : Nat) (l : List ByteArray) (w : World) (h : StrIn w a n l) (hn : n ≤ 9223372036854775807) (hs : ∀ s ∈ l, s.size ≤ 9223372036854775807) :
    Calls Try.prog 185 #[.slice a n c, .func (.func 156) #[] #[]] w fun e w' => IndexPost l w e w' := by
  have H := hid h
  have HS := hid hs
  clear h hs
  go_enter Try.func185, Try.ntmps185
  go_wp2_with fail
  go_loop [5, 8] (fun t i => ∃ j : Nat, j ≤ n ∧ i = .int .i64 j ∧ Hid ((l.take j).all goodL = true)) (fun _ i => n - (intOf i).toNat)
  case atStart => exact ⟨0, Nat.zero_le _, rfl, rfl⟩
  case round =>
    obtain ⟨j, hj, rfl, hall⟩ := hrel
    by_cases hlt : j < n
    · obtain ⟨b, o, rfl, -, hcell⟩ := H.out.at (by omega)
      have hjl : Hid (j < l.length) := by have := H.out.len; show j < l.length; omega
      have c0 := hcell j _ (List.getElem?_eq_getElem hjl.out)
      have hst := hid (HS.out _ (List.getElem_mem hjl.out))
      have hsn : Hid ((l.take (j + 1)).all goodL = ((l.take j).all goodL && goodL (l[j]'hjl.out))) := by
        show _ = _
        rw [List.take_succ_eq_append_getElem hjl.out, List.all_append]; simp
      have hmem := hid (List.getElem_mem hjl.out)
      generalize l[j]'hjl.out = s at *
      clear hcell
      cases hg : goodL s with
      | true =>
        have hb := hid (badL_any s w hst.out)
        rw [hg] at hb hsn
        have HG := hid hg
        clear hg
        go_wp2_with fail
        refine hb.out.mono ?_
        rintro e w' ⟨rfl, rfl⟩
        go_wp2_with fail
        go_round
        case rel => exact ⟨j + 1, hlt, by go_num, by show _ = true; rw [hsn.out, hall.out]; rfl⟩
        case measure => simp [intOf]; omega
      | false =>
        have hb := hid (badL_any s w hst.out)
        rw [hg] at hb
        have HG := hid hg
        clear hg
        go_wp2_with fail
        refine hb.out.mono ?_
        rintro e w' ⟨rfl, rfl⟩
        go_wp2_with fail
        go_ret
        refine ⟨(j : Int), rfl, .inl ⟨by omega, ?_⟩, rfl⟩
        rw [List.all_eq_false]
        exact ⟨s, hmem.out, by rw [HG.out]; simp⟩
    · obtain rfl : j = n := by omega
      have hfin : Hid (l.all goodL = true) := by
        have := hall.out
        rwa [List.take_of_length_le (by rw [H.out.len]; exact Nat.le_refl _)] at this
      clear hall
      go_wp2_with fail
      go_ret
      exact ⟨-1, rfl, .inr ⟨by decide, hfin.out⟩, rfl⟩

theorem containsL_any (a : Option Addr) (n c : Nat) (l : List ByteArray) (w : World) (h : StrIn w a n l) (hn : n ≤ 9223372036854775807) (hs : ∀ s ∈ l, s.size ≤ 9223372036854775807) :
    Calls Try.prog 155 #[.slice a n c, .func (.func 156) #[] #[]] w fun e w' => e = .returned (.bool (!(l.all goodL))) ∧ w' = w := by
  have H := hid (indexL_any a n c l w h hn hs)
  clear h hs
  go_enter Try.func155, Try.ntmps155
  go_wp2_with fail
  refine H.out.mono ?_
  rintro e w1 ⟨z, rfl, hz, rfl⟩
  rcases hz with ⟨h1, h2⟩ | ⟨h1, h2⟩
  · have H2 := hid h2
    clear h2
    go_wp2_with fail
    go_ret
    rw [H2.out]
    exact ⟨rfl, rfl⟩
  · have h3 : ¬ (0 : Int) ≤ z := by omega
    have H2 := hid h2
    clear h2
    go_wp2_with fail
    go_ret
    rw [H2.out]
    refine ⟨congrArg (fun b => Ending.returned (.bool b)) (?_ : decide (0 ≤ z) = false), rfl⟩
    simpa using h3

set_option maxRecDepth 100000 in
theorem size_any (a : Option Addr) (n c : Nat) (l : List ByteArray) (w : World) (h : StrIn w a n l) (hn : n ≤ 1099511627776) (hs : ∀ s ∈ l, s.size ≤ 63) :
    Calls Try.prog 157 #[.slice a n c] w fun e w' => e = .returned (.int .i64 (sizeN l)) ∧ w' = w := by
  have H := hid h
  have HS := hid hs
  clear h hs
  go_enter Try.func157, Try.ntmps157
  go_wp2_with fail
  go_loop [3, 8] (fun t i => ∃ j : Nat, j ≤ n ∧ i = .int .i64 j ∧ t = .int .i64 (sizeN (l.take j))) (fun _ i => n - (intOf i).toNat)
  case atStart => exact ⟨0, Nat.zero_le _, rfl, rfl⟩
  case round =>
    obtain ⟨j, hj, rfl, rfl⟩ := hrel
    by_cases hlt : j < n
    · obtain ⟨b, o, rfl, -, hcell⟩ := H.out.at (by omega)
      have hjl : Hid (j < l.length) := by have := H.out.len; show j < l.length; omega
      have c0 := hcell j _ (List.getElem?_eq_getElem hjl.out)
      have hst := HS.out _ (List.getElem_mem hjl.out)
      have hsn := hid (sizeN_take l j hjl.out)
      have hle := sizeN_le (l.take j) (fun s hs => HS.out s (List.mem_of_mem_take hs))
      have hl2 : (l.take j).length ≤ j := List.length_take_le _ _
      generalize l[j]'hjl.out = s at *
      obtain ⟨z1, hz1⟩ : ∃ z, z = sizeN (l.take (j + 1)) := ⟨_, rfl⟩
      rw [← hz1] at hsn
      have HZ1 := hid hz1
      clear hz1
      generalize sizeN (l.take j) = z at *
      clear hcell
      go_wp2_with fail
      go_round
      case rel => exact ⟨j + 1, hlt, by go_num, by rw [← HZ1.out, hsn.out]; go_num⟩
      case measure => simp [intOf]; omega
    · obtain rfl : j = n := by omega
      have hfin : Hid (sizeN (l.take j) = sizeN l) := by
        show _ = _
        rw [List.take_of_length_le (by rw [H.out.len]; exact Nat.le_refl _)]
      generalize sizeN (l.take j) = z at *
      go_wp2_with fail
      go_ret
      rw [← hfin.out]
      exact ⟨rfl, rfl⟩

theorem soundB_bad {l : List ByteArray} (h : l.all goodL = false) : soundB l = false := by unfold soundB; rw [h]; rfl
theorem soundB_good {l : List ByteArray} (h : l.all goodL = true) : soundB l = decide (sizeN l ≤ 255) := by unfold soundB; rw [h]; rfl

set_option maxRecDepth 100000 in
theorem sound_any (a : Option Addr) (n c : Nat) (l : List ByteArray) (w : World) (h : StrIn w a n l) (hn : n ≤ 9223372036854775807) (hs : ∀ s ∈ l, s.size ≤ 9223372036854775807) :
    Calls Try.prog 107 #[.slice a n c] w fun e w' => e = .returned (.bool (soundB l)) ∧ w' = w := by
  have hlen := h.len
  by_cases h1 : n ≤ 255
  · have b1 : (n : Int) ≤ 255 := by omega
    have H1 := hid (containsL_any a n c l w h hn hs)
    cases hg : l.all goodL with
    | false =>
      rw [soundB_bad hg]
      rw [hg] at H1
      clear h hs hg hlen
      go_enter Try.func107, Try.ntmps107
      go_wp2_with fail
      refine H1.out.mono ?_
      rintro e w' ⟨rfl, rfl⟩
      go_wp2_with fail
      go_ret
      exact ⟨rfl, rfl⟩
    | true =>
      have hgl : ∀ s ∈ l, s.size ≤ 63 := fun s hs => ((goodL_iff s).1 (List.all_eq_true.1 hg s hs)).2
      have H2 := hid (size_any a n c l w h (by omega) hgl)
      rw [soundB_good hg]
      rw [hg] at H1
      have hle := sizeN_le l hgl
      clear h hs hg hgl
      generalize sizeN l = z at *
      go_enter Try.func107, Try.ntmps107
      go_wp2_with fail
      refine H1.out.mono ?_
      rintro e w' ⟨rfl, rfl⟩
      go_wp2_with fail
      refine H2.out.mono ?_
      rintro e w' ⟨rfl, rfl⟩
      go_wp2_with fail
      go_ret
      refine ⟨congrArg (fun b => Ending.returned (.bool b)) ?_, rfl⟩
      rw [Bool.eq_iff_iff]
      simp
      omega
  · have b1 : ¬ (n : Int) ≤ 255 := by omega
    have hf : soundB l = false := by
      cases hb : soundB l with
      | false => rfl
      | true => have := soundB_few hb; omega
    rw [hf]
    clear h hs hf
    go_enter Try.func107, Try.ntmps107
    go_wp2_with fail
    go_ret
    exact ⟨rfl, rfl⟩

set_option maxRecDepth 100000 in
theorem rsize_any (a : Option Addr) (n c : Nat) (l : List ByteArray) (w : World) (h : StrIn w a n l) (hn : n ≤ 1099511627776) (hs : ∀ s ∈ l, s.size ≤ 63) :
    Calls Try.prog 111 #[.slice a n c] w fun e w' => e = .returned (.int .i64 (sizeN l)) ∧ w' = w := by
  have H := hid h
  have HS := hid hs
  clear h hs
  go_enter Try.func111, Try.ntmps111
  go_wp2_with fail
  go_loop [3, 4] (fun t i => ∃ j : Nat, j ≤ n ∧ i = .int .i64 j ∧ t = .int .i64 (sizeN (l.take j))) (fun _ i => n - (intOf i).toNat)
  case atStart => exact ⟨0, Nat.zero_le _, rfl, rfl⟩
  case round =>
    obtain ⟨j, hj, rfl, rfl⟩ := hrel
    by_cases hlt : j < n
    · obtain ⟨b, o, rfl, -, hcell⟩ := H.out.at (by omega)
      have hjl : Hid (j < l.length) := by have := H.out.len; show j < l.length; omega
      have c0 := hcell j _ (List.getElem?_eq_getElem hjl.out)
      have hst := HS.out _ (List.getElem_mem hjl.out)
      have hsn := hid (sizeN_take l j hjl.out)
      have hle := sizeN_le (l.take j) (fun s hs => HS.out s (List.mem_of_mem_take hs))
      have hl2 : (l.take j).length ≤ j := List.length_take_le _ _
      generalize l[j]'hjl.out = s at *
      obtain ⟨z1, hz1⟩ : ∃ z, z = sizeN (l.take (j + 1)) := ⟨_, rfl⟩
      rw [← hz1] at hsn
      have HZ1 := hid hz1
      clear hz1
      generalize sizeN (l.take j) = z at *
      clear hcell
      go_wp2_with fail
      go_round
      case rel => exact ⟨j + 1, hlt, by go_num, by rw [← HZ1.out, hsn.out]; go_num⟩
      case measure => simp [intOf]; omega
    · obtain rfl : j = n := by omega
      have hfin : Hid (sizeN (l.take j) = sizeN l) := by
        show _ = _
        rw [List.take_of_length_le (by rw [H.out.len]; exact Nat.le_refl _)]
      generalize sizeN (l.take j) = z at *
      go_wp2_with fail
      go_ret
      rw [← hfin.out]
      exact ⟨rfl, rfl⟩

set_option maxRecDepth 100000 in
theorem rsound_any (a : Option Addr) (n c : Nat) (l : List ByteArray) (w : World) (h : StrIn w a n l) :
    Calls Try.prog 58 #[.slice a n c] w fun e w' => e = .returned (.bool (soundB l)) ∧ w' = w := by
  have hlen := h.len
  by_cases h1 : n ≤ 127
  · have b1 : ¬ (127 : Int) < (n : Int) := by omega
    have H := hid h
    obtain ⟨r, hr⟩ : ∃ r, r = soundB l := ⟨_, rfl⟩
    have HR := hid hr
    rw [← hr]
    clear h hr
    have HLEN := hid hlen
    clear hlen
    go_enter Try.func58, Try.ntmps58
    go_wp2_with fail
    go_loop [3] (fun i => ∃ j : Nat, j ≤ n ∧ i = .int .i64 j ∧ Hid ((l.take j).all goodL = true)) (fun i => n - (intOf i).toNat)
    case atStart => exact ⟨0, Nat.zero_le _, rfl, rfl⟩
    case round =>
      obtain ⟨j, hj, rfl, hall⟩ := hrel
      by_cases hlt : j < n
      · obtain ⟨b, o, rfl, -, hcell⟩ := H.out.at (by omega)
        have hjl : Hid (j < l.length) := by have := HLEN.out; show j < l.length; omega
        have c0 := hcell j _ (List.getElem?_eq_getElem hjl.out)
        have hsn : Hid ((l.take (j + 1)).all goodL = ((l.take j).all goodL && goodL (l[j]'hjl.out))) := by
          show _ = _
          rw [List.take_succ_eq_append_getElem hjl.out, List.all_append]; simp
        have hmem := hid (List.getElem_mem hjl.out)
        generalize l[j]'hjl.out = s at *
        clear hcell
        have hbad : goodL s = false → Hid (r = false) := by
          intro hg
          have : l.all goodL = false := by
            rw [List.all_eq_false]
            exact ⟨s, hmem.out, by rw [hg]; simp⟩
          show r = false
          rw [HR.out, soundB_bad this]
        by_cases h0 : s.size < 1
        · have q0 : (s.size : Int) < 1 := by omega
          have hb := hbad (by simp [goodL]; omega)
          clear hbad
          go_wp2_with fail
          go_ret
          rw [hb.out]
          exact ⟨rfl, rfl⟩
        · have q0 : ¬ (s.size : Int) < 1 := by omega
          by_cases h63 : 63 < s.size
          · have q1 : (63 : Int) < (s.size : Int) := by omega
            have hb := hbad (by simp [goodL]; omega)
            clear hbad
            go_wp2_with fail
            go_ret
            rw [hb.out]
            exact ⟨rfl, rfl⟩
          · have q1 : ¬ (63 : Int) < (s.size : Int) := by omega
            have hg : Hid (goodL s = true) := by show _ = _; rw [goodL_iff]; omega
            clear hbad
            go_wp2_with fail
            go_round
            case rel => exact ⟨j + 1, hlt, by go_num, by show _ = true; rw [hsn.out, hall.out, hg.out]; rfl⟩
            case measure => simp [intOf]; omega
      · obtain rfl : j = n := by omega
        have hg : l.all goodL = true := by
          have := hall.out
          rwa [List.take_of_length_le (by rw [HLEN.out]; exact Nat.le_refl _)] at this
        have hgl : ∀ s ∈ l, s.size ≤ 63 := fun s hs => ((goodL_iff s).1 (List.all_eq_true.1 hg s hs)).2
        have H2 := hid (rsize_any a j c l w H.out (by omega) hgl)
        have HE : Hid (r = decide (sizeN l ≤ 255)) := by show _ = _; rw [HR.out, soundB_good hg]
        have hle := sizeN_le l hgl
        clear hg hgl hall
        have hln := HLEN.out
        generalize sizeN l = z at *
        go_wp2_with fail
        refine H2.out.mono ?_
        rintro e w' ⟨rfl, rfl⟩
        go_wp2_with fail
        go_ret
        rw [HE.out]
        refine ⟨congrArg (fun b => Ending.returned (.bool b)) ?_, rfl⟩
        rw [Bool.eq_iff_iff]
        simp
        omega
  · have b1 : (127 : Int) < (n : Int) := by omega
    have hf : soundB l = false := by
      cases hb : soundB l with
      | false => rfl
      | true => have := soundB_few hb; omega
    rw [hf]
    clear h hf
    go_enter Try.func58, Try.ntmps58
    go_wp2_with fail
    go_ret
    exact ⟨rfl, rfl⟩

end Go.Proofs.Ytpimjachhfnlfaa
