/-
  wname's small parts: rests as bytes, strings as bytes. No condition.
-/
import Derived.Test.YtpimjachhfnlfaaNSound
import Derived.Test.YtpimjachhfnlfaaOpen
import Derived.Lib.AppendStr
import Derived.Lib.ConvBytes
import Derived.Maps.OwnSet
namespace Go.Proofs.Ytpimjachhfnlfaa
open Go.RowKit

/-- A string's bytes. -/
def sb (s : ByteArray) : List UInt8 := s.data.toList
theorem sb_len (s : ByteArray) : (sb s).length = s.size := by simp [sb]

/-- A label as it is written. -/
def labB (s : ByteArray) : List UInt8 := UInt8.ofNat s.size :: sb s

/-- Labels as they are written, without an end. -/
def restB (l : List ByteArray) : List UInt8 := l.flatMap labB

theorem strCells_eq (s : ByteArray) : Lib.strCells s = bvs (sb s) := rfl

/-- []byte(s). -/
theorem conv_bytes (s : ByteArray) (w : World) : (convert 9 23 (.string s)).run Try.prog w = .ok (.slice (some ⟨w.heap.size, 0, none⟩) s.size (grownCap w s.size 0 5)) (Lib.bytesWorld w 5 s) :=
  Lib.run_convert_string_bytes w 9 23 5 s Try.underlying9 Try.underlying23 Try.underlying5

theorem bytesWorld_fr (w : World) (s : ByteArray) : Fr No w (Lib.bytesWorld w 5 s) :=
  ⟨rfl, rfl, rfl, by rw [Lib.bytesWorld_size]; omega, fun k hk _ => Lib.bytesWorld_at_old w _ s k hk⟩

theorem bytesWorld_in (w : World) (s : ByteArray) : BytesIn (Lib.bytesWorld w 5 s) (some ⟨w.heap.size, 0, none⟩) s.size (sb s) := by
  refine ⟨sb_len s, (fun e => by cases e), fun ad had j u hu => ?_⟩
  cases had
  rw [Addr.add_lit, Nat.zero_add]
  have hj : j < s.size := by
    have := (List.getElem?_eq_some_iff.1 hu).1
    rw [bvs_len, sb_len] at this
    exact this
  rw [Lib.bytesWorld_cell w _ s j hj]
  have e : (bvs (sb s))[j]? = some (bv ((sb s)[j]'(by rw [sb_len]; exact hj))) := by simp [bvs, sb_len, hj]
  rw [e] at hu
  cases hu
  have hj2 : j < s.data.size := hj
  simp only [bv, sb, List.getD, Array.getElem?_toList, Array.getElem_toList]
  rw [Array.getElem?_eq_getElem hj2]
  rfl

theorem restB_take (l : List ByteArray) (j : Nat) (h : j < l.length) : restB (l.take (j + 1)) = restB (l.take j) ++ labB l[j] := by
  unfold restB
  rw [List.take_succ_eq_append_getElem h, List.flatMap_append]
  simp

theorem restB_len (l : List ByteArray) : (restB l).length + 1 = sizeN l := by
  induction l with
  | nil => rfl
  | cons s l ih =>
    unfold restB sizeN at *
    simp only [List.flatMap_cons, List.length_append, List.map_cons, List.sum_cons, labB, List.length_cons, sb_len]
    omega

set_option maxRecDepth 100000 in
set_option maxHeartbeats 1000000 in
theorem rest_any (a : Option Addr) (n c : Nat) (l : List ByteArray) (w : World) (h : StrIn w a n l) (hn : n ≤ 255) (hs : ∀ s ∈ l, s.size ≤ 63) :
    Calls Try.prog 184 #[.slice a n c] w fun e w' => e = .returned (.string ⟨(restB l).toArray⟩) ∧ Fr No w w' := by
  obtain ⟨iu, hiu, hu0, hu1, hu2⟩ := info_parts info_u8
  have H := hid h
  have HS := hid hs
  have hcv := fun (W : World) (ao : Option Addr) (m cc : Nat) (bs : List UInt8) (hb : BytesIn W ao m bs) => conv_str hb cc
  have HCV := hid hcv
  clear h hs hcv
  go_enter Try.func184, Try.ntmps184
  go_wp2_with fail
  go_loopw [3, 8] (fun v i wr => ∃ (j m : Nat), j ≤ n ∧ i = .int .i64 j ∧ m = (restB (l.take j)).length ∧ Hid (wr.ownsRow w.heap.size 5 1 v m (bvs (restB (l.take j)))) ∧ Hid (Fr No w wr)) (fun _ i _ => n - (intOf i).toNat)
  case atStart => exact ⟨0, 0, Nat.zero_le _, rfl, rfl, World.ownsRow_nil _ _ _ _, Fr.refl _ _⟩
  case round =>
    obtain ⟨j, m, hj, rfl, hm, hown, hf⟩ := hrel
    by_cases hlt : j < n
    · obtain ⟨b, o, rfl, -, hcell⟩ := H.out.at (by omega)
      have hjl : Hid (j < l.length) := by have := H.out.len; show j < l.length; omega
      have c0 := hf.out.cell (hcell j _ (List.getElem?_eq_getElem hjl.out)) id
      have hst := HS.out _ (List.getElem_mem hjl.out)
      have hsn := hid (restB_take l j hjl.out)
      have hle := sizeN_le (l.take j) (fun s hs => HS.out s (List.mem_of_mem_take hs))
      have hl3 := restB_len (l.take j)
      have hl2 : (l.take j).length ≤ j := List.length_take_le _ _
      have hmm : m ≤ 20000 := by omega
      generalize l[j]'hjl.out = s at *
      have HM := hid hm
      clear hcell hm hle hl3 hl2
      have HF1 := hid (Fr.alloc (S := No) wr (.cells #[.int .u8 s.size] 5))
      have hmod : Hid (bv (UInt8.ofNat s.size) = .int .u8 (s.size : Int)) := by show _ = _; rw [bv_ofNat]; congr 1; omega
      go_wp2_with (at_builtin; go_must (refine wpList_append_own _ rfl (.tmp 12) (.tmp 16) 23 rfl w.heap.size 5 iu (.int .u8 0) 1 1 Try.underlying23 hiu hu0 hu1 hu2 rfl (by decide) u3 m (bvs (restB (l.take j))) rfl (hown.out.alloc _) ⟨wr.heap.size, 0, none⟩ 1 1 [.int .u8 s.size] rfl rfl ?c1 ?c2 ?c3 ?c4 ?c5 ?_))
      case c1 => intro i u hi; match i, hi with | 0, hi => simp at hi; subst hi; simp [Addr.add]
      case c2 => intro u hu; simp at hu; subst hu; rfl
      case c3 => unfold maxLen; omega
      case c4 => omega
      case c5 => have := hf.out.size; simp; omega
      intro v1 w1 hown1 hg1 hv1
      have F1 : Hid (Fr No w w1) := by
        refine (hf.out.step HF1.out).trans (Fr.grown (S := fun k => u3.ownBlock = some k) hg1 (fun k hk => .inl hk)) (fun i hi => .inr ?_)
        exact (hown.out.lt i hi).1
      have O1 := hid hown1
      clear hown1 hg1 hv1
      go_wp2_with (at_builtin; go_must (refine Lib.wpList_append_own_string (P := Try.prog) _ rfl (.tmp 18) (.tmp 19) 23 9 rfl w.heap.size 5 iu Try.underlying23 Try.underlying9 hiu hu0 hu1 hu2 v1 (m + 1) _ rfl O1.out s rfl ?d1 ?d2 ?d3 ?_))
      case d1 => unfold maxLen; omega
      case d2 => omega
      case d3 => exact F1.out.size
      intro v2 w2 hown2 hg2 hv2
      have F2 : Hid (Fr No w w2) := by
        refine F1.out.trans (Fr.grown (S := fun k => v1.ownBlock = some k) hg2 (fun k hk => .inl hk)) (fun i hi => .inr ?_)
        exact (O1.out.lt i hi).1
      have O2 := hid hown2
      clear hown2 hg2 hv2
      go_wp2_with fail
      go_roundw
      case rel =>
        refine ⟨j + 1, m + 1 + s.size, hlt, by go_num, ?_, ?_, F2.out⟩
        · rw [hsn.out, List.length_append, ← HM.out]
          unfold labB
          rw [List.length_cons, sb_len]
          omega
        · have := O2.out
          rw [strCells_eq] at this
          show World.ownsRow _ _ _ _ _ _ _
          rw [hsn.out]
          unfold labB bvs at *
          rw [List.map_append, List.map_cons, hmod.out]
          simpa using this
      case measure => simp [intOf]; omega
    · obtain rfl : j = n := by omega
      have hall : l.take j = l := List.take_of_length_le (by rw [H.out.len]; exact Nat.le_refl _)
      rw [hall] at hown hm
      have hb : ∃ ao cc, u3 = .slice ao m cc ∧ Hid (BytesIn wr ao m (restB l)) := by
        rcases hown.out.2 with ⟨h, h2⟩ | ⟨g, cap, cur, h, _⟩
        · subst h2
          have he : restB l = [] := List.eq_nil_of_length_eq_zero hm.symm
          exact ⟨none, 0, h, by rw [he]; exact BytesIn.nothing _⟩
        · subst h
          exact ⟨_, _, rfl, (row_of_owns hown.out).bytes hm.symm⟩
      obtain ⟨ao, cc, rfl, hb⟩ := hb
      have hcc := HCV.out wr ao m cc (restB l) hb.out
      clear hall hm
      go_wp2_with fail
      go_ret
      exact ⟨rfl, hf.out⟩

end Go.Proofs.Ytpimjachhfnlfaa
