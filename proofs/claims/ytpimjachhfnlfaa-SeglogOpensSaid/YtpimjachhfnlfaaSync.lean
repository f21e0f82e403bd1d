/-
  The device's Sync: all writes are done. No condition but that fewer than 2^40 writes are open.
-/
import Derived.Test.YtpimjachhfnlfaaWrite2
import Derived.Test.YtpimjachhfnlfaaSettle
namespace Go.Proofs.Ytpimjachhfnlfaa
open Go.RowKit

/-- The sectors behind the writes. -/
def settleAll (s : List Sec) (l : List (Nat × List UInt8)) : List Sec := l.foldl (fun s u => s.set u.1 ⟨u.2, false⟩) s

theorem settleAll_len (s : List Sec) (l : List (Nat × List UInt8)) : (settleAll s l).length = s.length := by
  induction l generalizing s with
  | nil => rfl
  | cons u l ih => simp only [settleAll, List.foldl_cons] at ih ⊢; rw [ih]; simp

theorem settleAll_snoc (s : List Sec) (l : List (Nat × List UInt8)) (u : Nat × List UInt8) : settleAll s (l ++ [u]) = (settleAll s l).set u.1 ⟨u.2, false⟩ := by simp [settleAll]

theorem take_succ_at {α : Type} (l : List α) (j : Nat) (h : j < l.length) : l.take (j + 1) = l.take j ++ [l[j]] := by rw [List.take_succ_eq_append_getElem h]

def Dv.sync (m : Dv) : Dv × Int := if m.down then (m, 8) else if m.limit = 1 then (m.spent, 8) else ({ m.spent with sure := settleAll m.sure m.unsure, unsure := [] }, 0)

theorem spent_sure (m : Dv) : m.spent.sure = m.sure := by unfold Dv.spent; split <;> rfl
theorem spent_unsure (m : Dv) : m.spent.unsure = m.unsure := by unfold Dv.spent; split <;> rfl

theorem sync_nil (w : World) : Calls Try.prog 21 #[.pointer none] w fun e w' => e = .returned (.int .i64 1) ∧ w' = w := by
  go_enter Try.func21, Try.ntmps21
  go_wp2
  go_ret
  exact ⟨rfl, rfl⟩

theorem sync_down {w : World} {p bs : Nat} {uv : Value} {us : List UW} {m : Dv} (h : DevAt w p bs uv us m) (hd : m.down = true) :
    Calls Try.prog 21 #[.pointer (some ⟨p, 0, none⟩)] w fun e w' => e = .returned (.int .i64 8) ∧ w' = w := by
  have h3 := h.c3
  rw [hd] at h3
  clear h hd
  go_enter Try.func21, Try.ntmps21
  go_wp2
  go_ret
  exact ⟨rfl, rfl⟩

theorem sync_cut {w : World} {p bs : Nat} {uv : Value} {us : List UW} {m : Dv} (h : DevAt w p bs uv us m) (hd : m.down = false) (hl : m.limit = 1) :
    Calls Try.prog 21 #[.pointer (some ⟨p, 0, none⟩)] w fun e w' => e = .returned (.int .i64 8) ∧ DevAt w' p bs uv us m.spent ∧ Fr (· = p) w w' := by
  have h3 := h.c3
  rw [hd] at h3
  have hP := fun w' (e : w' = w) => spend_at w' (e ▸ h)
  rw [show decide (m.limit ≠ 1) = false by simp [hl]] at hP
  have HP := hid hP
  clear h hd hl hP
  go_enter Try.func21, Try.ntmps21
  go_wp2_with (go_at_call 76; refine (HP.out _ rfl).mono ?_; rintro e w' ⟨rfl, hd', hf'⟩)
  go_ret
  exact ⟨rfl, hd', hf'⟩

theorem DevAt.reset {w w' : World} {p bs : Nat} {uv : Value} {us : List UW} {m : Dv} (h : DevAt w p bs uv us m) (f : Fr (· = p) w w') (l : Nat) (d : Bool) (hl : l ≤ 9223372036854775807)
    (hh : w'.heap[p]? = some (.cells #[.slice (some ⟨bs, 0, none⟩) m.sure.length m.cap, .slice none 0 0, .int .i64 l, .bool d] 127 (0, 0))) :
    DevAt w' p bs (.slice none 0 0) [] { m with unsure := [], limit := l, down := d } :=
  ⟨hh, f.heap h.rows h.p_ne.1, World.ownsRow_nil _ _ _ _, rfl, (fun u hu => by cases hu), ⟨h.wf.few, h.wf.size, (fun u hu => by cases hu), (fun u hu => by cases hu), hl⟩⟩

/-- The list is empty: the device behind Sync. -/
theorem DevAt.unlist {w w' : World} {p bs : Nat} {uv : Value} {us : List UW} {m : Dv} (h : DevAt w p bs uv us m) (f : Fr (· = p) w w')
    (hh : w'.heap[p]? = some (.cells #[.slice (some ⟨bs, 0, none⟩) m.sure.length m.cap, .slice none 0 0, .int .i64 m.limit, .bool m.down] 127 (0, 0))) :
    DevAt w' p bs (.slice none 0 0) [] { m with unsure := [] } :=
  ⟨hh, f.heap h.rows h.p_ne.1, World.ownsRow_nil _ _ _ _, rfl, (fun u hu => by cases hu), ⟨h.wf.few, h.wf.size, (fun u hu => by cases hu), (fun u hu => by cases hu), h.wf.lim⟩⟩

set_option maxRecDepth 100000 in
theorem sync_empty {w : World} {p bs : Nat} {m : Dv} (h : DevAt w p bs (.slice none 0 0) [] m) (hd : m.down = false) (hl : m.limit ≠ 1) :
    Calls Try.prog 21 #[.pointer (some ⟨p, 0, none⟩)] w fun e w' => e = .returned (.int .i64 0) ∧ DevAt w' p bs (.slice none 0 0) [] m.sync.1 ∧ Fr (· = p) w w' := by
  have h3 := h.c3
  rw [hd] at h3
  have hP := fun w' (e : w' = w) => spend_at w' (e ▸ h)
  rw [show decide (m.limit ≠ 1) = true by simp [hl]] at hP
  have HP := hid hP
  have hs : m.sync.1 = { m.spent with unsure := [] } := by
    have e : m.unsure = [] := h.eq
    simp only [Dv.sync, hd, hl, e, settleAll]
    simp [← spent_sure m]
  rw [hs]
  clear h hd hl hP hs
  go_enter Try.func21, Try.ntmps21
  go_wp2_with (go_at_call 76; refine (HP.out _ rfl).mono ?_; rintro e w1 ⟨rfl, hd', hf'⟩; have c1 := hd'.c1; have g1 := hd'.free 1; have HD := hid hd'; have HF := hid hf'; clear hd' hf')
  refine wp_loop_rounds 1 ?_
  rw [rounds_succ]
  go_wp2_with fail
  go_ret
  refine ⟨rfl, HD.out.unlist (Fr.set1 _ _ _ _) ?_, HF.out.step (Fr.set1 _ _ _ _)⟩
  rw [heap_setCell_same _ _ _ _ _ _ HD.out.head]
  simp

set_option maxRecDepth 100000 in
theorem sync_full {w : World} {p bs ub cu : Nat} {us : List UW} {m : Dv} (h : DevAt w p bs (.slice (some ⟨ub, 0, none⟩) us.length cu) us m) (hsz : us.length ≤ 1099511627776) (hd : m.down = false) (hl : m.limit ≠ 1) :
    Calls Try.prog 21 #[.pointer (some ⟨p, 0, none⟩)] w fun e w' => e = .returned (.int .i64 0) ∧ DevAt w' p bs (.slice none 0 0) [] m.sync.1 ∧ Fr (fun i => i = p ∨ i = bs) w w' := by
  have h3 := h.c3
  rw [hd] at h3
  have hP := fun w' (e : w' = w) => spend_at w' (e ▸ h)
  rw [show decide (m.limit ≠ 1) = true by simp [hl]] at hP
  have HP := hid hP
  have hs : m.sync.1 = { m.spent with sure := settleAll m.spent.sure (us.map UW.pair), unsure := [] } := by
    simp only [Dv.sync, hd, hl]
    simp [spent_sure m, h.eq]
  rw [hs]
  have HE := hid h.eq
  have HW := hid h.wf
  clear h hd hl hP hs
  obtain ⟨n, hn⟩ : ∃ n, n = us.length := ⟨_, rfl⟩
  have HN := hid hn
  rw [← hn] at hsz HP
  clear hn
  go_enter Try.func21, Try.ntmps21
  go_wp2_with (go_at_call 76; refine (HP.out _ rfl).mono ?_; rintro e w1 ⟨rfl, hd', hf'⟩; have c1 := hd'.c1; have HD := hid hd'; have HF := hid hf'; clear hd' hf')
  go_loopw [23] (fun i wr => ∃ j : Nat, j ≤ n ∧ i = .int .i64 j ∧ Hid (DevAt wr p bs (.slice (some ⟨ub, 0, none⟩) n cu) us { m.spent with sure := settleAll m.spent.sure ((us.take j).map UW.pair) }) ∧ Hid (Fr (· = bs) w1 wr)) (fun i _ => n - (intOf i).toNat)
  case atStart => exact ⟨0, Nat.zero_le _, rfl, HD.out, Fr.refl _ _⟩
  case round =>
    obtain ⟨j, hj, rfl, hd, hf⟩ := hrel
    by_cases hlt : j < n
    · have hj' : Hid (j < us.length) := by have := HN.out; show j < us.length; omega
      have hrow := row_of_owns (show wr.ownsRow 0 57 2 (.slice (some ⟨ub, 0, none⟩) n cu) n (us.flatMap UW.cells) by have := hd.out.list; rw [← HN.out] at this; exact this)
      have hw := uw_at j hj'.out
      have c0 := hrow.cell _ _ hw.1
      have c1' := hrow.cell _ _ hw.2
      have hdat := hid (hd.out.data _ (List.getElem_mem hj'.out))
      have hl := hid (hd.out.wf.wsize (us[j]'hj'.out).pair (by rw [hd.out.eq]; exact List.mem_map_of_mem (List.getElem_mem hj'.out)))
      have hp := hid (hd.out.wf.wpos (us[j]'hj'.out).pair (by rw [hd.out.eq]; exact List.mem_map_of_mem (List.getElem_mem hj'.out)))
      have HD2 := hid (fun (o : Obj) => hd.out.fr (Fr.alloc (S := No) wr o) id id (fun _ _ => id) (fun _ _ => id))
      have HC := hid (fun (o : Obj) => settle_at (HD2.out o) (us[j]'hj'.out).pos hp.out (us[j]'hj'.out).data (us[j]'hj'.out).g (us[j]'hj'.out).c (hdat.out.1.fr0 (Fr.alloc wr o)) hl.out false)
      clear hw hrow
      go_wp2_with (go_at_call 77; go_must (refine (HC.out _).mono ?_); rintro e w2 ⟨rfl, hd2, hf2⟩; have HD3 := hid hd2; have HF3 := hid hf2; clear hd2 hf2)
      go_roundw
      case rel =>
        refine ⟨j + 1, hlt, by go_num, ?_, (hf.out.step (Fr.alloc wr _)).step HF3.out⟩
        have := HD3.out
        rw [take_succ_at us j hj'.out, List.map_append, List.map_cons, List.map_nil, settleAll_snoc]
        exact this
      case measure => simp [intOf]; omega
    · have hjn : j = n := by omega
      have ht : us.take j = us := List.take_of_length_le (by have := HN.out; omega)
      rw [ht] at hd
      clear ht hjn
      have c1' := hd.out.c1
      have g1 := hd.out.free 1
      go_wp2_with fail
      go_ret
      refine ⟨rfl, hd.out.unlist (Fr.set1 _ _ _ _) ?_, ((HF.out.mono (fun i _ e => .inl e)).step (hf.out.mono (fun i _ e => .inr e))).step ((Fr.set1 _ _ _ _).mono (fun i _ e => .inl e))⟩
      rw [heap_setCell_same _ _ _ _ _ _ hd.out.head]
      simp
end Go.Proofs.Ytpimjachhfnlfaa
