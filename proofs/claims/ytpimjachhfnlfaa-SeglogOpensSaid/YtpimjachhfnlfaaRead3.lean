/-
  The device's Read, behind writes that are not sure. No condition.
-/
import Derived.Test.YtpimjachhfnlfaaRead2
namespace Go.Proofs.Ytpimjachhfnlfaa
open Go.RowKit

theorem readPost_none {w : World} {o : Option (List UInt8)} (h : o = none) : readPost w o (.returned (.tuple #[.slice none 0 0, .int .i64 9])) w := by
  subst h; exact ⟨rfl, rfl⟩

theorem readPost_some {w w' : World} {o : Option (List UInt8)} {b : List UInt8} {g c : Nat} (h : o = some b) (hr : Row w' g 5 (bvs b)) (hc : 512 ≤ c ∧ c ≤ maxLen) (hg : w.heap.size ≤ g) (f : Fr No w w') : readPost w o (.returned (.tuple #[.slice (some ⟨g, 0, none⟩) 512 c, .int .i64 0])) w' := by
  subst h; exact ⟨g, c, rfl, hr, hc, hg, f⟩

set_option maxRecDepth 100000 in
theorem read_full {w : World} {p bs ub cu : Nat} {us : List UW} {m : Dv} (h : DevAt w p bs (.slice (some ⟨ub, 0, none⟩) us.length cu) us m) (hu : Row w ub 57 (us.flatMap UW.cells)) (hsz : us.length ≤ 1099511627776) (k : Nat) (hk : k < m.sure.length) (hd : m.down = false) :
    Calls Try.prog 23 #[.pointer (some ⟨p, 0, none⟩), .int .i64 k] w fun e w' => readPost w (m.seen k) e w' := by
  have hC := fun w' (e : w' = w) => check_any (k : Int) w' (e ▸ h.dev)
  have hc0 : m.code k = 0 := by simp [Dv.code, hd]; omega
  rw [hc0] at hC
  have HC := hid hC
  clear hC hc0
  have h0 := h.c0
  have h1 := h.c1
  have ht := h.torn k hk
  have HS := hid (sec_at h k hk)
  have b1 : (0 : Int) ≤ (k : Int) := by omega
  have b2 : (k : Int) < (m.sure.length : Int) := by omega
  have hlen : Hid ((m.sure[k]).data.length = 512) := h.wf.size _ (List.getElem_mem hk)
  have HH := hid h
  have HU := hid hu
  obtain ⟨o, ho⟩ : ∃ o, o = m.seen k := ⟨_, rfl⟩
  rw [← ho]
  have HO := hid ho
  clear ho h hu hd
  obtain ⟨t, htt⟩ : ∃ t, t = (m.sure[k]).torn := ⟨_, rfl⟩
  rw [← htt] at ht
  have HT := hid htt
  clear htt
  obtain ⟨n, hn⟩ : ∃ n, n = us.length := ⟨_, rfl⟩
  rw [← hn] at hsz h1
  have HN := hid hn
  clear hn
  go_enter Try.func23, Try.ntmps23
  go_wp2_with (go_at_call 75; refine (HC.out _ rfl).mono ?_; rintro e w' ⟨rfl, rfl⟩)
  go_loop [7] (fun i => ∃ z : Int, i = .int .i64 z ∧ -1 ≤ z ∧ z < n ∧ ∀ j (hj : j < us.length), z < j → (us[j]).pos ≠ k) (fun i => (intOf i + 1).toNat)
  case atStart =>
    refine ⟨_, rfl, by omega, by omega, ?_⟩
    intro j hj h
    have := HN.out
    omega
  case round =>
    obtain ⟨z, rfl, hz1, hz2, hz3⟩ := hrel
    have HZ := hid hz3
    clear hz3
    by_cases hz : 0 ≤ z
    · obtain ⟨j, rfl⟩ := Int.eq_ofNat_of_zero_le hz
      have hj : Hid (j < us.length) := by
        have hn := HN.out
        show j < us.length
        trace_state
        omega
      have hw := uw_at j hj.out
      have c0 := HU.out.cell _ _ hw.1
      have c1 := HU.out.cell _ _ hw.2
      have hdat := hid (HH.out.data _ (List.getElem_mem hj.out))
      have hl := hid (HH.out.wf.wsize (us[j]'hj.out).pair (by rw [HH.out.eq]; exact List.mem_map_of_mem (List.getElem_mem hj.out)))
      clear hw
      by_cases he : (us[j]'hj.out).pos = k
      · have hq : (((us[j]'hj.out).pos : Int) == (k : Int)) = true := by rw [he]; simp
        have hsome : o = some (us[j]'hj.out).data := by
          rw [HO.out]
          unfold Dv.seen
          rw [HH.out.eq, lastTo_some j hj.out he (fun i hi hij => HZ.out i hi (by omega))]
        have HM := hid hsome
        clear hsome he
        go_wp2_with (go_at_call 78; go_must (refine (cloneb_any ⟨(us[j]'hj.out).g, 0, none⟩ (us[j]'hj.out).data 512 _ _ hl.out (by decide) (fun i u hi => by rw [Addr.add_lit]; simpa using hdat.out.1.cell i u hi)).mono ?_); rintro e w' ⟨g, c', rfl, hrow, hc, hg, hf⟩)
        go_ret2
        exact readPost_some HM.out hrow hc hg hf
      · have hq : (((us[j]'hj.out).pos : Int) == (k : Int)) = false := by rw [beq_eq_false_iff_ne]; omega
        have he' := hid he
        clear he
        go_wp2
        go_round
        case rel =>
          refine ⟨_, rfl, by omega, by omega, fun i hi hij => ?_⟩
          by_cases hh : i = j
          · subst hh; exact he'.out
          · exact HZ.out i hi (by omega)
        case measure => simp [intOf]
    · have hs := seen_sure hk (by rw [HH.out.eq]; exact lastTo_none (fun j hj => HZ.out j hj (by omega)))
      have hs2 : o = if t then none else some (m.sure[k]).data := by rw [HO.out, HT.out]; exact hs
      have HS2 := hid hs2
      clear hs hs2
      cases t with
      | true =>
        go_wp2_with fail
        go_ret2
        exact readPost_none HS2.out
      | false =>
        go_wp2_with (go_at_call 78; go_must (refine (cloneb_any ⟨bs, k * 513, none⟩ (m.sure[k]).data 512 _ _ hlen.out (by decide) HS.out).mono ?_); rintro e w' ⟨g, c', rfl, hrow, hc, hg, hf⟩)
        go_ret2
        exact readPost_some HS2.out hrow hc hg hf
end Go.Proofs.Ytpimjachhfnlfaa
