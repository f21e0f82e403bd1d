/-
  The device's Read, where there is such a sector. No condition.
-/
import Derived.Test.YtpimjachhfnlfaaRead
namespace Go.Proofs.Ytpimjachhfnlfaa
open Go.RowKit

def readPost (w : World) (o : Option (List UInt8)) (e : Ending) (w' : World) : Prop :=
  match o with
  | none => e = .returned (.tuple #[.slice none 0 0, .int .i64 9]) ∧ w' = w
  | some b => ∃ g c, e = .returned (.tuple #[.slice (some ⟨g, 0, none⟩) 512 c, .int .i64 0]) ∧ Row w' g 5 (bvs b) ∧ (512 ≤ c ∧ c ≤ maxLen) ∧ w.heap.size ≤ g ∧ Fr No w w'

theorem sec_at {w : World} {p bs : Nat} {uv : Value} {us : List UW} {m : Dv} (h : DevAt w p bs uv us m) (k : Nat) (hk : k < m.sure.length) : ∀ j u, (bvs (m.sure[k]).data)[j]? = some u → w.cell? ((⟨bs, k * 513, none⟩ : Addr).add j) = some u := by
  intro j u hu
  have hl := h.wf.size _ (List.getElem_mem hk)
  have hj : j < 512 := by have := (List.getElem?_eq_some_iff.1 hu).1; simpa [bvs, hl] using this
  rw [Addr.add_lit, h.byte k j hk (by omega)]
  simpa [Sec.cells, List.getElem?_append, bvs, hl, hj] using hu

/-- Behind the loop: the sector as it is sure. -/
theorem seen_sure {m : Dv} {k : Nat} (hk : k < m.sure.length) (hl : lastTo m.unsure k = none) : m.seen k = if (m.sure[k]).torn then none else some (m.sure[k]).data := by
  simp [Dv.seen, hl, hk]

set_option maxRecDepth 100000 in
theorem read_empty {w : World} {p bs : Nat} {m : Dv} (h : DevAt w p bs (.slice none 0 0) [] m) (k : Nat) (hk : k < m.sure.length) (hd : m.down = false) :
    Calls Try.prog 23 #[.pointer (some ⟨p, 0, none⟩), .int .i64 k] w fun e w' => readPost w (m.seen k) e w' := by
  have hC := fun w' (e : w' = w) => check_any (k : Int) w' (e ▸ h.dev)
  have hc0 : m.code k = 0 := by simp [Dv.code, hd]; omega
  rw [hc0] at hC
  have HC := hid hC
  clear hC hc0
  have hs := seen_sure hk (by rw [h.eq]; rfl)
  have h0 := h.c0
  have h1 := h.c1
  have ht := h.torn k hk
  have HS := hid (sec_at h k hk)
  have b1 : (0 : Int) ≤ (k : Int) := by omega
  have b2 : (k : Int) < (m.sure.length : Int) := by omega
  have hlen : Hid ((m.sure[k]).data.length = 512) := h.wf.size _ (List.getElem_mem hk)
  clear h
  by_cases hT : (m.sure[k]).torn = true
  · rw [hT] at ht
    rw [hs, hT]
    have hR : ∀ e w', e = .returned (.tuple #[.slice none 0 0, .int .i64 9]) ∧ w' = w → readPost w (if true = true then none else some (m.sure[k]).data) e w' := fun e w' h => h
    refine Calls.mono ?_ hR
    clear hR hs hT
    go_enter Try.func23, Try.ntmps23
    go_wp2_with (go_at_call 75; refine (HC.out _ rfl).mono ?_; rintro e w' ⟨rfl, rfl⟩)
    refine wp_loop_rounds 1 ?_
    rw [rounds_succ]
    go_wp2_with fail
    go_ret2
    exact ⟨rfl, rfl⟩
  · have hT : (m.sure[k]).torn = false := by simpa using hT
    rw [hT] at ht
    rw [hs, hT]
    have hR : ∀ e w', (∃ g c, e = .returned (.tuple #[.slice (some ⟨g, 0, none⟩) 512 c, .int .i64 0]) ∧ Row w' g 5 (bvs (m.sure[k]).data) ∧ (512 ≤ c ∧ c ≤ maxLen) ∧ w.heap.size ≤ g ∧ Fr No w w') → readPost w (if false = true then none else some (m.sure[k]).data) e w' := fun e w' h => h
    refine Calls.mono ?_ hR
    clear hR hs hT
    generalize (m.sure[k]).data = D at *
    go_enter Try.func23, Try.ntmps23
    go_wp2_with (go_at_call 75; refine (HC.out _ rfl).mono ?_; rintro e w' ⟨rfl, rfl⟩)
    refine wp_loop_rounds 1 ?_
    rw [rounds_succ]
    go_wp2_with (go_at_call 78; go_must (refine (cloneb_any ⟨bs, k * 513, none⟩ D 512 _ _ hlen.out (by decide) HS.out).mono ?_); rintro e w' ⟨g, c', rfl, hrow, hc, hg, hf⟩)
    go_ret2
    exact ⟨_, _, rfl, hrow, hc, hg, hf⟩
end Go.Proofs.Ytpimjachhfnlfaa
