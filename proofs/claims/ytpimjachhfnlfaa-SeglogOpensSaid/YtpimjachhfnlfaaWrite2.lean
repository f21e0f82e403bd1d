/-
  The device's Write, where it is done. No condition but that fewer than 2^40 writes are open.
-/
import Derived.Test.YtpimjachhfnlfaaWrite
namespace Go.Proofs.Ytpimjachhfnlfaa
open Go.RowKit

theorem info_write : (Try.prog.info? 57).map (fun i => (i.zero, i.size, i.bytes)) = some (some (.agg #[.int .i64 0, .slice none 0 0]), 2, 32) := by kernel_rfl

theorem made_u8 (n : Nat) : (madeCells #[Value.int .u8 0] n).toList = bvs (List.replicate n 0) := by
  have h := made_zero [Value.int .u8 0] n (by decide)
  simp only [List.length_cons, List.length_nil, Nat.zero_add, Nat.mul_one] at h
  rw [show #[Value.int IntKind.u8 0] = [Value.int .u8 0].toArray from rfl, h]
  have e : bv 0 = .int .u8 0 := rfl
  simp [bvs, List.map_replicate, e, List.flatten_replicate_singleton]

set_option maxRecDepth 100000 in
theorem write_ok {w : World} {p bs : Nat} {uv : Value} {us : List UW} {m : Dv} (h : DevAt w p bs uv us m) (hsz : us.length < 1099511627776) (k : Nat) (a : Option Addr) (b : List UInt8) (n c : Nat) (hc : m.code k = 0) (hk : k < m.sure.length) (hb : b.length = n) (hn : n ≤ 512) (hl : m.limit ≠ 1)
    (hnil : a = none → n = 0) (hsrc : ∀ ad, a = some ad → ∀ j u, (bvs b)[j]? = some u → w.cell? (ad.add j) = some u) (hap : ∀ ad, a = some ad → (bvs b) ≠ [] → ad.block ≠ p) :
    Calls Try.prog 20 #[.pointer (some ⟨p, 0, none⟩), .int .i64 k, .slice a n c] w fun e w' => e = .returned (.int .i64 0) ∧
      ∃ uv' us', DevAt w' p bs uv' us' { m.spent with unsure := m.unsure ++ [(k, pad b)] } ∧ Fr (fun i => i = p ∨ uv.ownBlock = some i) w w' ∧ (∀ i, uv'.ownBlock = some i → uv.ownBlock = some i ∨ w.heap.size ≤ i) ∧ (∀ u ∈ us', u ∈ us ∨ w.heap.size ≤ u.g) := by
  have hK := fun w' (e : w' = w) => check_any (k : Int) w' (e ▸ h.dev)
  rw [hc] at hK
  have HK := hid hK
  have hP := fun w' (e : w' = w) => spend_at w' (e ▸ h)
  rw [show decide (m.limit ≠ 1) = true by simp [hl]] at hP
  have HP := hid hP
  obtain ⟨iw, hiw, hw0, hw1, hw2⟩ := info_parts info_write
  obtain ⟨iu, hiu, hu0, hu1, hu2⟩ := info_parts info_u8
  have b1 : (n : Int) ≤ 512 := by omega
  have HB := hid hb
  have HH := hid h
  have HS := hid hsrc
  have HAP := hid hap
  have HL := hid hl
  clear hc hK hP h hl hb hsrc hap
  go_enter Try.func20, Try.ntmps20
  go_wp2_with (first | (go_at_call 75; refine (HK.out _ rfl).mono ?_; rintro e w' ⟨rfl, rfl⟩) | (go_at_call 76; refine (HP.out _ rfl).mono ?_; rintro e w1 ⟨rfl, hd1, hf1⟩; have HD1 := hid hd1; have HF1 := hid hf1; clear hd1 hf1) | (at_make; go_must (refine wpList_make_full _ rfl _ _ 23 rfl 0 5 iu (.int .u8 0) 1 Try.underlying23 hiu hu0 hu1 _ _ _ _ 512 rfl rfl rfl rfl ?b1 ?b2 (Nat.zero_le _) ?_)))
  case b1 => rw [hu2]; decide
  case b2 => decide
  intro w2 hown hg2
  have hrow : w2.heap[w1.heap.size]? = some (.cells (bvs (List.replicate 512 0)).toArray 5 (0, 0)) := by
    rcases hown.2 with ⟨h, _⟩ | ⟨g, cap, cur, hv, _, hgg, _, _, hcs, ht⟩
    · cases h
    · cases hv
      rw [hgg]
      have e1 : cur.toList.take (512 * 1) = cur.toList := List.take_of_length_le (by rw [Array.length_toList]; omega)
      rw [e1, made_u8 512] at ht
      rw [← ht]
  have HR := hid hrow
  have f2 : Fr No w1 w2 := Fr.grown hg2 (fun k hk => by cases hk)
  have F2 := hid f2
  have hsrc2 : ∀ ad, a = some ad → ∀ j u, (bvs b)[j]? = some u → w2.cell? (ad.add j) = some u := by
    intro ad had j u hu
    have hne : bvs b ≠ [] := by intro e; rw [e] at hu; cases hu
    have h1 := HS.out ad had j u hu
    have h2 := HAP.out ad had hne
    refine f2.cell (HF1.out.cell h1 ?_) id
    rw [add_block]; exact h2
  have HS2 := hid hsrc2
  clear hown hg2 hrow f2 hsrc2
  have hn2 : Hid ((bvs b).length = Nat.min n 512) := by show _ = _; rw [bvs_len, HB.out]; exact (Nat.min_eq_left hn).symm
  have hfit : Hid (0 + (bvs b).length ≤ (bvs (List.replicate 512 0)).length) := by show _ ≤ _; rw [bvs_len, bvs_len, HB.out, List.length_replicate]; omega
  obtain ⟨Z, hZ⟩ : ∃ Z, Z = bvs (List.replicate 512 0) := ⟨_, rfl⟩
  obtain ⟨B, hB⟩ : ∃ B, B = bvs b := ⟨_, rfl⟩
  have HO := hid (bvs_one b)
  rw [← hZ] at HR hfit
  rw [← hB] at HS2 hn2 hfit HO
  have HZ := hid hZ
  have HB2 := hid hB
  clear hZ hB
  go_wp2_with (with_reducible refine wpList_copy_fr rfl (.tmp 25) (.tmp 26) 23 23 rfl 5 Try.underlying23 (by kernel_rfl) w1.heap.size 0 512 512 a n c rfl rfl Z 5 HR.out B hn2.out hnil HS2.out hfit.out HO.out ?_)
  intro w3 hr3 hf3
  have fr13 : Fr No w1 w3 := F2.out.trans (hf3.out : Fr (· = w1.heap.size) w2 w3) (fun i hi => .inr (by rw [hi]; exact Nat.le_refl _))
  have hd3 : DevAt w3 p bs uv us m.spent := HD1.out.fr fr13 id id (fun _ _ => id) (fun _ _ => id)
  have c1 := hd3.c1
  have hf1' := hd3.free 1
  have hp3 : p < w3.heap.size := lt_of_some hd3.head
  have FR13 := hid fr13
  have HD3 := hid hd3
  clear fr13 hd3 hf3
  have hz3 : Hid (w1.heap.size < w3.heap.size) := lt_of_some hr3.out
  go_wp2_with (at_builtin; go_must (refine wpList_append_at _ rfl (.tmp 32) (.tmp 36) 48 rfl 57 iw _ 2 32 Try.underlying48 hiw hw0 hw1 hw2 rfl (by decide) uv us.length (us.flatMap UW.cells) rfl (HD3.out.list.alloc _) ⟨w3.heap.size, 0, none⟩ 1 1 [.int .i64 k, .slice (some ⟨w1.heap.size, 0, none⟩) 512 512] rfl rfl ?c1 ?c2 (by decide) ?c3 ?c4 ?_))
  case c1 =>
    intro j u hj
    match j, hj with
    | 0, hj => simp at hj; subst hj; simp [Addr.add]
    | 1, hj => simp at hj; subst hj; simp [Addr.add]
  case c2 => intro u hu; simp at hu; rcases hu with rfl | rfl <;> rfl
  case c3 => unfold maxLen; omega
  case c4 => omega
  intro g' c' w4 HO4 hgg hg4
  have f34 : Fr (fun i => uv.ownBlock = some i) w3 w4 := (Fr.alloc w3 _).step hg4.out
  have hpu : ¬ uv.ownBlock = some p := fun e => HD3.out.p_ne.2.1 p e rfl
  have hbu : ¬ uv.ownBlock = some bs := fun e => HD3.out.bs_ne.2.1 bs e rfl
  have hh4 := f34.heap HD3.out.head hpu
  have d1 : w4.cell? ⟨p, 1, none⟩ = some uv := by rw [cell_of_row w4 p 1 _ _ _ hh4]; rfl
  have d2 : w4.frozen? ⟨p, 1, none⟩ = false := frozen_of_row w4 p 1 _ _ hh4
  have HG4 := hid f34
  have HH4 := hid hh4
  have HPU := hid hpu
  have HBU := hid hbu
  clear hg4 f34 hh4 hf1' c1 hpu hbu
  go_wp2_with fail
  go_ret
  have hpu := HPU.out
  have hbu := HBU.out
  have f45 : Fr (· = p) w4 (w4.setCell ⟨p, 1, none⟩ (.slice (some ⟨g', 0, none⟩) (us.length + 1) c')) := Fr.set1 _ _ _ _
  have f13 := FR13.out
  have hr3' : Row w3 w1.heap.size 5 (bvs (pad b)) := ⟨_, hr3.out, by rw [HZ.out, HB2.out, splice_pad]; exact List.take_of_length_le (by simp)⟩
  have hd := HD3.out
  refine ⟨rfl, .slice (some ⟨g', 0, none⟩) (us.length + 1) c', us ++ [⟨k, pad b, w1.heap.size, 512⟩], ⟨?_, ?_, ?_, ?_, ?_, ?_⟩, ?_, ?_, ?_⟩
  · rw [heap_setCell_same _ _ _ _ _ _ HH4.out]; simp
  · exact f45.heap (HG4.out.heap hd.rows hbu) hd.p_ne.1
  · have := owns_fr HO4.out f45 (owns_ne HO4.out HH4.out (by decide))
    simpa [UW.cells] using this
  · show m.unsure ++ [(k, pad b)] = _
    rw [HH.out.eq]; simp [UW.pair]
  · intro u hu
    rcases List.mem_append.1 hu with hu | hu
    · have h1 := (hd.data u hu).1
      refine ⟨(h1.fr HG4.out (fun e => ?_)).fr f45 (hd.p_ne.2.2 u hu), (hd.data u hu).2⟩
      obtain ⟨cur, hc, _⟩ := h1
      exact owns_ne hd.list hc (by decide) _ e rfl
    · obtain rfl := List.mem_singleton.1 hu
      refine ⟨(hr3'.fr HG4.out (fun e => ?_)).fr f45 ?_, Nat.le_refl _⟩
      · obtain ⟨cur, hc, _⟩ := hr3'
        exact owns_ne hd.list hc (by decide) _ e rfl
      · exact hr3'.ne hd.head (by decide)
  · have hw := hd.wf
    refine ⟨hw.few, hw.size, ?_, ?_, hw.lim⟩
    · intro u hu
      rcases List.mem_append.1 hu with hu | hu
      · exact HH.out.wf.wsize u hu
      · obtain rfl := List.mem_singleton.1 hu; exact pad_len (by rw [HB.out]; exact hn)
    · intro u hu
      have hs : m.spent.sure = m.sure := by unfold Dv.spent; split <;> rfl
      show u.1 < m.spent.sure.length
      rw [hs]
      rcases List.mem_append.1 hu with hu | hu
      · exact HH.out.wf.wpos u hu
      · obtain rfl := List.mem_singleton.1 hu; exact hk
  · refine Fr.trans (Fr.trans (HF1.out.mono (fun i _ e => .inl e)) (f13 : Fr No _ _) (fun i hi => hi.elim)) (Fr.trans (HG4.out.mono (fun i _ e => .inr e)) (f45.mono (fun i _ e => .inl e)) (fun i hi => .inl hi)) (fun i hi => .inl hi)
  · intro i hi
    cases hi
    rcases hgg.out with h1 | h1
    · exact .inl h1
    · refine .inr ?_
      have h2 := HF1.out.size
      have h3 := f13.size
      have h4 : w3.heap.size + 1 ≤ g' := h1
      show w'.heap.size ≤ g'
      omega
  · intro u hu
    rcases List.mem_append.1 hu with hu | hu
    · exact .inl hu
    · obtain rfl := List.mem_singleton.1 hu; exact .inr HF1.out.size
end Go.Proofs.Ytpimjachhfnlfaa
