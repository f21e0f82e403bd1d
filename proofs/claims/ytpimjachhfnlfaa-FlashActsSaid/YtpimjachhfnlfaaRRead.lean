/-
  The document's device: Read. No condition but that fewer than 2^40 writes are open.
-/
import Derived.Test.YtpimjachhfnlfaaRNew
namespace Go.Proofs.Ytpimjachhfnlfaa
open Go.RowKit

theorem rs_at {ss : List RS} (j : Nat) (hj : j < ss.length) : (ss.flatMap RS.cells)[j * 2]? = some (.slice (some ⟨(ss[j]).g, 0, none⟩) 512 (ss[j]).c) ∧ (ss.flatMap RS.cells)[j * 2 + 1]? = some (.bool (ss[j]).torn) := by
  have h0 := getElem?_flatMap_fixed ss RS.cells 2 (fun _ _ => rfl) j 0 (by decide)
  have h1 := getElem?_flatMap_fixed ss RS.cells 2 (fun _ _ => rfl) j 1 (by decide)
  rw [List.getElem?_eq_getElem hj] at h0 h1
  exact ⟨h0, h1⟩

/-- A row that holds something has a place. -/
theorem owns_place {w : World} {base e size n : Nat} {v : Value} {xs : List Value} (h : w.ownsRow base e size v n xs) (hn : 0 < n) : ∃ g c, v = .slice (some ⟨g, 0, none⟩) n c ∧ Row w g e xs ∧ n ≤ c ∧ c ≤ maxLen := by
  rcases h.2 with ⟨_, h0⟩ | ⟨g, cap, cur, rfl, _, hg, hn, hm, _, ht⟩
  · omega
  · exact ⟨g, cap, rfl, ⟨cur, hg, by rw [h.1]; exact ht⟩, hn, hm⟩

theorem lastTo_snoc (l : List (Nat × List UInt8)) (u : Nat × List UInt8) (pos : Nat) : lastTo (l ++ [u]) pos = if u.1 = pos then some u.2 else lastTo l pos := by
  unfold lastTo
  rw [List.reverse_append, List.reverse_cons, List.reverse_nil, List.nil_append, List.singleton_append, List.find?_cons]
  by_cases h : u.1 = pos
  · simp [h]
  · have : (u.1 == pos) = false := beq_eq_false_iff_ne.2 h
    rw [this, if_neg h]

/-- What Read answers: an error, or bytes of one's own. -/
def rbytes (w : World) (r : Except Int (List UInt8)) (e : Ending) (w' : World) : Prop :=
  match r with
  | .error x => e = .returned (.tuple #[.slice none 0 0, .int .i64 x]) ∧ w' = w
  | .ok b => ∃ g c, e = .returned (.tuple #[.slice (some ⟨g, 0, none⟩) b.length c, .int .i64 0]) ∧ Row w' g 5 (bvs b) ∧ w.heap.size ≤ g ∧ Fr No w w'

/-- The bytes and the mark that Read has behind the first j writes. -/
def RSeen (w : World) (us : List UW) (s : RS) (k j : Nat) (b t : Value) : Prop :=
  ∃ g c l tt, b = .slice (some ⟨g, 0, none⟩) 512 c ∧ t = .bool tt ∧ Hid (Row w g 5 (bvs l) ∧ 512 ≤ c ∧ l.length = 512) ∧
    Hid ((match lastTo ((us.take j).map UW.pair) k with | some x => l = x ∧ tt = false | none => l = s.data ∧ tt = s.torn))

theorem rcode_down {w : World} {q : Nat} {sv uv : Value} {ss : List RS} {us : List UW} {m : Dv} (pos : Int) (h : RDevAt w q sv uv ss us m) (hc : m.code pos ≠ 0) :
    Calls Try.prog 81 #[.pointer (some ⟨q, 0, none⟩), .int .i64 pos] w fun e w' => e = .returned (.tuple #[.slice none 0 0, .int .i64 (m.code pos)]) ∧ w' = w := by
  have h0 := h.c0
  have h3 := h.c3
  have hlen := h.len
  obtain ⟨ao, an, ac, hv⟩ : ∃ ao an ac, sv = .slice ao an ac := by
    rcases h.sure.2 with ⟨h, _⟩ | ⟨g, cap, cur, h, _⟩
    · exact ⟨_, _, _, h⟩
    · exact ⟨_, _, _, h⟩
  have hn : an = m.sure.length := by
    rcases h.sure.2 with ⟨h, h2⟩ | ⟨g, cap, cur, h, _⟩
    · rw [h] at hv; cases hv; omega
    · rw [h] at hv; cases hv; omega
  rw [hv, hn] at h0
  clear h hv hn hlen
  by_cases hdown : m.down = true
  · rw [hdown] at h3
    have he : m.code pos = 8 := by simp [Dv.code, hdown]
    rw [he]
    clear he hc hdown
    go_enter Try.func81, Try.ntmps81
    go_wp2
    go_ret2
    exact ⟨rfl, rfl⟩
  · have hdown : m.down = false := by simpa using hdown
    rw [hdown] at h3
    by_cases h1 : pos < 0
    · have he : m.code pos = 1 := by simp [Dv.code, hdown, h1]
      rw [he]
      clear he hc hdown
      go_enter Try.func81, Try.ntmps81
      go_wp2
      go_ret2
      exact ⟨rfl, rfl⟩
    · by_cases h2 : (m.sure.length : Int) ≤ pos
      · have he : m.code pos = 1 := by simp [Dv.code, hdown, h1, h2]
        rw [he]
        clear he hc hdown
        go_enter Try.func81, Try.ntmps81
        go_wp2
        go_ret2
        exact ⟨rfl, rfl⟩
      · exact absurd (by simp [Dv.code, hdown, h1, h2]) hc

set_option maxRecDepth 100000 in
set_option maxHeartbeats 1000000 in
theorem rread_ok {w : World} {q : Nat} {sv uv : Value} {ss : List RS} {us : List UW} {m : Dv} (k : Nat) (h : RDevAt w q sv uv ss us m) (hk : k < m.sure.length) (hd : m.down = false) (few : us.length ≤ 1099511627776) :
    Calls Try.prog 81 #[.pointer (some ⟨q, 0, none⟩), .int .i64 k] w fun e w' => rbytes w (m.rd k) e w' := by
  obtain ⟨iu, hiu, hu0, hu1, hu2⟩ := info_parts info_u8
  have h3 := h.c3
  rw [hd] at h3
  have hlen := h.len
  have hkl : k < ss.length := by omega
  obtain ⟨sg, sc, rfl, hsr, -, -⟩ := owns_place h.sure (by omega)
  have h0 := h.c0
  have hrs := rs_at k hkl
  have r0 := hsr.cell _ _ hrs.1
  have r1 := hsr.cell _ _ hrs.2
  have hsd := h.sdata _ (List.getElem_mem hkl)
  have hte := h.tells k hkl hk
  have hr : m.rd k = (match (match lastTo (us.map UW.pair) k with | some b => some b | none => if (m.sure[k]).torn then none else some (m.sure[k]).data) with | none => .error 9 | some b => .ok b) := by
    have hc : m.code k = 0 := by
      unfold Dv.code
      rw [hd, if_neg (by simp), if_neg (by omega), if_neg (by omega)]
    have hs : m.seen k = (match lastTo (us.map UW.pair) k with | some b => some b | none => if (m.sure[k]).torn then none else some (m.sure[k]).data) := by
      unfold Dv.seen
      rw [h.eq, List.getElem?_eq_getElem hk]
      cases lastTo (us.map UW.pair) k <;> rfl
    unfold Dv.rd
    rw [hc, if_neg (by simp), Int.toNat_natCast, hs]
    cases lastTo (us.map UW.pair) k <;> rfl
  have b2 : (k : Int) < (m.sure.length : Int) := by omega
  have b3 : (k : Int) < (ss.length : Int) := by omega
  have HS := hid hsd
  have HT := hid hte
  have HH := hid h
  obtain ⟨s, hs⟩ : ∃ s, s = ss[k] := ⟨_, rfl⟩
  rw [← hs] at r0 r1 HS HT
  obtain ⟨ms, hms⟩ : ∃ ms, ms = m.sure[k] := ⟨_, rfl⟩
  rw [← hms] at HT hr
  obtain ⟨r, hrr⟩ : ∃ r, r = m.rd k := ⟨_, rfl⟩
  rw [← hrr] at hr ⊢
  have HR := hid hr
  clear hsd hte hr hrs hs hms hd hsr hrr
  obtain ⟨uo, un, uc, rfl, hun, hucell⟩ : ∃ uo un uc, uv = .slice uo un uc ∧ un = us.length ∧ Hid (∀ j (hj : j < us.length), ∃ ug, uo = some ⟨ug, 0, none⟩ ∧ w.cell? ⟨ug, j * 2, none⟩ = some (.int .i64 (us[j]).pos) ∧ w.cell? ⟨ug, j * 2 + 1, none⟩ = some (.slice (some ⟨(us[j]).g, 0, none⟩) 512 (us[j]).c)) := by
    rcases h.list.2 with ⟨h1, h2⟩ | ⟨g, cap, cur, h1, _⟩
    · exact ⟨_, _, _, h1, h2.symm, fun j hj => by omega⟩
    · subst h1
      have hrow := row_of_owns h.list
      refine ⟨_, _, _, rfl, rfl, fun j hj => ⟨g, rfl, ?_, ?_⟩⟩
      · exact hrow.cell _ _ (uw_at j hj).1
      · exact hrow.cell _ _ (uw_at j hj).2
  have h1 := h.c1
  have hl4 : Hid (ss.length = m.sure.length) := hlen
  clear h hlen hk hkl
  rw [hl4.out] at h0 b3
  have HUN := hid hun
  rw [← hun] at few
  clear hun
  go_enter Try.func81, Try.ntmps81
  go_wp2_with fail
  go_loop [6, 7, 8] (fun b t i => ∃ j : Nat, j ≤ un ∧ i = .int .i64 j ∧ RSeen w us s k j b t) (fun _ _ i => un - (intOf i).toNat)
  case atStart => exact ⟨0, Nat.zero_le _, rfl, s.g, s.c, s.data, s.torn, rfl, rfl, HS.out, ⟨rfl, rfl⟩⟩
  case round =>
    obtain ⟨j, hj, rfl, g, c, l, tt, rfl, rfl, hrow, hst⟩ := hrel
    by_cases hlt : j < un
    · have hju : Hid (j < us.length) := by have := HUN.out; show j < us.length; omega
      obtain ⟨ug, rfl, c0, c1⟩ := hucell.out j hju.out
      have hdat := hid (HH.out.data _ (List.getElem_mem hju.out))
      have hwl := hid (HH.out.wf.wsize (us[j]'hju.out).pair (by rw [HH.out.eq]; exact List.mem_map_of_mem (List.getElem_mem hju.out)))
      have hst2 : Hid (lastTo ((us.take (j + 1)).map UW.pair) k = if (us[j]'hju.out).pos = k then some (us[j]'hju.out).data else lastTo ((us.take j).map UW.pair) k) := by
        show _ = _
        rw [take_succ_at us j hju.out, List.map_append, List.map_cons, List.map_nil, lastTo_snoc]
        rfl
      obtain ⟨u, hu⟩ : ∃ u, u = us[j]'hju.out := ⟨_, rfl⟩
      rw [← hu] at c0 c1 hdat hwl hst2
      clear hu
      by_cases hp : u.pos = k
      · have q1 : ((u.pos : Int) == (k : Int)) = true := by rw [beq_iff_eq]; omega
        have HP := hid hp
        clear hp
        go_wp2_with fail
        go_round
        case rel => exact ⟨j + 1, hlt, by go_num, u.g, u.c, u.data, false, rfl, rfl, ⟨hdat.out.1, hdat.out.2, hwl.out⟩, by show match lastTo ((us.take (j + 1)).map UW.pair) k with | some x => u.data = x ∧ false = false | none => u.data = s.data ∧ false = s.torn; rw [hst2.out, if_pos HP.out]; exact ⟨rfl, rfl⟩⟩
        case measure => simp [intOf]; omega
      · have q1 : ((u.pos : Int) == (k : Int)) = false := by rw [beq_eq_false_iff_ne]; omega
        have HP := hid hp
        clear hp
        go_wp2_with fail
        go_round
        case rel => exact ⟨j + 1, hlt, by go_num, g, c, l, tt, rfl, rfl, hrow.out, by show match lastTo ((us.take (j + 1)).map UW.pair) k with | some x => l = x ∧ tt = false | none => l = s.data ∧ tt = s.torn; rw [hst2.out, if_neg HP.out]; exact hst.out⟩
        case measure => simp [intOf]; omega
    · have ht : us.take j = us := List.take_of_length_le (by have := HUN.out; omega)
      rw [ht] at hst
      have hfin : (tt = true ∧ Hid (r = .error 9)) ∨ (tt = false ∧ Hid (r = .ok l)) := by
        have hr2 := HR.out
        have hs2 := hst.out
        have ht2 := HT.out
        cases hl : lastTo (us.map UW.pair) k with
        | some x =>
          rw [hl] at hs2 hr2
          exact .inr ⟨hs2.2, by show _ = _; rw [hs2.1]; exact hr2⟩
        | none =>
          rw [hl] at hs2 hr2
          cases hmt : ms.torn with
          | true =>
            rw [hmt] at hr2
            exact .inl ⟨by rw [hs2.2, ht2.1, hmt], hr2⟩
          | false =>
            rw [hmt] at hr2
            exact .inr ⟨by rw [hs2.2, ht2.1, hmt], by show _ = _; rw [hs2.1, ht2.2 hmt]; exact hr2⟩
      clear ht
      rcases hfin with ⟨rfl, hfin⟩ | ⟨rfl, hfin⟩
      · go_wp2_with fail
        go_ret2
        rw [hfin.out]
        exact ⟨rfl, rfl⟩
      · have HO5 := hid (World.ownsRow_made (base := 0) (e := 5) (size := 1) w #[] 0 (Nat.zero_le _) (by decide) rfl)
        have HB := hid ((Row.bytes hrow.out.1 hrow.out.2.2).fr0 (Fr.alloc w (.cells #[] 5)))
        have hl5 := hid hrow.out.2.2
        go_wp2_with (at_builtin; go_must (refine wpList_append_copy _ rfl (.tmp 68) (.tmp 69) 23 rfl 5 iu (.int .u8 0) 1 1 Try.underlying23 hiu hu0 hu1 hu2 rfl (by decide) w.heap.size rfl HO5.out (some ⟨g, 0, none⟩) 512 c (bvs l) rfl (fun e => by cases e) (by rw [bvs_len, hl5.out]) HB.out.cell (bvs_one l) (by unfold maxLen; omega) (by omega) ?_))
        intro g6 c6 w6 hr6 hc6 hg6 hf6
        have F6 := hid ((Fr.alloc (S := No) w _).step hf6.out)
        go_wp2_with fail
        go_ret2
        rw [hfin.out]
        refine ⟨g6, c6, by rw [hl5.out]; rfl, hr6.out, ?_, F6.out⟩
        rcases hg6 with h1 | h1
        · rw [h1]; exact Nat.le_refl _
        · have h2 : w.heap.size + 1 ≤ g6 := by simpa using h1
          omega

theorem rread_any {w : World} {T : Nat → Prop} {q : Nat} {m : Dv} (pos : Int) (h : RDev w T q m) (few : m.unsure.length ≤ 1099511627776) :
    Calls Try.prog 81 #[.pointer (some ⟨q, 0, none⟩), .int .i64 pos] w fun e w' => rbytes w (m.rd pos) e w' := by
  obtain ⟨sv, uv, ss, us, h, -⟩ := h
  by_cases h0 : m.code pos = 0
  · obtain ⟨hdn, k, rfl, hk⟩ := code_zero h0
    exact rread_ok k h hk hdn (by have := h.eq; rw [this] at few; simpa using few)
  · refine (rcode_down pos h h0).mono fun e w' hh => ?_
    have : m.rd pos = .error (m.code pos) := by unfold Dv.rd; rw [if_pos h0]
    rw [this]
    exact hh

end Go.Proofs.Ytpimjachhfnlfaa
