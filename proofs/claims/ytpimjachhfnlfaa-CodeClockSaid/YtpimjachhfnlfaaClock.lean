/-
  CodeClock, walked. No condition.
-/
import Derived.Test.YtpimjachhfnlfaaExact
namespace Go.Proofs.Ytpimjachhfnlfaa
open Go.RowKit

theorem info_strs : (Try.prog.info? 9).map (fun i => (i.zero, i.size, i.bytes)) = some (some (.string ⟨#[]⟩), 1, 16) := by kernel_rfl

set_option maxRecDepth 100000 in
theorem answers15_any (w : World) : Calls Try.prog 50 #[] w fun e w' => e = .returned (.bool true) ∧ Fr No w w' := by
  have H := hid (encode_zone none 0 0 [] w (StrIn.nothing w) (Nat.le_refl _) (Nat.zero_le _) (fun s hs => by cases hs))
  have he : encZone [] = some [2, 0] := rfl
  rw [he] at H
  clear he
  go_enter Try.func50, Try.ntmps50
  go_wp2_with fail
  refine H.out.mono ?_
  rintro e w1 ⟨a, n, c, rfl, hn, hb, hnil, hf1⟩
  obtain ⟨b, o, rfl, hcell⟩ := hb.at (by rw [hn]; decide)
  have c0 := hcell 0 _ rfl
  rw [Nat.add_zero] at c0
  have hn2 : n = 2 := hn
  subst hn2
  have F1 := hid hf1
  clear hcell hb hnil hf1 hn
  unfold bv at c0
  go_wp2_with fail
  go_ret
  exact ⟨rfl, F1.out⟩

/-- What Encode answers, in one. -/
def encAll (w : World) (ok : Bool) (bs : List UInt8) (e : Ending) (w' : World) : Prop :=
  ∃ a n c code, e = .returned (.tuple #[.slice a n c, .int .i64 code]) ∧ ((ok = true ∧ code = 0 ∧ BytesIn w' a n bs) ∨ (ok = false ∧ code = 2)) ∧ Fr No w w'

theorem etime_all (t : Int) (w : World) : Calls Try.prog 52 #[entV 3 t nilS] w fun e w' => encAll w (timeB t) (be 1 3 ++ be 7 t.toNat) e w' :=
  (encode_time t w).mono fun e w' h => by
    cases ht : timeB t with
    | false =>
      have he : encTime t = none := by unfold encTime; rw [ht]; rfl
      rw [he] at h
      obtain ⟨rfl, f⟩ := h
      exact ⟨none, 0, 0, 2, rfl, .inr ⟨rfl, rfl⟩, f⟩
    | true =>
      have he : encTime t = some (be 1 3 ++ be 7 t.toNat) := by unfold encTime; rw [ht]; rfl
      rw [he] at h
      obtain ⟨a, n, c, rfl, -, hb, -, f⟩ := h
      exact ⟨a, n, c, 0, rfl, .inl ⟨rfl, rfl, hb⟩, f⟩

theorem ezone_all (a : Option Addr) (n c : Nat) (ls : List ByteArray) (w : World) (h : StrIn w a n ls) (hc : n ≤ c) (hn : n ≤ 9223372036854775807) (hs : ∀ s ∈ ls, s.size ≤ 9223372036854775807) :
    Calls Try.prog 52 #[entV 2 0 (.slice a n c)] w fun e w' => encAll w (soundB ls) (be 1 2 ++ restB ls ++ be 1 0) e w' :=
  (encode_zone a n c ls w h hc hn hs).mono fun e w' h => by
    cases ht : soundB ls with
    | false =>
      have he : encZone ls = none := by unfold encZone; rw [ht]; rfl
      rw [he] at h
      obtain ⟨rfl, f⟩ := h
      exact ⟨none, 0, 0, 2, rfl, .inr ⟨rfl, rfl⟩, f⟩
    | true =>
      have he : encZone ls = some (be 1 2 ++ restB ls ++ be 1 0) := by unfold encZone; rw [ht]; rfl
      rw [he] at h
      obtain ⟨a, n, c, rfl, -, hb, -, f⟩ := h
      exact ⟨a, n, c, 0, rfl, .inl ⟨rfl, rfl, hb⟩, f⟩

/-- A name's labels as cells. -/
def strVs (l : List ByteArray) : List Value := l.map Value.string

theorem strVs_one (l : List ByteArray) : ∀ u ∈ strVs l, u.oneCell' = true := by
  intro u hu; obtain ⟨x, _, rfl⟩ := List.mem_map.1 hu; rfl

theorem StrIn.cells {w : World} {a : Option Addr} {n : Nat} {l : List ByteArray} (h : StrIn w a n l) : ∀ ad, a = some ad → ∀ j u, (strVs l)[j]? = some u → w.cell? (ad.add j) = some u := by
  intro ad had j u hu
  unfold strVs at hu
  rw [List.getElem?_map] at hu
  obtain ⟨s, hs, rfl⟩ := Option.map_eq_some_iff.1 hu
  exact h.cell ad had j s hs

theorem Row.strs {w : World} {g n : Nat} {l : List ByteArray} (h : Row w g 9 (strVs l)) (hn : l.length = n) : StrIn w (some ⟨g, 0, none⟩) n l := by
  refine ⟨hn, (fun e => by cases e), fun ad had j s hs => ?_⟩
  cases had
  rw [Addr.add_lit, Nat.zero_add]
  exact h.cell j _ (by unfold strVs; rw [List.getElem?_map, hs]; rfl)

set_option maxRecDepth 100000 in
theorem clock_long (x y : Int) (a1 a2 : Option Addr) (n1 c1 n2 c2 : Nat) (w : World) (h : 200 < n1 ∨ 200 < n2) :
    Calls Try.prog 12 #[.int .i64 x, .int .i64 y, .slice a1 n1 c1, .slice a2 n2 c2] w fun e w' => e = .returned (.bool true) ∧ Fr No w w' := by
  by_cases h1 : 200 < n1
  · have q1 : (200 : Int) < (n1 : Int) := by omega
    go_enter Try.func12, Try.ntmps12
    go_wp2_with fail
    refine (answers15_any _).mono ?_
    rintro e w1 ⟨rfl, hf1⟩
    have F1 := hid hf1
    clear hf1
    go_wp2_with fail
    refine (answers15_any _).mono ?_
    rintro e w2 ⟨rfl, hf2⟩
    have F2 := hid (F1.out.step hf2)
    clear hf2
    go_wp2_with fail
    go_ret
    exact ⟨rfl, F2.out⟩
  · have q1 : ¬ (200 : Int) < (n1 : Int) := by omega
    have q2 : (200 : Int) < (n2 : Int) := by omega
    go_enter Try.func12, Try.ntmps12
    go_wp2_with fail
    refine (answers15_any _).mono ?_
    rintro e w1 ⟨rfl, hf1⟩
    have F1 := hid hf1
    clear hf1
    go_wp2_with fail
    refine (answers15_any _).mono ?_
    rintro e w2 ⟨rfl, hf2⟩
    have F2 := hid (F1.out.step hf2)
    clear hf2
    go_wp2_with fail
    go_ret
    exact ⟨rfl, F2.out⟩

set_option maxRecDepth 100000 in
set_option maxHeartbeats 4000000 in
theorem clock_walk (x y : Int) (a1 a2 : Option Addr) (n1 c1 n2 c2 : Nat) (l1 l2 : List ByteArray) (w : World) (h1 : StrIn w a1 n1 l1) (h2 : StrIn w a2 n2 l2) (hn1 : n1 ≤ 200) (hn2 : n2 ≤ 200) (hz1 : a1 = none → n1 = 0 ∧ c1 = 0) (hz2 : a2 = none → n2 = 0 ∧ c2 = 0)
    (hs1 : ∀ s ∈ l1, s.size ≤ 9223372036854775807) (hs2 : ∀ s ∈ l2, s.size ≤ 9223372036854775807) :
    Calls Try.prog 12 #[.int .i64 x, .int .i64 y, .slice a1 n1 c1, .slice a2 n2 c2] w fun e w' => e = .returned (.bool true) ∧ Fr No w w' := by
  obtain ⟨is, his, hi0, hi1, hi2⟩ := info_parts info_strs
  have H1 := hid h1
  have H2 := hid h2
  have Z1 := hid hz1
  have Z2 := hid hz2
  have S1 := hid hs1
  have S2 := hid hs2
  have q1 : ¬ (200 : Int) < (n1 : Int) := by omega
  have q2 : ¬ (200 : Int) < (n2 : Int) := by omega
  clear h1 h2 hz1 hz2 hs1 hs2
  go_enter Try.func12, Try.ntmps12
  go_wp2_with fail
  refine (answers15_any _).mono ?_
  rintro e w1 ⟨rfl, hf1⟩
  have F1 := hid hf1
  clear hf1
  go_wp2_with fail
  refine (etime_all x _).mono ?_
  rintro e w2 ⟨ax, nx, cx, ex, rfl, hx, hf2⟩
  have X2 := hid hx
  have F2 := hid (F1.out.step hf2)
  clear hx hf2
  go_wp2_with fail
  refine (etime_all y _).mono ?_
  rintro e w3 ⟨ay, ny, cy, ey, rfl, hy, hf3⟩
  have Y3 := hid hy
  have F23 := hid hf3
  have F3 := hid (F2.out.step hf3)
  clear hy hf3
  have HO3 := hid (World.ownsRow_made (base := 0) (e := 9) (size := 1) w3 #[] 0 (Nat.zero_le _) (by decide) rfl)
  have HS3 := hid ((H1.out.fr0 F3.out).fr0 (Fr.alloc w3 (.cells #[] 9)))
  go_wp2_with (at_builtin; go_must (refine wpList_append_copy _ rfl (.tmp 43) (.tmp 44) 74 rfl 9 is (.string ⟨#[]⟩) 1 16 Try.underlying74 his hi0 hi1 hi2 rfl (by decide) w3.heap.size rfl HO3.out a1 n1 c1 (strVs l1) rfl Z1.out (by unfold strVs; rw [List.length_map, H1.out.len, Nat.mul_one]) HS3.out.cells (strVs_one l1) ?b1 ?b2 ?_))
  case b1 => unfold maxLen; omega
  case b2 => omega
  intro g4 c4 w4 hr4 hc4 hg4 hf4
  have F34 := hid ((Fr.alloc (S := No) w3 _).step hf4.out)
  have S4 := hid (hr4.out.strs H1.out.len)
  clear hr4 hg4 hf4
  go_wp2_with fail
  refine (ezone_all (some ⟨g4, 0, none⟩) n1 c4 l1 _ S4.out hc4 (by omega) S1.out).mono ?_
  rintro e w5 ⟨ap, np, cp, ep, rfl, hp, hf5⟩
  have P5 := hid hp
  have F45 := hid hf5
  have F5 := hid ((F3.out.step F34.out).step hf5)
  clear hp hf5 hc4
  have HO5 := hid (World.ownsRow_made (base := 0) (e := 9) (size := 1) w5 #[] 0 (Nat.zero_le _) (by decide) rfl)
  have HS5 := hid ((H2.out.fr0 F5.out).fr0 (Fr.alloc w5 (.cells #[] 9)))
  go_wp2_with (at_builtin; go_must (refine wpList_append_copy _ rfl (.tmp 51) (.tmp 52) 74 rfl 9 is (.string ⟨#[]⟩) 1 16 Try.underlying74 his hi0 hi1 hi2 rfl (by decide) w5.heap.size rfl HO5.out a2 n2 c2 (strVs l2) rfl Z2.out (by unfold strVs; rw [List.length_map, H2.out.len, Nat.mul_one]) HS5.out.cells (strVs_one l2) ?b3 ?b4 ?_))
  case b3 => unfold maxLen; omega
  case b4 => omega
  intro g6 c6 w6 hr6 hc6 hg6 hf6
  have F56 := hid ((Fr.alloc (S := No) w5 _).step hf6.out)
  have S6 := hid (hr6.out.strs H2.out.len)
  clear hr6 hg6 hf6
  go_wp2_with fail
  refine (ezone_all (some ⟨g6, 0, none⟩) n2 c6 l2 _ S6.out hc6 (by omega) S2.out).mono ?_
  rintro e w7 ⟨aq, nq, cq, eq, rfl, hq, hf7⟩
  have Q7 := hid hq
  have F67 := hid hf7
  have F7 := hid ((F5.out.step F56.out).step hf7)
  clear hq hf7 hc6
  have X7 : Hid ((timeB x = true ∧ ex = 0 ∧ BytesIn w7 ax nx (be 1 3 ++ be 7 x.toNat)) ∨ (timeB x = false ∧ ex = 2)) := X2.out.imp (fun h => ⟨h.1, h.2.1, ((((h.2.2.fr0 F23.out).fr0 F34.out).fr0 F45.out).fr0 F56.out).fr0 F67.out⟩) id
  have Y7 : Hid ((timeB y = true ∧ ey = 0 ∧ BytesIn w7 ay ny (be 1 3 ++ be 7 y.toNat)) ∨ (timeB y = false ∧ ey = 2)) := Y3.out.imp (fun h => ⟨h.1, h.2.1, (((h.2.2.fr0 F34.out).fr0 F45.out).fr0 F56.out).fr0 F67.out⟩) id
  have P7 : Hid ((soundB l1 = true ∧ ep = 0 ∧ BytesIn w7 ap np (be 1 2 ++ restB l1 ++ be 1 0)) ∨ (soundB l1 = false ∧ ep = 2)) := P5.out.imp (fun h => ⟨h.1, h.2.1, (h.2.2.fr0 F56.out).fr0 F67.out⟩) id
  have L7 := hid (H1.out.fr0 F7.out)
  have M7 := hid (H2.out.fr0 F7.out)
  clear X2 Y3 P5 F23 F34 F45 F56 F67 S4 S6 HO3 HO5 HS3 HS5
  have lx : ∀ {t code : Int} {ok : Bool}, ((ok = true ∧ code = 0) ∨ (ok = false ∧ code = 2)) → (code == 0) = ok ∧ (code != 0) = !ok := by
    intro t code ok h
    rcases h with ⟨rfl, rfl⟩ | ⟨rfl, rfl⟩ <;> exact ⟨rfl, rfl⟩
  obtain ⟨ex1, ex2⟩ := lx (t := 0) (X7.out.imp (fun h => ⟨h.1, h.2.1⟩) id)
  obtain ⟨ey1, ey2⟩ := lx (t := 0) (Y7.out.imp (fun h => ⟨h.1, h.2.1⟩) id)
  obtain ⟨ep1, ep2⟩ := lx (t := 0) (P7.out.imp (fun h => ⟨h.1, h.2.1⟩) id)
  obtain ⟨eq1, eq2⟩ := lx (t := 0) (Q7.out.imp (fun h => ⟨h.1, h.2.1⟩) id)
  have HXY : Hid (timeB x = true → timeB y = true → Calls Try.prog 25 #[.slice ax nx cx, .slice ay ny cy] w7 fun e w' => e = .returned (.bool (x == y)) ∧ ∃ k, w' = w7.drewN k) := by
    intro hx hy
    have b1 := X7.out.resolve_right (fun h => by rw [hx] at h; cases h.1)
    have b2 := Y7.out.resolve_right (fun h => by rw [hy] at h; cases h.1)
    refine (same_any cx cy b1.2.2 b2.2.2 (by rw [← b1.2.2.len, List.length_append, be_len, be_len]; decide)).mono fun e w' hh => ?_
    obtain ⟨⟨b, he, hb⟩, hk⟩ := hh
    refine ⟨?_, hk⟩
    rw [he]
    unfold timeB at hx hy
    simp only [Bool.and_eq_true, decide_eq_true_eq] at hx hy
    have hxy := time_inj (a := x.toNat) (b := y.toNat) (by omega) (by omega)
    have : b = (x == y) := by
      rw [Bool.eq_iff_iff, hb, hxy, beq_iff_eq]
      omega
    rw [this]
  have HPQ : Hid (soundB l1 = true → soundB l2 = true → ∀ k, Calls Try.prog 25 #[.slice ap np cp, .slice aq nq cq] (w7.drewN k) fun e w' => e = .returned (.bool (decide (l1 = l2))) ∧ ∃ k', w' = w7.drewN k') := by
    intro hx hy k
    have b1 := P7.out.resolve_right (fun h => by rw [hx] at h; cases h.1)
    have b2 := Q7.out.resolve_right (fun h => by rw [hy] at h; cases h.1)
    have hsz : (be 1 2 ++ restB l1 ++ be 1 0).length ≤ 9223372036854775806 := by
      have e1 := restB_len l1
      have e2 : sizeN l1 ≤ 255 := by
        unfold soundB at hx
        simp only [Bool.and_eq_true, decide_eq_true_eq] at hx
        exact hx.2
      rw [List.length_append, List.length_append, be_len, be_len]
      omega
    refine (same_any cp cq (b1.2.2.drewN k) (b2.2.2.drewN k) (by rw [← b1.2.2.len]; exact hsz)).mono fun e w' hh => ?_
    obtain ⟨⟨b, he, hb⟩, k', hk⟩ := hh
    refine ⟨?_, k + k', by rw [hk, World.drewN_drewN]⟩
    rw [he]
    have : b = decide (l1 = l2) := by
      rw [Bool.eq_iff_iff, hb, zone_inj hx hy, decide_eq_true_eq]
    rw [this]
  have HEX := hid (fun k => exact_any a1 a2 n1 n2 c1 c2 l1 l2 (w7.drewN k) (L7.out.drewN k) (M7.out.drewN k) (by omega))
  have TX := hid (rtime_any x w7)
  have TY := hid (rtime_any y w7)
  have SL := hid (rsound_any a1 n1 c1 l1 w7 L7.out)
  have SM := hid (rsound_any a2 n2 c2 l2 w7 M7.out)
  generalize timeB x = tx at *
  generalize timeB y = ty at *
  generalize soundB l1 = tp at *
  generalize soundB l2 = tq at *
  generalize decide (l1 = l2) = bl at *
  clear lx X7 Y7 P7 Q7 L7 M7 H1 H2
  have u1 : (tx != tx) = false := by cases tx <;> rfl
  have u2 : (ty != ty) = false := by cases ty <;> rfl
  have u3 : (tp != tp) = false := by cases tp <;> rfl
  have u4 : (tq != tq) = false := by cases tq <;> rfl
  go_wp2_with fail
  refine TX.out.mono ?_
  rintro e w' ⟨rfl, rfl⟩
  go_wp2_with fail
  refine TY.out.mono ?_
  rintro e w' ⟨rfl, rfl⟩
  go_wp2_with fail
  refine SL.out.mono ?_
  rintro e w' ⟨rfl, rfl⟩
  go_wp2_with fail
  refine SM.out.mono ?_
  rintro e w' ⟨rfl, rfl⟩
  clear TX TY SL SM
  obtain ⟨bxy, hbxy⟩ : ∃ bxy, bxy = (x == y) := ⟨_, rfl⟩
  rw [← hbxy] at HXY
  have hbx : (x == y) = bxy := hbxy.symm
  clear hbxy
  have v1 : (bxy == bxy) = true := by cases bxy <;> rfl
  have v2 : (bl == bl) = true := by cases bl <;> rfl
  have HPQ0 : Hid (tp = true → tq = true → Calls Try.prog 25 #[.slice ap np cp, .slice aq nq cq] w' fun e w'' => e = .returned (.bool bl) ∧ ∃ k', w'' = w'.drewN k') := fun h1 h2 => HPQ.out h1 h2 0
  clear u1 u2 u3 u4
  cases tx with
  | false =>
    cases tp with
    | false =>
      go_wp2_with fail
      go_ret
      exact ⟨rfl, F7.out⟩
    | true =>
      cases tq with
      | false =>
        go_wp2_with fail
        go_ret
        exact ⟨rfl, F7.out⟩
      | true =>
        have hpq := hid (HPQ0.out rfl rfl)
        go_wp2_with fail
        refine hpq.out.mono ?_
        rintro e w' ⟨rfl, k2, rfl⟩
        go_wp2_with fail
        refine (HEX.out _).mono ?_
        rintro e w' ⟨rfl, k3, rfl⟩
        go_wp2_with fail
        go_ret
        exact ⟨rfl, F7.out.step (Fr.drewN _ _)⟩
  | true =>
    cases ty with
    | false =>
      cases tp with
      | false =>
        go_wp2_with fail
        go_ret
        exact ⟨rfl, F7.out⟩
      | true =>
        cases tq with
        | false =>
          go_wp2_with fail
          go_ret
          exact ⟨rfl, F7.out⟩
        | true =>
          have hpq := hid (HPQ0.out rfl rfl)
          go_wp2_with fail
          refine hpq.out.mono ?_
          rintro e w' ⟨rfl, k2, rfl⟩
          go_wp2_with fail
          refine (HEX.out _).mono ?_
          rintro e w' ⟨rfl, k3, rfl⟩
          go_wp2_with fail
          go_ret
          exact ⟨rfl, F7.out.step (Fr.drewN _ _)⟩
    | true =>
      have hxy := hid (HXY.out rfl rfl)
      go_wp2_with fail
      refine hxy.out.mono ?_
      rintro e w' ⟨rfl, k, rfl⟩
      cases tp with
      | false =>
        go_wp2_with fail
        go_ret
        exact ⟨rfl, F7.out.step (Fr.drewN _ _)⟩
      | true =>
        cases tq with
        | false =>
          go_wp2_with fail
          go_ret
          exact ⟨rfl, F7.out.step (Fr.drewN _ _)⟩
        | true =>
          have hpq := hid (HPQ.out rfl rfl k)
          go_wp2_with fail
          refine hpq.out.mono ?_
          rintro e w' ⟨rfl, k2, rfl⟩
          go_wp2_with fail
          refine (HEX.out _).mono ?_
          rintro e w' ⟨rfl, k3, rfl⟩
          go_wp2_with fail
          go_ret
          exact ⟨rfl, F7.out.step (Fr.drewN _ _)⟩

end Go.Proofs.Ytpimjachhfnlfaa
