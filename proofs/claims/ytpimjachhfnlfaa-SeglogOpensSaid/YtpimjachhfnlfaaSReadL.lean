/-
  seglog's Read of a number that the log holds.
-/
import Derived.Test.YtpimjachhfnlfaaSSync
import Derived.Test.YtpimjachhfnlfaaSPush
namespace Go.Proofs.Ytpimjachhfnlfaa
open Go.RowKit

/-- append of bytes to a row that may be nil. -/
theorem wpList_append_vany {P : Program} {w : World} {ops : Array Oper} {rest : List Oper} {o : Oper} {a : Act} {Q : Exit → Act → World → Prop} (hgd : o.guard = none) (s x : Operand) (t : TypeId)
    (ho : o.op = .call { callee := .builtin .append, args := #[s, x], argTypes := #[t, t] })
    (e : TypeId) (i : TypeInfo) (z : Value) (size bytes : Nat) (ht : P.underlying t = some (.slice e)) (hi : P.info? e = some i) (hz : i.zero = some z)
    (hsize : i.size = size) (hby : i.bytes = bytes) (hzs : z.cells.size = size) (hsz : 0 < size)
    (v : Value) (n : Nat) (xs : List Value) (hs : a.eval s = v) (hown : w.ownsRow 0 e size v n xs)
    (ad : Addr) (m c : Nat) (news : List Value) (hx : a.eval x = .slice (some ad) m c) (hl : news.length = m * size) (hnews : ∀ j u, news[j]? = some u → w.cell? (ad.add j) = some u) (h1 : ∀ u ∈ news, u.oneCell' = true)
    (h63 : n + m ≤ maxLen) (hbytes : (n + m) * bytes ≤ 140737488355328)
    (h : ∀ v' w', Hid (w'.ownsRow 0 e size v' (n + m) (xs ++ news)) → Hid (∀ k, v'.ownBlock = some k → v.ownBlock = some k ∨ w.heap.size ≤ k) → Hid (Fr (fun k => v.ownBlock = some k) w w') → wpList P ops Q rest (a.put o.dst v') w') :
    wpList P ops Q (o :: rest) a w := by
  by_cases hm : m = 0
  · subst hm
    have hn : news = [] := List.eq_nil_of_length_eq_zero (by simpa using hl)
    subst hn
    rcases hown.2 with ⟨rfl, rfl⟩ | ⟨g, cap, cur, rfl, _, hg, hnc, hcm, hcs, htake⟩
    · refine wpList_plain hgd fun K hK => ?_
      have hrun : (Builtin.append_ #[t, t] o.type #[.slice none 0 0, .slice (some ad) 0 c]).run P w = .ok (.slice none 0 0) w := by
        simp [Builtin.append_, run_underlying ht, sizeOf, typeInfo, hi, Builtin.lenOf, Builtin.firstCells, loadCells, loadCellsFrom]
      unfold Oper.wp
      simp [execOp, ho, resolve, invoke, builtin, hs, hx, hrun, Result.andThen]
      exact hK _ _ (h _ w (by rw [List.append_nil]; exact hown) (fun k hk => .inl hk) (Fr.refl _ _))
    · refine wpList_append_fits w hgd s x t ho 0 e i size ht hi hsize g n cap xs hs hown ad 0 c [] hx hl hnews h1 (by omega) ?_
      intro w' how hgr
      exact h _ w' how (fun k hk => .inl hk) (Fr.grown hgr (fun k hk => .inl hk))
  · refine wpList_append_at w hgd s x t ho e i z size bytes ht hi hz hsize hby hzs hsz _ n xs hs hown ad m c news hx hl hnews h1 (by omega) h63 hbytes ?_
    intro g' c' w' how hg hf
    exact h _ w' how (fun k hk => by cases hk; exact hg.out) hf

/-- What the places of a record hold together. -/
def readM (m : Dv) (place : Nat) : Nat → Option (List UInt8)
  | 0 => some []
  | i + 1 => (readM m place i).bind fun out => ((m.seen (m.pos (place + i))).bind opened).map fun r => out ++ r.2

theorem opened_few {l d : List UInt8} {h : Hd} (e : opened l = some (h, d)) : d.length ≤ 496 := by
  unfold opened at e
  split at e
  · rename_i hc
    injection e with e
    injection e with e1 e2
    rw [← e2, List.length_take]
    have := hc.1
    omega
  · cases e

theorem readM_few {m : Dv} {place : Nat} : ∀ {n : Nat} {out : List UInt8}, readM m place n = some out → out.length ≤ n * 496
  | 0, out, h => by injection h with h; rw [← h]; exact Nat.le_refl _
  | n + 1, out, h => by
    unfold readM at h
    cases h1 : readM m place n with
    | none => rw [h1] at h; cases h
    | some o =>
      rw [h1] at h
      cases h2 : (m.seen (m.pos (place + n))).bind opened with
      | none => simp [h2] at h
      | some r =>
        simp only [Option.bind_some, h2, Option.map_some, Option.some.injEq] at h
        obtain ⟨l, hl⟩ : ∃ l, opened l = some r := by
          cases h3 : m.seen (m.pos (place + n)) with
          | none => rw [h3] at h2; cases h2
          | some l => rw [h3] at h2; exact ⟨l, h2⟩
        have := readM_few h1
        have h4 := opened_few (h := r.1) (d := r.2) hl
        rw [← h, List.length_append]
        omega

/-- What holds of all places holds of the first. -/
theorem readM_some {m : Dv} {place : Nat} : ∀ {n j : Nat} {out : List UInt8}, readM m place n = some out → j ≤ n → ∃ o, readM m place j = some o
  | n, j, out, h, hj => by
    induction n generalizing out with
    | zero => obtain rfl : j = 0 := by omega
              exact ⟨_, h⟩
    | succ n ih =>
      rcases Nat.lt_or_ge j (n + 1) with hlt | hge
      · unfold readM at h
        cases h1 : readM m place n with
        | none => rw [h1] at h; cases h
        | some o => exact ih o h1 (by omega)
      · obtain rfl : j = n + 1 := by omega
        exact ⟨_, h⟩

theorem readM_succ {m : Dv} {place j : Nat} {o : List UInt8} (h : readM m place (j + 1) = some o) : ∃ o1 l hd d, readM m place j = some o1 ∧ m.seen (m.pos (place + j)) = some l ∧ opened l = some (hd, d) ∧ o = o1 ++ d := by
  unfold readM at h
  cases h1 : readM m place j with
  | none => rw [h1] at h; cases h
  | some o1 =>
    rw [h1] at h
    cases h3 : m.seen (m.pos (place + j)) with
    | none => simp [h3] at h
    | some l =>
      cases h2 : opened l with
      | none => simp [h3, h2] at h
      | some r =>
        simp [h3, h2] at h
        exact ⟨o1, l, r.1, r.2, rfl, rfl, h2, h.symm⟩

theorem lrow_place {w : World} {base e size n : Nat} {v : Value} {xs : List Value} (h : w.ownsRow base e size v n xs) (hn : 0 < n) : ∃ g c, v = .slice (some ⟨g, 0, none⟩) n c ∧ Row w g e xs ∧ n ≤ c ∧ c ≤ maxLen := by
  rcases h.2 with ⟨_, h0⟩ | ⟨g, cap, cur, rfl, _, hg, hn, hm, _, ht⟩
  · omega
  · exact ⟨g, cap, rfl, ⟨cur, hg, by rw [h.1]; exact ht⟩, hn, hm⟩

theorem lreads_at {l : List (Nat × Nat)} (j : Nat) (hj : j < l.length) : (l.flatMap recCells)[j * 2]? = some (.int .i64 (l[j]).1) ∧ (l.flatMap recCells)[j * 2 + 1]? = some (.int .i64 (l[j]).2) := by
  have h0 := getElem?_flatMap_fixed l recCells 2 (fun _ _ => rfl) j 0 (by decide)
  have h1 := getElem?_flatMap_fixed l recCells 2 (fun _ _ => rfl) j 1 (by decide)
  rw [List.getElem?_eq_getElem hj] at h0 h1
  exact ⟨h0, h1⟩

set_option maxRecDepth 100000 in
set_option maxHeartbeats 4000000 in
theorem lread_ok {w0 w : World} {q p : Nat} {m : Dv} {L : Lg} (k : Nat) (h : OwnL w0 w q p m L) (h1 : L.down = false) (h2 : m.down = false) (h3 : 3 ≤ m.sure.length) (few : m.unsure.length ≤ 1099511627776) (hk : k < L.list.length) (hparts : (L.list[k]).2 ≤ 255) (out : List UInt8) (hm : readM m (L.list[k]).1 (L.list[k]).2 = some out) :
    Calls Try.prog 68 #[.pointer (some ⟨q, 0, none⟩), .int .i64 ((L.blk.first : Int) + (k : Int))] w fun e w' => Fr No w w' ∧ ∃ a n c, e = .returned (.tuple #[.slice a n c, .int .i64 0]) ∧ BytesIn w' a n out := by
  have H1 := hid (lcheck_ok h h1 h2)
  have HF := hid (fun W (f : Fr No w W) => first_any (h.next f))
  have HN := hid (next_any h)
  have HO := hid h
  have HM := hid hm
  obtain ⟨lv, hl, -⟩ := h.log
  obtain ⟨g, c, hv, hr, hnc, hcm⟩ := lrow_place hl.list (by omega)
  subst hv
  have c6 := hl.c6
  have hat := lreads_at k hk
  have r0 := hr.cell _ _ hat.1
  have r1 := hr.cell _ _ hat.2
  have e6 := (fun (o : Obj) => (Fr.alloc (S := No) w o).cell c6 id)
  have er0 := (fun (o : Obj) => (Fr.alloc (S := No) w o).cell r0 id)
  have er1 := (fun (o : Obj) => (Fr.alloc (S := No) w o).cell r1 id)
  have b1 : (L.blk.first : Int) < 1152921504606846976 := by have := h.small.first; omega
  have b2 : (L.list.length : Int) < 1099511627776 := by have := h.small.many; omega
  have hrec := h.small.recs _ (List.getElem_mem hk)
  have hki : (k : Int) < (L.list.length : Int) := by omega
  obtain ⟨x, hxx⟩ : ∃ x : Int, x = (L.blk.first : Int) + (k : Int) := ⟨_, rfl⟩
  have i1 : ¬ x < (L.blk.first : Int) := by omega
  have i2 : ¬ (L.blk.first : Int) + (L.list.length : Int) ≤ x := by omega
  have i3 : x - (L.blk.first : Int) = (k : Int) := by omega
  have i4 : x < 2305843009213693952 := by omega
  have hkw : IntKind.i64.wrap (k : Int) = (k : Int) := IntWalk.i64_in _ (by omega)
  have HPL := hid hparts
  have HTH := hid h3
  have HFEW := hid few
  have HDN := hid h2
  rw [← hxx]
  clear hxx
  obtain ⟨place, parts, hx⟩ : ∃ a b, L.list[k] = (a, b) := ⟨_, _, rfl⟩
  rw [hx] at HM HPL hparts r0 r1 hrec
  simp only [hx] at er0 er1
  have HPLACE := hid hrec.1
  clear hrec hx
  clear h h1 h2 hm hl hr hat hnc hcm hk hparts few h3 b1 b2
  go_enter Try.func68, Try.ntmps68
  go_wp2_with fail
  refine H1.out.mono ?_
  rintro e w' ⟨rfl, rfl⟩
  go_wp2_with fail
  refine (HF.out _ (Fr.refl _ _)).mono ?_
  rintro e w' ⟨rfl, rfl⟩
  go_wp2_with fail
  refine HN.out.mono ?_
  rintro e w2 ⟨rfl, k1, rfl⟩
  have F2 := hid (Fr.drewN (S := No) w' k1)
  generalize w'.drewN k1 = w2 at *
  have O2 := hid (HO.out.next F2.out)
  have c6 := F2.out.cell c6 id
  have r0 := F2.out.cell r0 id
  have r1 := F2.out.cell r1 id
  have e6 := (fun (o : Obj) => (Fr.alloc (S := No) w2 o).cell c6 id)
  have er0 := (fun (o : Obj) => (Fr.alloc (S := No) w2 o).cell r0 id)
  have er1 := (fun (o : Obj) => (Fr.alloc (S := No) w2 o).cell r1 id)
  have HF2 := hid (fun W (f : Fr No w2 W) => first_any (O2.out.next f))
  go_wp2_with fail
  go_region_held3 (fun W => W.cell? ⟨q, 6, none⟩ = some (.slice (some ⟨g, 0, none⟩) L.list.length c) ∧ W.cell? ⟨g, k * 2, none⟩ = some (.int .i64 place) ∧ W.cell? ⟨g, k * 2 + 1, none⟩ = some (.int .i64 parts))
    (first | exact ⟨by assumption, by assumption, by assumption⟩ | go_keep)
    (first
    | (go_at_call 66; refine (HF2.out _ (by first | exact Fr.refl _ _ | exact Fr.drew _ | exact Fr.alloc _ _ | exact (Fr.alloc _ _).step (Fr.drew _) | exact (Fr.drew _).step (Fr.alloc _ _))).mono ?_; rintro e w9 ⟨rfl, rfl⟩))
  all_goals
    have V3 : Hid (((w2.alloc (.cells #[.int .i64 place, .int .i64 parts] 181)).drew).heap[w2.heap.size]? = some (.cells #[.int .i64 place, .int .i64 parts] 181 (0, 0))) := (Fr.drew (S := No) _).heap0 (heap_alloc_new w2 _)
    have O3 := hid (O2.out.next ((Fr.alloc (S := No) w2 (.cells #[.int .i64 place, .int .i64 parts] 181)).step (Fr.drew _)))
    have F3 := hid (F2.out.step ((Fr.alloc (S := No) w2 (.cells #[.int .i64 place, .int .i64 parts] 181)).step (Fr.drew _)))
    generalize hvb : w2.heap.size = vb at *
    generalize (w2.alloc (.cells #[.int .i64 place, .int .i64 parts] 181)).drew = w3 at *
    clear c6 r0 r1 e6 er0 er1 HF HN H1 HF2 hvb
    have v0 := cell_of_row w3 vb 0 _ _ _ V3.out
    have v1 := cell_of_row w3 vb 1 _ _ _ V3.out
    obtain ⟨iu, hiu, hu0, hu1, hu2⟩ := info_parts info_u8
    go_wp2_with fail
    go_loopw [8, 41] (fun v i wr => ∃ (j : Nat) (o : List UInt8), j ≤ parts ∧ i = .int .i64 j ∧ Hid (readM m place j = some o) ∧ Hid (wr.ownsRow 0 5 1 v o.length (bvs o)) ∧ Hid (∀ b, v.ownBlock = some b → w3.heap.size ≤ b) ∧ Hid (Fr No w3 wr)) (fun _ i _ => parts - (intOf i).toNat)
    case atStart => exact ⟨0, [], Nat.zero_le _, rfl, rfl, World.ownsRow_nil _ _ _ _, (fun b hb => by cases hb), Fr.refl _ _⟩
    case round =>
      obtain ⟨j, o, hj, rfl, hro, hown, hnew, hf⟩ := hrel
      by_cases hlt : j < parts
      · have HLT := hid hlt
        have hj255 : j < 255 := by have : parts ≤ 255 := HPL.out; omega
        obtain ⟨o2, ho2⟩ := readM_some HM.out (show j + 1 ≤ parts from hlt)
        have HO2 := hid ho2
        obtain ⟨o1, l, hd, d, ho1, hs, hop, rfl⟩ := readM_succ ho2
        obtain rfl : o1 = o := by rw [hro.out] at ho1; injection ho1 with h; exact h.symm
        have hpc := hid (part_seen (place + j) (O3.out.next hf.out) HDN.out HTH.out HFEW.out (by have := HPLACE.out; have := HPL.out; omega) l hs (by obtain ⟨S, hd, -⟩ := O3.out.dev; exact seen_len hd.wf hs))
        rw [hop] at hpc
        have hpc : Hid (Calls Try.prog 120 #[.pointer (some ⟨q, 0, none⟩), .int .i64 ((place : Int) + (j : Int))] wr fun e w' => partPost wr (some (hd, d)) e w') := hpc.out
        have hwr : IntKind.i64.wrap ((place : Int) + (j : Int)) = (place : Int) + (j : Int) := IntWalk.i64_in _ (by have := HPLACE.out; have := HPL.out; omega)
        have hdl := hid (opened_few hop)
        have hol := hid (readM_few hro.out)
        have u0 := hf.out.cell v0 id
        have u1 := hf.out.cell v1 id
        clear hs hop ho1 ho2
        go_wp2_with fail
        refine hpc.out.mono ?_
        rintro e w4 ⟨hf4, hcase⟩
        rcases hcase with ⟨h', d', g4, c4, heq, rfl, hr4, hc4, hg4⟩ | ⟨hno, -⟩
        · injection heq with heq
          injection heq with heq1 heq2
          subst heq1 heq2
          have F4 := hid (hf.out.step hf4)
          have R4 := hid hr4
          have OW4 := hid (owns_fr hown.out hf4 (fun _ _ => id))
          have SZ := hid (Nat.le_trans hf.out.size hf4.size)
          clear hf4 hr4 hc4 hg4 u0 u1
          obtain ⟨e0, e1, e2, e3, e4⟩ := hd
          unfold Hd.val intv
          go_wp2_with (at_builtin; go_must (refine wpList_append_vany rfl (.tmp 59) (.tmp 60) 23 rfl 5 iu (.int .u8 0) 1 1 Try.underlying23 hiu hu0 hu1 hu2 rfl (by decide) u8 o1.length (bvs o1) rfl (owns_fr OW4.out (Fr.alloc w4 _) (fun _ _ => id)) ⟨g4, 0, none⟩ d.length c4 (bvs d) rfl ?n0 ?n1 (bvs_one d) ?b1 ?b2 ?_))
          case n0 => rw [bvs_len, Nat.mul_one]
          case n1 =>
            intro i u hu
            rw [Addr.add_lit, Nat.zero_add]
            exact (R4.out.fr0 (Fr.alloc w4 _)).cell _ _ hu
          case b1 => have := hdl.out; have := hol.out; have : parts ≤ 255 := HPL.out; have := HLT.out; unfold maxLen; omega
          case b2 => have := hdl.out; have := hol.out; have : parts ≤ 255 := HPL.out; have := HLT.out; omega
          intro v5 w5 how5 hnew5 hf5
          go_wp2_with fail
          go_roundw
          case rel =>
            refine ⟨j + 1, o1 ++ d, HLT.out, by go_num, HO2.out, ?_, ?_, ?_⟩
            · have := how5.out
              show World.ownsRow _ _ _ _ _ _ _
              rw [List.length_append]
              unfold bvs at this ⊢
              rw [List.map_append]
              exact this
            · intro b hb
              rcases hnew5.out b hb with h | h
              · exact hnew.out b h
              · have := SZ.out
                exact Nat.le_trans (Nat.le_trans this (Nat.le_succ _)) h
            · exact ((F4.out.step (Fr.alloc w4 _)).trans hf5.out (fun b hb => .inr (hnew.out b hb)))
          case measure => have := HLT.out; simp [intOf]; omega
        · cases hno
      · have hjp : j = parts := by omega
        obtain rfl : o = out := by have h1 := hro.out; rw [hjp, HM.out] at h1; injection h1 with h; exact h.symm
        have u1 := hf.out.cell v1 id
        go_wp2_with fail
        go_ret2
        refine ⟨F3.out.step hf.out, ?_⟩
        rcases hown.out.2 with ⟨rfl, h0⟩ | ⟨b, cap, cur, rfl, -, hb, hn', hm', hs', ht'⟩
        · have h00 : o = [] := List.eq_nil_of_length_eq_zero h0
          subst h00
          exact ⟨none, 0, 0, rfl, rfl, fun _ => rfl, fun ad h => by cases h⟩
        · refine ⟨_, _, _, rfl, rfl, (fun h => by cases h), fun ad had i u hu => ?_⟩
          cases had
          rw [Addr.add_lit, Nat.zero_add]
          have hrow : Row wr b 5 (bvs o) := ⟨cur, hb, by rw [bvs_len]; rw [Nat.mul_one] at ht'; exact ht'⟩
          exact hrow.cell _ _ hu

end Go.Proofs.Ytpimjachhfnlfaa
