/-
  wname.Writer in memory, and its calls. No condition but on the sizes.
-/
import Derived.Test.YtpimjachhfnlfaaWn
namespace Go.Proofs.Ytpimjachhfnlfaa
open Go.RowKit Go.Maps

/-- Where rests stand, the eldest first. -/
abbrev Rests := List (List UInt8 × Nat)

/-- The map of the rests, as data. -/
def restsD (rs : Rests) : DataW Unit := rs.foldl (fun D p => D.put (.string p.1) (.lit (.int .i64 (p.2 : Int)))) (.map [])

/-- The first place of a rest. -/
def lookR (rs : Rests) (r : List UInt8) : Option Nat := (rs.find? fun p => p.1 == r).map (·.2)

/-- No rest stands twice. -/
def Once (rs : Rests) : Prop := (rs.map (·.1)).Nodup

theorem restsD_snoc (rs : Rests) (p : List UInt8 × Nat) : restsD (rs ++ [p]) = (restsD rs).put (.string p.1) (.lit (.int .i64 (p.2 : Int))) := by
  unfold restsD; rw [List.foldl_append]; rfl

theorem restsD_map (rs : Rests) : IsMap (restsD rs) := by
  unfold restsD
  have : ∀ (rs : Rests) (D : DataW Unit), IsMap D → IsMap (rs.foldl (fun D p => D.put (.string p.1) (.lit (.int .i64 (p.2 : Int)))) D) := by
    intro rs
    induction rs with
    | nil => intro D h; exact h
    | cons p rs ih => intro D h; exact ih _ (h.put _ _)
  exact this rs _ isMap_empty

theorem lookR_snoc (rs : Rests) (p : List UInt8 × Nat) (r : List UInt8) : lookR (rs ++ [p]) r = match lookR rs r with | some n => some n | none => if p.1 = r then some p.2 else none := by
  unfold lookR
  rw [List.find?_append]
  cases h : rs.find? (fun p => p.1 == r) with
  | some q => simp
  | none =>
    by_cases e : p.1 = r
    · simp [e]
    · have : (p.1 == r) = false := beq_eq_false_iff_ne.2 e
      simp [this, e]

theorem once_snoc {rs : Rests} {p : List UInt8 × Nat} (h : Once rs) (hn : lookR rs p.1 = none) : Once (rs ++ [p]) := by
  unfold Once lookR at *
  rw [List.map_append, List.nodup_append]
  refine ⟨h, by simp, ?_⟩
  intro a ha b hb
  simp at hb
  subst hb
  rw [List.mem_map] at ha
  obtain ⟨q, hq, rfl⟩ := ha
  intro e
  rw [Option.map_eq_none_iff, List.find?_eq_none] at hn
  exact hn q hq (by simpa using e)

theorem mem_lookR {rs : Rests} {p : List UInt8 × Nat} (h : p ∈ rs) : lookR rs p.1 ≠ none := by
  unfold lookR
  intro e
  rw [Option.map_eq_none_iff, List.find?_eq_none] at e
  exact e p h (by simp)

theorem snoc_ind {α : Type} {Q : List α → Prop} (h0 : Q []) (h1 : ∀ l a, Q l → Q (l ++ [a])) (l : List α) : Q l := by
  have : ∀ l : List α, Q l.reverse := by
    intro l
    induction l with
    | nil => exact h0
    | cons a l ih => rw [List.reverse_cons]; exact h1 _ _ ih
  have h := this l.reverse
  rwa [List.reverse_reverse] at h

/-- What the map tells of a rest. -/
theorem restsD_look : ∀ (rs : Rests), Once rs → ∀ r, (lookR rs r = none → Maps.has (restsD rs) (.string r) = false ∧ (restsD rs).atKey (.string r) (.lit (.int .i64 0)) = .lit (.int .i64 0)) ∧
    (∀ n, lookR rs r = some n → Maps.has (restsD rs) (.string r) = true ∧ (restsD rs).atKey (.string r) (.lit (.int .i64 0)) = .lit (.int .i64 (n : Int))) := by
  intro rs
  refine snoc_ind (Q := fun rs => Once rs → ∀ r, (lookR rs r = none → Maps.has (restsD rs) (.string r) = false ∧ (restsD rs).atKey (.string r) (.lit (.int .i64 0)) = .lit (.int .i64 0)) ∧ (∀ n, lookR rs r = some n → Maps.has (restsD rs) (.string r) = true ∧ (restsD rs).atKey (.string r) (.lit (.int .i64 0)) = .lit (.int .i64 (n : Int)))) ?_ ?_ rs
  · intro _ r
    refine ⟨fun _ => ⟨rfl, rfl⟩, fun n h => ?_⟩
    cases h
  · intro rs p ih ho r
    have ho1 : Once rs := by
      unfold Once at ho ⊢
      rw [List.map_append, List.nodup_append] at ho
      exact ho.1
    have hp : lookR rs p.1 = none := by
      cases h : lookR rs p.1 with
      | none => rfl
      | some n =>
        unfold lookR at h
        obtain ⟨q, hq, rfl⟩ := Option.map_eq_some_iff.1 h
        have hm := List.mem_of_find?_eq_some hq
        have he : q.1 = p.1 := by have := List.find?_some hq; simpa using this
        unfold Once at ho
        rw [List.map_append, List.nodup_append] at ho
        exact absurd he (ho.2.2 q.1 (List.mem_map_of_mem hm) p.1 (by simp))
    obtain ⟨i1, i2⟩ := ih ho1 r
    rw [lookR_snoc, restsD_snoc]
    by_cases e : p.1 = r
    · subst e
      rw [hp, if_pos rfl]
      refine ⟨fun h => by simp at h, fun n h => ?_⟩
      simp at h
      subst h
      have hk : WideAt.IsKeyLit (.string p.1) := trivial
      exact ⟨has_put_same (restsD_map rs) hk _, atKey_put_same (restsD_map rs) hk _ _⟩
    · have hne : (Lit.string r) ≠ .string p.1 := by
        intro h; injection h with h; exact e h.symm
      rw [has_put_other hne, atKey_put_other hne, if_neg e]
      refine ⟨fun h => ?_, fun n h => ?_⟩
      · cases hl : lookR rs r with
        | none => exact i1 hl
        | some n => rw [hl] at h; simp at h
      · cases hl : lookR rs r with
        | none => rw [hl] at h; simp at h
        | some n' => rw [hl] at h; simp at h; subst h; exact i2 _ hl

/-- A block such as a writer is written in. -/
def PT (w : World) (k : Nat) : Prop := (∃ cur f, w.heap[k]? = some (.cells cur 5 f)) ∨ (∃ cur f, w.heap[k]? = some (.cells cur 240 f)) ∨ ∃ es c, w.heap[k]? = some (.map es c)

/-- New blocks such as a writer is written in. -/
def PW (w0 w : World) : Nat → Prop := fun k => w0.heap.size ≤ k ∧ PT w k

theorem Fr.pws {w0 a b c : World} (h : Fr (PW w0 a) a b) (k : Fr (PW w0 b) b c) : Fr (PW w0 a) a c := by
  refine h.trans k (fun i hi => ?_)
  by_cases hlt : i < a.heap.size
  · refine .inl ?_
    by_cases hS : PW w0 a i
    · exact hS
    · refine ⟨hi.1, ?_⟩
      have e := h.block i hlt hS
      rcases hi.2 with ⟨cur, f, hc⟩ | ⟨cur, f, hc⟩ | ⟨es, f, hc⟩
      · rw [e] at hc; exact .inl ⟨_, _, hc⟩
      · rw [e] at hc; exact .inr (.inl ⟨_, _, hc⟩)
      · rw [e] at hc; exact .inr (.inr ⟨_, _, hc⟩)
  · exact .inr (by omega)

/-- The writer at p, of the call's own since w0: its bytes, its rests. -/
structure Pen (w0 w : World) (p : Nat) (l : List UInt8) (rs : Rests) : Prop where
  ex : ∃ v mb, w.heap[p]? = some (.cells #[v, .map (some mb)] 240 (0, 0)) ∧ w.ownsRow w0.heap.size 5 1 v l.length (bvs l) ∧ w.ownsMap Try.prog 9 (plainElem Try.prog 3) mb rs.length (restsD rs) ∧ w0.heap.size ≤ p ∧ w0.heap.size ≤ mb
  once : Once rs
  small : ∀ q ∈ rs, q.2 < 16384

theorem Pen.fr {w0 w w' : World} {p : Nat} {l : List UInt8} {rs : Rests} {S : Nat → Prop} (h : Pen w0 w p l rs) (f : Fr S w w') (hn : ∀ k, PW w0 w k → ¬ S k) : Pen w0 w' p l rs := by
  obtain ⟨⟨v, mb, hp, hr, hm, h1, h2⟩, ho, hs⟩ := h
  refine ⟨⟨v, mb, f.heap hp (hn _ ⟨h1, .inr (.inl ⟨_, _, hp⟩)⟩), owns_fr hr f (fun k hk => ?_), ?_, h1, h2⟩, ho, hs⟩
  · refine hn k ⟨(hr.lt k hk).1, .inl ?_⟩
    rcases hr.2 with ⟨rfl, _⟩ | ⟨g, cap, cur, rfl, _, hg, _⟩
    · cases hk
    · cases hk; exact ⟨_, _, hg⟩
  · obtain ⟨es, clock, hb, F, hsz, hD⟩ := hm
    exact ⟨es, clock, f.heap hb (hn _ ⟨h2, .inr (.inr ⟨_, _, hb⟩)⟩), F, hsz, hD⟩

theorem Pen.fr0 {w0 w w' : World} {p : Nat} {l : List UInt8} {rs : Rests} (h : Pen w0 w p l rs) (f : Fr No w w') : Pen w0 w' p l rs := h.fr f fun _ _ => id

theorem run_make_rests (w : World) : (Instr.makeMap 238 none).run Try.prog w = .ok (.map (some w.heap.size)) (w.alloc (.map #[] 0)) := by
  simp [Instr.makeMap]

theorem pen_new (w0 w : World) (hf : w0.heap.size ≤ w.heap.size) : Calls Try.prog 150 #[] w fun e w' => ∃ p, e = .returned (.pointer (some ⟨p, 0, none⟩)) ∧ Pen w0 w' p [] [] ∧ Fr No w w' ∧ w.heap.size ≤ p := by
  have hmk := run_make_rests
  go_enter Try.func150, Try.ntmps150
  go_wp2_with fail
  go_ret
  refine ⟨_, rfl, ⟨⟨.slice none 0 0, w.heap.size, ?_, World.ownsRow_nil _ _ _ _, ?_, by omega, hf⟩, List.nodup_nil, (fun q hq => by cases hq)⟩, (Fr.alloc _ _).step (Fr.alloc _ _), by omega⟩
  · have := heap_alloc_new (w.alloc (.map #[] 0)) (.cells #[.slice none 0 0, .map (some w.heap.size)] 240)
    rwa [World.size_alloc] at this
  · exact (World.ownsMap_made _ _ _ _).alloc _

set_option maxRecDepth 100000 in
theorem pen_raw {w0 w : World} {p : Nat} {l : List UInt8} {rs : Rests} (a : Option Addr) (n c : Nat) (b : List UInt8) (h : Pen w0 w p l rs) (hf : w0.heap.size ≤ w.heap.size) (hb : BytesIn w a n b) (hnil : a = none → c = 0) (hn : l.length + n ≤ 140737488355328) :
    Calls Try.prog 182 #[.pointer (some ⟨p, 0, none⟩), .slice a n c] w fun e w' => e = .returned (.tuple #[]) ∧ Pen w0 w' p (l ++ b) rs ∧ Fr (PW w0 w) w w' := by
  obtain ⟨iu, hiu, hu0, hu1, hu2⟩ := info_parts info_u8
  obtain ⟨⟨v, mb, hp, hr, hm, h1, h2⟩, ho, hs⟩ := h
  have c0 : w.cell? ⟨p, 0, none⟩ = some v := cell_of_row w p 0 _ _ _ hp
  have f0 : w.frozen? ⟨p, 0, none⟩ = false := frozen_of_row w p 0 _ _ hp
  have HP := hid hp
  have HR := hid hr
  have HM := hid hm
  have HB := hid hb
  have HNL := hid hnil
  have hvp : ∀ k, v.ownBlock = some k → k ≠ p := owns_ne hr hp (by decide)
  have hvt : ∀ k, v.ownBlock = some k → PW w0 w k := by
    intro k hk
    refine ⟨(hr.lt k hk).1, .inl ?_⟩
    rcases hr.2 with ⟨rfl, _⟩ | ⟨g, cap, cur, rfl, _, hg, _⟩
    · cases hk
    · cases hk; exact ⟨_, _, hg⟩
  have HV := hid hvp
  have HVT := hid hvt
  -- what stands behind the append
  have fin : ∀ (v' : Value) (w1 : World), w1.ownsRow w0.heap.size 5 1 v' (l.length + n) (bvs l ++ bvs b) → Fr (fun k => v.ownBlock = some k) w w1 →
      Pen w0 (w1.setCell ⟨p, 0, none⟩ v') p (l ++ b) rs ∧ Fr (PW w0 w) w (w1.setCell ⟨p, 0, none⟩ v') ∧ w1.cell? ⟨p, 0, none⟩ = some v ∧ w1.frozen? ⟨p, 0, none⟩ = false := by
    intro v' w1 hown f
    have hp1 := f.heap HP.out (fun e => HV.out _ e rfl)
    have f2 : Fr (· = p) w1 (w1.setCell ⟨p, 0, none⟩ v') := Fr.set1 _ _ _ _
    refine ⟨⟨⟨v', mb, ?_, ?_, ?_, h1, h2⟩, ho, hs⟩, ?_, cell_of_row w1 p 0 _ _ _ hp1, frozen_of_row w1 p 0 _ _ hp1⟩
    · rw [heap_setCell_same _ _ _ _ _ _ hp1]; simp
    · have := owns_fr hown f2 (owns_ne hown hp1 (by decide))
      have e : (l ++ b).length = l.length + n := by rw [List.length_append, HB.out.len]
      rw [e]
      unfold bvs at *
      rw [List.map_append]
      exact this
    · obtain ⟨es, clock, hb', F, hsz, hD⟩ := HM.out
      have hmp : mb ≠ p := by
        intro e; rw [e, HP.out] at hb'; cases hb'
      have hmv : ¬ v.ownBlock = some mb := by
        intro e
        rcases HR.out.2 with ⟨hv, _⟩ | ⟨g, cap, cur, hv, _, hg, _⟩
        · rw [hv] at e; cases e
        · rw [hv] at e; cases e; rw [hg] at hb'; cases hb'
      exact ⟨es, clock, f2.heap (f.heap hb' hmv) hmp, F, hsz, hD⟩
    · refine (f.mono fun i _ hi => HVT.out i hi).trans (f2.mono (T := PW w0 w) fun i _ hi => ?_) (fun i hi => .inl hi)
      rw [hi]
      exact ⟨h1, .inr (.inl ⟨_, _, HP.out⟩)⟩
  have FIN := hid fin
  clear hp hr hm hb hnil hvp hvt fin
  cases a with
  | none =>
    have h0 : n = 0 := HB.out.nil rfl
    subst h0
    have hc0 : c = 0 := HNL.out rfl
    subst hc0
    have hbn : b = [] := List.eq_nil_of_length_eq_zero HB.out.len
    subst hbn
    obtain ⟨vo, vn, vc, rfl⟩ : ∃ vo vn vc, v = .slice vo vn vc := by
      rcases HR.out.2 with ⟨h, _⟩ | ⟨g, cap, cur, h, _⟩
      · exact ⟨_, _, _, h⟩
      · exact ⟨_, _, _, h⟩
    obtain ⟨q1, q2, q3, q4⟩ := FIN.out _ w (by simpa [bvs] using HR.out) (Fr.refl _ _)
    rw [List.append_nil] at q1
    have Q1 := hid q1
    have Q2 := hid q2
    clear q1 q2
    go_enter Try.func182, Try.ntmps182
    go_wp2_with (at_builtin; go_must (refine wpList_append_own_none rfl (.tmp 10) (.tmp 11) 23 rfl w0.heap.size 5 iu 1 Try.underlying23 hiu (.slice vo vn vc) l.length (bvs l) rfl HR.out rfl ?_))
    go_wp2_with fail
    go_end0
    exact ⟨rfl, Q1.out, Q2.out⟩
  | some ad =>
    go_enter Try.func182, Try.ntmps182
    go_wp2_with (at_builtin; go_must (refine wpList_append_own _ rfl (.tmp 10) (.tmp 11) 23 rfl w0.heap.size 5 iu (.int .u8 0) 1 1 Try.underlying23 hiu hu0 hu1 hu2 rfl (by decide) v l.length (bvs l) rfl HR.out ad n c (bvs b) rfl (by rw [bvs_len, HB.out.len, Nat.mul_one]) ?c1 (bvs_one b) ?c3 ?c4 hf ?_))
    case c1 => exact HB.out.cell ad rfl
    case c3 => unfold maxLen; omega
    case c4 => omega
    intro v1 w1 hown1 hg1 hv1
    obtain ⟨vo, vn, vc, rfl⟩ : ∃ vo vn vc, v1 = .slice vo vn vc := by
      rcases hown1.2 with ⟨h, _⟩ | ⟨g, cap, cur, h, _⟩
      · exact ⟨_, _, _, h⟩
      · exact ⟨_, _, _, h⟩
    obtain ⟨q1, q2, q3, q4⟩ := FIN.out _ w1 hown1 (Fr.grown hg1 (fun k hk => .inl hk))
    have Q1 := hid q1
    have Q2 := hid q2
    clear hown1 hg1 hv1 q1 q2 c0 f0
    go_wp2_with fail
    go_end0
    exact ⟨rfl, Q1.out, Q2.out⟩

set_option maxRecDepth 100000 in
theorem pen_num {w0 w : World} {p : Nat} {l : List UInt8} {rs : Rests} (x s : Nat) (h : Pen w0 w p l rs) (hf : w0.heap.size ≤ w.heap.size) (h1 : 1 ≤ s) (h2 : s ≤ 7) (hx : x < 2 ^ (8 * s)) (hn : l.length ≤ 1099511627776) :
    Calls Try.prog 151 #[.pointer (some ⟨p, 0, none⟩), .int .i64 x, .int .i64 s] w fun e w' => e = .returned (.tuple #[]) ∧ Pen w0 w' p (l ++ be s x) rs ∧ Fr (PW w0 w) w w' := by
  have H1 := hid (put_num none 0 0 [] x s w (BytesIn.nothing w) (by decide) h1 h2 hx)
  have HP := hid h
  clear h hx
  go_enter Try.func151, Try.ntmps151
  go_wp2_with fail
  refine H1.out.mono ?_
  rintro e w1 ⟨g, c, rfl, ho, hg, hf1⟩
  rw [List.nil_append, Nat.zero_add] at ho
  rw [Nat.zero_add]
  have hb : BytesIn w1 (some ⟨g, 0, none⟩) s (be s x) := (row_of_owns ho).bytes (be_len s x)
  have F1 := hid hf1
  have H2 := hid (pen_raw (w0 := w0) (some ⟨g, 0, none⟩) s c (be s x) (HP.out.fr0 hf1) (Nat.le_trans hf hf1.size) hb (fun e => by cases e) (by omega))
  clear ho hg hf1 hb
  go_wp2_with fail
  refine H2.out.mono ?_
  rintro e w2 ⟨rfl, hp2, hf2⟩
  have P2 := hid hp2
  have F2 := hid (Fr.pws (w0 := w0) F1.out.any hf2)
  clear hp2 hf2
  go_wp2_with fail
  go_end0
  exact ⟨rfl, P2.out, F2.out⟩

set_option maxRecDepth 100000 in
/-- The bytes so far, as a copy. -/
theorem pen_bytes {w0 w : World} {p : Nat} {l : List UInt8} {rs : Rests} (h : Pen w0 w p l rs) (hn : l.length ≤ 1099511627776) :
    Calls Try.prog 154 #[.pointer (some ⟨p, 0, none⟩)] w fun e w' => ∃ a n c, e = .returned (.slice a n c) ∧ n = l.length ∧ BytesIn w' a n l ∧ (a = none → c = 0) ∧ Fr No w w' := by
  obtain ⟨⟨v, mb, hp, hr, hm, h1, h2⟩, ho, hs⟩ := h
  have c0 : w.cell? ⟨p, 0, none⟩ = some v := cell_of_row w p 0 _ _ _ hp
  rcases hr.2 with ⟨rfl, h0⟩ | ⟨g, cap, cur, rfl, _⟩
  · have hl : l = [] := List.eq_nil_of_length_eq_zero h0
    subst hl
    have H1 := hid (cloneb_nil w)
    clear hp hr hm h1 h2 ho hs h0
    go_enter Try.func154, Try.ntmps154
    go_wp2_with fail
    refine H1.out.mono ?_
    rintro e w' ⟨rfl, rfl⟩
    go_wp2_with fail
    go_ret
    exact ⟨none, 0, 0, rfl, rfl, BytesIn.nothing _, fun _ => rfl, Fr.refl _ _⟩
  · obtain ⟨n, hnn⟩ : ∃ n, n = l.length := ⟨_, rfl⟩
    rw [← hnn] at c0 hr hn
    have hrow := row_of_owns hr
    have H1 := hid (cloneb_any ⟨g, 0, none⟩ l n cap w hnn.symm (by omega) (fun j u hj => by rw [Addr.add_lit, Nat.zero_add]; exact hrow.cell j u hj))
    have HN := hid hnn
    clear hp hr hm h1 h2 ho hs hrow hnn
    go_enter Try.func154, Try.ntmps154
    go_wp2_with fail
    refine H1.out.mono ?_
    rintro e w1 ⟨g1, c1, rfl, hr1, hc1, hg1, hf1⟩
    have HR1 := hid hr1
    have HF1 := hid hf1
    clear hr1 hc1 hg1 hf1
    go_wp2_with fail
    go_ret
    exact ⟨some ⟨g1, 0, none⟩, n, c1, rfl, HN.out, HR1.out.bytes HN.out.symm, (fun e => by cases e), HF1.out⟩

end Go.Proofs.Ytpimjachhfnlfaa
