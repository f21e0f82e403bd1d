/-
  Two devices side by side: the program's and the document's. No condition but that few writes are open.
-/
import Derived.Test.YtpimjachhfnlfaaRAny
namespace Go.Proofs.Ytpimjachhfnlfaa
open Go.RowKit

/-- The program's device m1 at p, the document's m2 at q, both of the call's own, apart from each other and from G. -/
structure Two (w0 w : World) (G : Nat → Prop) (p : Nat) (m1 : Dv) (q : Nat) (m2 : Dv) : Prop where
  ex : ∃ S T, Dev w S p m1 ∧ RDev w T q m2 ∧ (∀ k, S k → ¬ T k ∧ ¬ G k ∧ w0.heap.size ≤ k) ∧ (∀ k, T k → ¬ G k ∧ w0.heap.size ≤ k)
  fr : Fr No w0 w
  old : ∀ k, G k → k < w.heap.size

/-- New blocks but those of G. -/
def Nw (w0 : World) (G : Nat → Prop) : Nat → Prop := fun k => w0.heap.size ≤ k ∧ ¬ G k

theorem Two.next {w0 w w' : World} {G : Nat → Prop} {p q : Nat} {m1 m2 : Dv} (h : Two w0 w G p m1 q m2) (f : Fr No w w') : Two w0 w' G p m1 q m2 := by
  obtain ⟨⟨S, T, hd, hr, h1, h2⟩, hf, hg⟩ := h
  exact ⟨⟨S, T, hd.fr0 f, hr.fr f (fun _ _ => id), h1, h2⟩, hf.step f, fun k hk => Nat.lt_of_lt_of_le (hg k hk) f.size⟩

/-- A new block beside. -/
theorem Two.alloc {w0 w : World} {G : Nat → Prop} {p q : Nat} {m1 m2 : Dv} (h : Two w0 w G p m1 q m2) (o : Obj) : Two w0 (w.alloc o) (· = w.heap.size) p m1 q m2 := by
  obtain ⟨⟨S, T, hd, hr, h1, h2⟩, hf, hg⟩ := h
  have f := Fr.alloc (S := No) w o
  refine ⟨⟨S, T, hd.fr0 f, hr.fr f (fun _ _ => id), fun k hk => ⟨(h1 k hk).1, ?_, (h1 k hk).2.2⟩, fun k hk => ⟨?_, (h2 k hk).2⟩⟩, hf.step f, ?_⟩
  · have := hd.lt k hk; omega
  · have := hr.lt k hk; omega
  · intro k hk; simp; omega

theorem Two.forget {w0 w : World} {G : Nat → Prop} {p q : Nat} {m1 m2 : Dv} (h : Two w0 w G p m1 q m2) : Two w0 w No p m1 q m2 := by
  obtain ⟨⟨S, T, hd, hr, h1, h2⟩, hf, hg⟩ := h
  exact ⟨⟨S, T, hd, hr, fun k hk => ⟨(h1 k hk).1, id, (h1 k hk).2.2⟩, fun k hk => ⟨id, (h2 k hk).2⟩⟩, hf, fun _ h => h.elim⟩

section
variable {w0 w : World} {G : Nat → Prop} {p q : Nat} {m1 m2 : Dv}

/-- The program's device has done something. -/
theorem two_left {S T S' : Nat → Prop} {w' : World} {m1' : Dv} {p' : Nat} (hr : RDev w T q m2) (h1 : ∀ k, S k → ¬ T k ∧ ¬ G k ∧ w0.heap.size ≤ k) (h2 : ∀ k, T k → ¬ G k ∧ w0.heap.size ≤ k) (hf : Fr No w0 w) (hg : ∀ k, G k → k < w.heap.size)
    (hd' : Dev w' S' p' m1') (f : Fr S w w') (hS : ∀ k, S' k → S k ∨ w.heap.size ≤ k) : Two w0 w' G p' m1' q m2 ∧ Fr (Nw w0 G) w w' := by
  refine ⟨⟨⟨S', T, hd', hr.fr f (fun k hk hs => (h1 k hs).1 hk), fun k hk => ?_, h2⟩, hf.trans f (fun i hi => .inr (h1 i hi).2.2), fun k hk => Nat.lt_of_lt_of_le (hg k hk) f.size⟩, f.mono fun k _ hk => ⟨(h1 k hk).2.2, (h1 k hk).2.1⟩⟩
  rcases hS k hk with h | h
  · exact h1 k h
  · refine ⟨fun ht => ?_, fun hgk => ?_, Nat.le_trans hf.size h⟩
    · have := hr.lt k ht; omega
    · have := hg k hgk; omega

/-- The document's device has done something. -/
theorem two_right {S T T' : Nat → Prop} {w' : World} {m2' : Dv} (hd : Dev w S p m1) (h1 : ∀ k, S k → ¬ T k ∧ ¬ G k ∧ w0.heap.size ≤ k) (h2 : ∀ k, T k → ¬ G k ∧ w0.heap.size ≤ k) (hf : Fr No w0 w) (hg : ∀ k, G k → k < w.heap.size)
    (hr' : RDev w' T' q m2') (f : Fr T w w') (hT : ∀ k, T' k → T k ∨ w.heap.size ≤ k) : Two w0 w' G p m1 q m2' ∧ Fr (Nw w0 G) w w' := by
  refine ⟨⟨⟨S, T', hd.fr f (fun k hk ht => (h1 k hk).1 ht), hr', fun k hk => ⟨fun ht => ?_, (h1 k hk).2⟩, fun k hk => ?_⟩, hf.trans f (fun i hi => .inr (h2 i hi).2), fun k hk => Nat.lt_of_lt_of_le (hg k hk) f.size⟩, f.mono fun k _ hk => ⟨(h2 k hk).2, (h2 k hk).1⟩⟩
  · rcases hT k ht with h | h
    · exact (h1 k hk).1 h
    · have := hd.lt k hk; omega
  · rcases hT k hk with h | h
    · exact h2 k h
    · refine ⟨fun hgk => ?_, Nat.le_trans hf.size h⟩
      have := hg k hgk; omega

theorem two_write (pos : Int) (a : Option Addr) (n c : Nat) (b : List UInt8) (h : Two w0 w G p m1 q m2) (few : m1.unsure.length < 1099511627776) (hb : BytesIn w a n b) :
    Calls Try.prog 20 #[.pointer (some ⟨p, 0, none⟩), .int .i64 pos, .slice a n c] w fun e w' => e = .returned (.int .i64 (m1.write pos b).2) ∧ Two w0 w' G p (m1.write pos b).1 q m2 ∧ Fr (Nw w0 G) w w' := by
  obtain ⟨⟨S, T, hd, hr, h1, h2⟩, hf, hg⟩ := h
  refine (write_any pos a n c b w hd few hb).mono fun e w' hh => ?_
  exact ⟨hh.1, two_left hr h1 h2 hf hg hh.2.1 hh.2.2.ofWr (fun k hk => hk.imp id (·.1))⟩

theorem two_sync (h : Two w0 w G p m1 q m2) (few : m1.unsure.length ≤ 1099511627776) :
    Calls Try.prog 21 #[.pointer (some ⟨p, 0, none⟩)] w fun e w' => e = .returned (.int .i64 m1.sync.2) ∧ Two w0 w' G p m1.sync.1 q m2 ∧ Fr (Nw w0 G) w w' := by
  obtain ⟨⟨S, T, hd, hr, h1, h2⟩, hf, hg⟩ := h
  refine (sync_any w hd few).mono fun e w' hh => ?_
  exact ⟨hh.1, two_left hr h1 h2 hf hg hh.2.1 hh.2.2.ofWr (fun k hk => .inl hk)⟩

theorem two_limit (n : Nat) (h : Two w0 w G p m1 q m2) (hn : n ≤ 9223372036854775807) :
    Calls Try.prog 29 #[.pointer (some ⟨p, 0, none⟩), .int .i64 n] w fun e w' => e = .returned (.int .i64 0) ∧ Two w0 w' G p { m1 with limit := n } q m2 ∧ Fr (Nw w0 G) w w' := by
  obtain ⟨⟨S, T, hd, hr, h1, h2⟩, hf, hg⟩ := h
  refine (limit_any n w hd hn).mono fun e w' hh => ?_
  exact ⟨hh.1, two_left hr h1 h2 hf hg hh.2.1 hh.2.2 (fun k hk => .inl hk)⟩

theorem two_crash (mask torn : Nat) (h : Two w0 w G p m1 q m2) (few : m1.unsure.length ≤ 1099511627776) (hm : mask < 18446744073709551616) (ht : torn < 18446744073709551616) :
    Calls Try.prog 22 #[.pointer (some ⟨p, 0, none⟩), .int .u64 mask, .int .u64 torn] w fun e w' => e = .returned (.int .i64 0) ∧ Two w0 w' G p (m1.crash mask torn) q m2 ∧ Fr (Nw w0 G) w w' := by
  obtain ⟨⟨S, T, hd, hr, h1, h2⟩, hf, hg⟩ := h
  refine (crash_any mask torn w hd few hm ht).mono fun e w' hh => ?_
  exact ⟨hh.1, two_left hr h1 h2 hf hg hh.2.1 hh.2.2.ofWr (fun k hk => .inl hk)⟩

theorem two_copy (h : Two w0 w G p m1 q m2) (few : m1.unsure.length < 1099511627776) :
    Calls Try.prog 31 #[.pointer (some ⟨p, 0, none⟩)] w fun e w' => ∃ p2 c sp, e = .returned (.pointer (some ⟨p2, 0, none⟩)) ∧ Two w0 w' G p2 { m1 with cap := c, spare := sp } q m2 ∧ Fr (Nw w0 G) w w' := by
  obtain ⟨⟨S, T, hd, hr, h1, h2⟩, hf, hg⟩ := h
  refine (copy_any w hd few).mono fun e w' hh => ?_
  obtain ⟨p2, c, sp, he, hd', f⟩ := hh
  exact ⟨p2, c, sp, he, two_left hr h1 h2 hf hg hd' f.any (fun k hk => .inr hk.1)⟩

theorem two_rwrite (pos : Int) (a : Option Addr) (n c : Nat) (b : List UInt8) (h : Two w0 w G p m1 q m2) (few : m2.unsure.length < 1099511627776) (hb : BytesIn w a n b) :
    Calls Try.prog 27 #[.pointer (some ⟨q, 0, none⟩), .int .i64 pos, .slice a n c] w fun e w' => e = .returned (.int .i64 (m2.write pos b).2) ∧ Two w0 w' G p m1 q (m2.write pos b).1 ∧ Fr (Nw w0 G) w w' := by
  obtain ⟨⟨S, T, hd, hr, h1, h2⟩, hf, hg⟩ := h
  refine (rwrite_any pos a n c b hr few hb).mono fun e w' hh => ?_
  exact ⟨hh.1, two_right hd h1 h2 hf hg hh.2.1 hh.2.2 (fun k hk => hk.imp id (·.1))⟩

theorem two_rsync (h : Two w0 w G p m1 q m2) (few : m2.unsure.length ≤ 1099511627776) :
    Calls Try.prog 28 #[.pointer (some ⟨q, 0, none⟩)] w fun e w' => e = .returned (.int .i64 m2.sync.2) ∧ Two w0 w' G p m1 q m2.sync.1 ∧ Fr (Nw w0 G) w w' := by
  obtain ⟨⟨S, T, hd, hr, h1, h2⟩, hf, hg⟩ := h
  refine (rsync_any hr few).mono fun e w' hh => ?_
  exact ⟨hh.1, two_right hd h1 h2 hf hg hh.2.1 hh.2.2 (fun k hk => .inl hk)⟩

theorem two_rcrash (mask torn : Nat) (h : Two w0 w G p m1 q m2) (few : m2.unsure.length ≤ 1099511627776) :
    Calls Try.prog 30 #[.pointer (some ⟨q, 0, none⟩), .int .u64 mask, .int .u64 torn] w fun e w' => e = .returned (.tuple #[]) ∧ Two w0 w' G p m1 q (m2.crash mask torn) ∧ Fr (Nw w0 G) w w' := by
  obtain ⟨⟨S, T, hd, hr, h1, h2⟩, hf, hg⟩ := h
  refine (rcrash_any mask torn hr few).mono fun e w' hh => ?_
  exact ⟨hh.1, two_right hd h1 h2 hf hg hh.2.1 hh.2.2 (fun k hk => hk.imp id (·.1))⟩

theorem two_rlimit (n : Nat) (h : Two w0 w G p m1 q m2) (hn : n ≤ 9223372036854775807) :
    Two w0 (w.setCell ⟨q, 2, none⟩ (.int .i64 n)) G p m1 q { m2 with limit := n } ∧ Fr (Nw w0 G) w (w.setCell ⟨q, 2, none⟩ (.int .i64 n)) ∧ (∃ z, w.cell? ⟨q, 2, none⟩ = some (.int .i64 z)) ∧ w.frozen? ⟨q, 2, none⟩ = false := by
  obtain ⟨⟨S, T, hd, hr, h1, h2⟩, hf, hg⟩ := h
  have hh := hr.limit n hn
  have := two_right hd h1 h2 hf hg hh.1 hh.2.1 (fun k hk => .inl hk)
  exact ⟨this.1, this.2, hh.2.2⟩

theorem two_alike (pos : Int) (h : Two w0 w G p m1 q m1) (few : m1.unsure.length ≤ 1099511627776) :
    Calls Try.prog 34 #[.pointer (some ⟨p, 0, none⟩), .pointer (some ⟨q, 0, none⟩), .int .i64 pos] w fun e w' => e = .returned (.bool true) ∧ Fr No w w' := by
  obtain ⟨⟨S, T, hd, hr, h1, h2⟩, hf, hg⟩ := h
  exact alike_any pos hd hr few

theorem two_down (h : Two w0 w G p m1 q m2) : Calls Try.prog 32 #[.pointer (some ⟨p, 0, none⟩)] w fun e w' => e = .returned (.bool m1.down) ∧ w' = w := by
  obtain ⟨⟨S, T, hd, hr, h1, h2⟩, hf, hg⟩ := h
  exact down_any w hd

theorem two_len (h : Two w0 w G p m1 q m2) : Calls Try.prog 33 #[.pointer (some ⟨p, 0, none⟩)] w fun e w' => e = .returned (.int .i64 m1.sure.length) ∧ w' = w := by
  obtain ⟨⟨S, T, hd, hr, h1, h2⟩, hf, hg⟩ := h
  exact len_any w hd

theorem two_unsure (h : Two w0 w G p m1 q m2) (few : m1.unsure.length < 1099511627776) : Calls Try.prog 35 #[.pointer (some ⟨p, 0, none⟩)] w fun e w' => ∃ v, e = .returned v ∧ Writes w' w.heap.size v m1.unsure ∧ Fr No w w' := by
  obtain ⟨⟨S, T, hd, hr, h1, h2⟩, hf, hg⟩ := h
  exact unsure_any w hd few

/-- The document's device does not know of room beside. -/
theorem RDev.recap {T : Nat → Prop} {m : Dv} (h : RDev w T q m) (c : Nat) (sp : List Value) : RDev w T q { m with cap := c, spare := sp } := by
  obtain ⟨sv, uv, ss, us, h, r⟩ := h
  exact ⟨sv, uv, ss, us, ⟨h.head, h.sure, h.len, h.tells, h.sdata, h.list, h.eq, h.data, ⟨h.wf.few, h.wf.size, h.wf.wsize, h.wf.wpos, h.wf.lim⟩⟩, r⟩

theorem Two.recap (h : Two w0 w G p m1 q m2) (c : Nat) (sp : List Value) : Two w0 w G p m1 q { m2 with cap := c, spare := sp } := by
  obtain ⟨⟨S, T, hd, hr, h1, h2⟩, hf, hg⟩ := h
  exact ⟨⟨S, T, hd, hr.recap c sp, h1, h2⟩, hf, hg⟩

/-- What the document's device shows of itself. -/
theorem Two.shows (h : Two w0 w G p m1 q m2) : ∃ (uo : Option Addr) (uc : Nat) (us : List UW), m2.unsure = us.map UW.pair ∧ (w.cell? ⟨q, 3, none⟩ = some (.bool m2.down)) ∧ (w.cell? ⟨q, 1, none⟩ = some (.slice uo us.length uc)) ∧
    ∀ j (hj : j < us.length), ∃ ug, uo = some ⟨ug, 0, none⟩ ∧ w.cell? ⟨ug, j * 2, none⟩ = some (.int .i64 (us[j]).pos) ∧ w.cell? ⟨ug, j * 2 + 1, none⟩ = some (.slice (some ⟨(us[j]).g, 0, none⟩) 512 (us[j]).c) ∧ BytesIn w (some ⟨(us[j]).g, 0, none⟩) 512 (us[j]).data := by
  obtain ⟨⟨S, T, hd, ⟨sv, uv, ss, us, h, -⟩, -⟩, -⟩ := h
  obtain ⟨-, uo, uc, hu⟩ := h.slices
  refine ⟨uo, uc, us, h.eq, h.c3, by rw [← hu]; exact h.c1, fun j hj => ?_⟩
  obtain ⟨ug, ucc, huv, hur, -, -⟩ := owns_place h.list (by omega)
  have e0 := huv.symm.trans hu
  injection e0 with e1 e2 e3
  refine ⟨ug, e1.symm, hur.cell _ _ (uw_at j hj).1, hur.cell _ _ (uw_at j hj).2, (h.data _ (List.getElem_mem hj)).1.bytes ?_⟩
  exact h.wf.wsize (us[j]).pair (by rw [h.eq]; exact List.mem_map_of_mem (List.getElem_mem hj))

theorem Two.wf (h : Two w0 w G p m1 q m2) : m1.Wf := by
  obtain ⟨⟨S, T, hd, _⟩, _⟩ := h
  exact hd.wf
end

theorem two_new (n : Nat) (w0 w : World) (hf : Fr No w0 w) (h1 : 1 ≤ n) (h2 : n ≤ 4096) :
    Calls Try.prog 18 #[.int .i64 n] w fun e w' => ∃ p, e = .returned (.tuple #[.pointer (some ⟨p, 0, none⟩), .int .i64 0]) ∧ Own w0 w' p (Dv.zero n) ∧ Fr No w w' := own_new n w0 w hf h1 h2

theorem two_rnew {w0 w : World} {p n : Nat} (h : Own w0 w p (Dv.zero n)) (h1 : 1 ≤ n) (h2 : n ≤ 4096) :
    Calls Try.prog 26 #[.int .i64 n] w fun e w' => ∃ q, e = .returned (.pointer (some ⟨q, 0, none⟩)) ∧ Two w0 w' No p (Dv.zero n) q (Dv.zero n) := by
  obtain ⟨S, hd, hS, hf⟩ := h
  refine (rnew_any n w h1 h2).mono fun e w' hh => ?_
  obtain ⟨q, he, hr, f⟩ := hh
  refine ⟨q, he, ⟨S, _, hd.fr0 f, hr, fun k hk => ⟨fun ht => ?_, id, hS k hk⟩, fun k hk => ⟨id, Nat.le_trans hf.size hk.1⟩⟩, hf.step f, fun _ h => h.elim⟩
  have := hd.lt k hk
  have := ht.1
  omega

end Go.Proofs.Ytpimjachhfnlfaa
