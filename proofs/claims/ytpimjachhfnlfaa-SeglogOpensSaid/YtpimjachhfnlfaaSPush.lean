/-
  One more record in a log's list.
-/
import Derived.Test.YtpimjachhfnlfaaSlog
namespace Go.Proofs.Ytpimjachhfnlfaa
open Go.RowKit

theorem info_rec : (Try.prog.info? 181).map (fun i => (i.zero, i.size, i.bytes)) = some (some (.agg #[.int .i64 0, .int .i64 0]), 2, 16) := by kernel_rfl

theorem Own.others {w0 w w' : World} {p n : Nat} {m : Dv} {lv : Value} {xs : List Value} (h : Own w0 w p m) (f : Fr (fun k => lv.ownBlock = some k) w w') (hl : w.ownsRow 0 181 2 lv n xs) (h0 : ∀ k, lv.ownBlock = some k → w0.heap.size ≤ k) : Own w0 w' p m := by
  rcases hl.2 with ⟨rfl, _⟩ | ⟨g, cap, cur, rfl, _, hg, _⟩
  · exact h.next (f.mono fun i _ hi => by cases hi)
  · exact h.other (f.mono fun i _ hi => by cases hi; rfl) hg (by decide) (by decide) (by decide) (by decide) (h0 g rfl)

/-- One more record in the list. -/
theorem OwnL.pushed {w0 w w3 : World} {q p g c : Nat} {m : Dv} {L : Lg} {lv : Value} (n : Nat) (hd : Own w0 w p m) (hl : LogAt w q p lv L) (hk : ∀ k, lv.ownBlock = some k → w0.heap.size ≤ k) (hn : w0.heap.size ≤ q) (hs : L.Small) (f : Fr (fun k => lv.ownBlock = some k) w w3)
    (ho : w3.ownsRow 0 181 2 (.slice (some ⟨g, 0, none⟩) (L.list.length + 1) c) (L.list.length + 1) (L.list.flatMap recCells ++ [.int .i64 L.fin, .int .i64 n])) (hg : lv.ownBlock = some g ∨ w.heap.size ≤ g) (h1 : L.fin + n < 1152921504606846976) (h2 : L.list.length + 1 < 1099511627776) :
    OwnL w0 ((w3.setCell ⟨q, 6, none⟩ (.slice (some ⟨g, 0, none⟩) (L.list.length + 1) c)).setCell ⟨q, 7, none⟩ (.int .i64 ((L.fin : Int) + (n : Int)))) q p m { L with list := L.list ++ [(L.fin, n)], fin := L.fin + n } ∧
      Fr (LW w0 w) w ((w3.setCell ⟨q, 6, none⟩ (.slice (some ⟨g, 0, none⟩) (L.list.length + 1) c)).setCell ⟨q, 7, none⟩ (.int .i64 ((L.fin : Int) + (n : Int)))) := by
  have hq : ¬ lv.ownBlock = some q := fun e => hl.q_ne q e rfl
  have hd3 := hd.others f hl.list hk
  have hh := f.heap hl.head hq
  have f4 : Fr (· = q) w3 (w3.setCell ⟨q, 6, none⟩ (.slice (some ⟨g, 0, none⟩) (L.list.length + 1) c)) := Fr.set1 _ _ _ _
  have hd4 := hd3.other f4 hh (by decide) (by decide) (by decide) (by decide) hn
  have hh4 : (w3.setCell ⟨q, 6, none⟩ (.slice (some ⟨g, 0, none⟩) (L.list.length + 1) c)).heap[q]? = some (.cells #[.pointer (some ⟨p, 0, none⟩), .int .i64 L.blk.gen, .int .i64 L.blk.epoch, .int .i64 L.blk.first, .int .i64 L.blk.from_, .int .i64 L.blk.count, .slice (some ⟨g, 0, none⟩) (L.list.length + 1) c, .int .i64 L.fin, .bool L.down] 176 (0, 0)) := by
    rw [heap_setCell_same _ _ _ _ _ _ hh]
    simp
  obtain ⟨w4, hw4⟩ : ∃ w4, w4 = w3.setCell ⟨q, 6, none⟩ (.slice (some ⟨g, 0, none⟩) (L.list.length + 1) c) := ⟨_, rfl⟩
  rw [← hw4] at f4 hd4 hh4 ⊢
  have f5 : Fr (· = q) w4 (w4.setCell ⟨q, 7, none⟩ (.int .i64 ((L.fin : Int) + (n : Int)))) := Fr.set1 _ _ _ _
  have hne : ∀ k, (Value.slice (some ⟨g, 0, none⟩) (L.list.length + 1) c).ownBlock = some k → k ≠ q := fun k hk => owns_ne ho hh (by decide) k hk
  refine ⟨⟨hd4.other f5 hh4 (by decide) (by decide) (by decide) (by decide) hn, ⟨.slice (some ⟨g, 0, none⟩) (L.list.length + 1) c, ⟨?_, ?_⟩, ?_⟩, hn, ⟨hs.gen, hs.epoch, hs.first, hs.from_, hs.count, h1, ?_, ?_⟩⟩, ?_⟩
  · rw [heap_setCell_same _ _ _ _ _ _ hh4]
    simp
  · have := owns_fr (owns_fr ho f4 hne) f5 hne
    rw [List.length_append, List.flatMap_append]
    exact this
  · intro k hk2
    cases hk2
    rcases hg with h | h
    · exact hk _ h
    · exact Nat.le_trans hd.fr.size h
  · rw [List.length_append]; exact h2
  · intro r hr
    rcases List.mem_append.1 hr with hr | hr
    · exact hs.recs r hr
    · obtain rfl := List.mem_singleton.1 hr
      exact ⟨hs.fin, by omega⟩
  · have fq : ∀ {a b c : World}, Fr (LW w0 a) a b → Fr (· = q) b c → (∃ cur f, b.heap[q]? = some (.cells cur 176 f)) → Fr (LW w0 a) a c := fun h1 h2 h3 => h1.lws (h2.mono fun i _ hi => by rw [hi]; exact ⟨hn, .inr (.inl h3)⟩)
    refine fq (fq (f.mono fun k _ hk2 => ⟨hk k hk2, .inr (.inr ?_)⟩) f4 ⟨_, _, hh⟩) f5 ⟨_, _, hh4⟩
    rcases hl.list.2 with ⟨rfl, _⟩ | ⟨g', cap, cur, rfl, _, hg', _⟩
    · cases hk2
    · cases hk2; exact ⟨_, _, hg'⟩

end Go.Proofs.Ytpimjachhfnlfaa
