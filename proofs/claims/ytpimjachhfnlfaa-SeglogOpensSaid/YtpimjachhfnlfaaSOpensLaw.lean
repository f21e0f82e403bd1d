/-
  SeglogOpens: the log as it is appended, and the device as it is opened, cut off and crashed. No condition.
-/
import Derived.Test.YtpimjachhfnlfaaSScanLaw
import Derived.Test.YtpimjachhfnlfaaSRound
namespace Go.Proofs.Ytpimjachhfnlfaa
open Go.RowKit

structure OInv (ls : List (List UInt8)) (k i : Nat) (B : Blk) (rs : List Rc) (kk : Nat) : Prop where
  first : B.first = 0
  from_ : B.from_ = 0
  e1 : 1 ≤ B.epoch
  e2 : B.epoch ≤ i + 1
  gen : B.gen ≤ i
  cnt : B.count ≤ 12
  data : ∀ r ∈ rs, r.n = partsN r.data.length ∧ r.n < 256
  pre : ∃ n, rs.map (·.data) = ls.take n
  sure : k ≤ kk

theorem OInv.mono {ls : List (List UInt8)} {k i : Nat} {B : Blk} {rs : List Rc} {kk : Nat} (h : OInv ls k i B rs kk) : OInv ls k (i + 1) B rs kk :=
  ⟨h.first, h.from_, h.e1, Nat.le_succ_of_le h.e2, Nat.le_succ_of_le h.gen, h.cnt, h.data, h.pre, h.sure⟩

theorem OInv.few {ls : List (List UInt8)} {k i : Nat} {B : Blk} {rs : List Rc} {kk : Nat} (h : OInv ls k i B rs kk) (hi : i ≤ 20) : B.Few := by
  have h1 := h.first
  have h2 := h.from_
  have h3 := h.e2
  have h4 := h.gen
  have h5 := h.cnt
  refine ⟨?_, ?_, ?_, ?_, ?_⟩
  · omega
  · omega
  · omega
  · omega
  · omega

theorem OInv.len {ls : List (List UInt8)} {k i : Nat} {B : Blk} {rs : List Rc} {kk : Nat} (h : OInv ls k i B rs kk) : rs.length ≤ ls.length := by
  obtain ⟨n, hn⟩ := h.pre
  have := congrArg List.length hn
  rw [List.length_map, List.length_take] at this
  omega

theorem OInv.next {ls : List (List UInt8)} {k i : Nat} {B : Blk} {rs : List Rc} {kk z : Nat} {l : List (Nat × Nat)} (h : OInv ls k i B rs kk) (h12 : ls.length ≤ 12) (h1 : kk ≤ l.length) (h2 : l.length ≤ rs.length) : OInv ls k (i + 1) (openLg B l z).blk (rs.take l.length) l.length := by
  have hl := h.len
  have hf := h.first
  have he := h.e2
  have hg := h.gen
  refine ⟨hf, h.from_, ?_, ?_, ?_, ?_, fun r hr => h.data r (List.mem_of_mem_take hr), ?_, Nat.le_trans h.sure h1⟩
  · show 1 ≤ B.epoch + 1; omega
  · show B.epoch + 1 ≤ i + 1 + 1; omega
  · show B.gen + 1 ≤ i + 1; omega
  · show B.first + l.length ≤ 12; omega
  · obtain ⟨n, hn⟩ := h.pre
    refine ⟨min l.length n, ?_⟩
    rw [List.map_take, hn, List.take_take]

/-- A record that is read is the one that was appended. -/
theorem OInv.at {ls : List (List UInt8)} {k i : Nat} {B : Blk} {rs : List Rc} {kk j : Nat} {r : Rc} (h : OInv ls k i B rs kk) (hr : rs[j]? = some r) : ls[j]? = some r.data := by
  obtain ⟨n, hn⟩ := h.pre
  have h1 : (rs.map (·.data))[j]? = some r.data := by rw [List.getElem?_map, hr]; rfl
  rw [hn, List.getElem?_take] at h1
  split at h1
  · exact h1
  · cases h1

/-- A device that is up and clean, and holds a log. -/
structure Dsk (N : Nat) (m : Dv) (P : Blk → List Rc → Nat → Prop) : Prop where
  live : Live m
  clean : m.unsure = []
  len : m.sure.length = N
  log : ∃ B rs k, loadM m = some B ∧ DI m B rs k ∧ P B rs k

theorem Safe.dsk {N : Nat} {m : Dv} {P : Blk → List Rc → Nat → Prop} (h : Safe m P) (hN : m.sure.length = N) (a b : Nat) : Dsk N (m.crash a b) P :=
  ⟨crash_live _ _ _, rfl, by rw [crash_len]; exact hN, h a b⟩

theorem saved_few (m : Dv) (b : Blk) : (m.saved b).1.unsure.length ≤ m.unsure.length + 1 := by
  unfold Dv.saved
  have h1 := sync_few m
  have h2 := write_few m.sync.1 ((b.gen % 2 : Nat) : Int) (blkSec b)
  have h3 := sync_few (m.sync.1.write ((b.gen % 2 : Nat) : Int) (blkSec b)).1
  split
  · omega
  · split
    · omega
    · omega

theorem sync_len (m : Dv) : m.sync.1.sure.length = m.sure.length := by
  unfold Dv.sync
  split
  · rfl
  · split
    · rw [spent_sure]
    · exact settleAll_len _ _

theorem write_len (m : Dv) (k : Int) (b : List UInt8) : (m.write k b).1.sure = m.sure := by
  unfold Dv.write
  split
  · rfl
  · split
    · rfl
    · split
      · exact spent_sure m
      · exact spent_sure m

theorem saved_len (m : Dv) (b : Blk) : (m.saved b).1.sure.length = m.sure.length := by
  unfold Dv.saved
  split
  · exact sync_len m
  · split
    · rw [write_len]; exact sync_len m
    · rw [sync_len, write_len]; exact sync_len m

/-- Open, whatever the limit. -/
theorem opens_try {w0 w : World} {p k i lim N : Nat} {m : Dv} {ls : List (List UInt8)} (h : Own w0 w p { m with limit := lim }) (hd : Dsk N m (OInv ls k i)) (hN : 4 ≤ N) (h12 : ls.length ≤ 12) (hi : i ≤ 20) :
    Calls Try.prog 61 #[.pointer (some ⟨p, 0, none⟩)] w fun e w' => ∃ (v : Option Addr) (c : Int) (d : Dv), (c = 0 ∨ c = 8) ∧ e = .returned (.tuple #[.pointer v, .int .i64 c]) ∧ Own w0 w' p d ∧ Safe d (OInv ls k (i + 1)) ∧ d.unsure.length ≤ 1 ∧ d.sure.length = N := by
  obtain ⟨B, rs, kk, hl, hdi, hp⟩ := hd.log
  have hs : Sim { m with limit := lim } m := ⟨rfl, rfl⟩
  have hdi' := hdi.sim hs
  have hlen := hd.len
  have hwf : ({ m with limit := lim } : Dv).Wf := by obtain ⟨S, hd, -⟩ := h; exact hd.wf
  have hclean : ({ m with limit := lim } : Dv).unsure = [] := hd.clean
  have hload : loadM { m with limit := lim } = some B := by rw [hs.load]; exact hl
  have hfew := hp.few hi
  have H := lopen_any h hd.live.up (by show 4 ≤ m.sure.length; omega) (by rw [hclean]; decide) hload hfew hp.e1 hdi.c1 (fun l z s => by have := (scan_law hdi' s).1; have := hdi.c2; omega)
  refine H.mono fun e w' hh => ?_
  obtain ⟨l, z, s, hz, hf, hcase⟩ := hh
  have hfit := openLg_fit hfew s.chain hz hwf.few
  obtain ⟨hc, h1, h2, hsafe⟩ := open_cut hwf hdi' hclean hd.live.up hload hfit s
  have hsafe2 : Safe (({ m with limit := lim } : Dv).saved (openLg B l z).blk).1 (OInv ls k (i + 1)) := hsafe.mono fun X R K hh => by
    rcases hh with ⟨rfl, rfl, rfl⟩ | ⟨rfl, rfl, rfl⟩
    · exact hp.mono
    · exact hp.next h12 h1 h2
  have hu : (({ m with limit := lim } : Dv).saved (openLg B l z).blk).1.unsure.length ≤ 1 := by
    have h1 := saved_few { m with limit := lim } (openLg B l z).blk
    have h2 : ({ m with limit := lim } : Dv).unsure.length = 0 := by rw [hclean]; rfl
    omega
  have hN2 : (({ m with limit := lim } : Dv).saved (openLg B l z).blk).1.sure.length = N := by rw [saved_len]; exact hlen
  rcases hcase with ⟨c0, q, he, ho⟩ | ⟨c8, he, ho⟩
  · exact ⟨_, 0, _, .inl rfl, he, ho.dev, hsafe2, hu, hN2⟩
  · exact ⟨_, _, _, hc, he, ho, hsafe2, hu, hN2⟩

/-- Open of a device that is up. -/
theorem opens_last {w0 w : World} {p k i N : Nat} {m : Dv} {ls : List (List UInt8)} (h : Own w0 w p m) (hd : Dsk N m (OInv ls k i)) (hN : 4 ≤ N) (h12 : ls.length ≤ 12) (hi : i ≤ 20) :
    Calls Try.prog 61 #[.pointer (some ⟨p, 0, none⟩)] w fun e w' => ∃ (q : Nat) (d : Dv) (L : Lg) (rs : List Rc), e = .returned (.tuple #[.pointer (some ⟨q, 0, none⟩), .int .i64 0]) ∧ OwnL w0 w' q p d L ∧ LI d L rs rs.length ∧ Live d ∧ d.unsure = [] ∧ k ≤ rs.length ∧ OInv ls k (i + 1) L.blk rs rs.length := by
  obtain ⟨B, rs, kk, hl, hdi, hp⟩ := hd.log
  have hlen := hd.len
  have hwf : m.Wf := by obtain ⟨S, hd, -⟩ := h; exact hd.wf
  have hfew := hp.few hi
  have H := lopen_any h hd.live.up (by omega) (by rw [hd.clean]; decide) hl hfew hp.e1 hdi.c1 (fun l z s => by have := (scan_law hdi s).1; have := hdi.c2; omega)
  refine H.mono fun e w' hh => ?_
  obtain ⟨l, z, s, hz, hf, hcase⟩ := hh
  have hfit := openLg_fit hfew s.chain hz hwf.few
  obtain ⟨c0, hli, hu, hlive, h1, h2⟩ := open_up hdi hd.clean hd.live hl hfit hp.data s hz
  have htl : (rs.take l.length).length = l.length := by rw [List.length_take]; omega
  rcases hcase with ⟨-, q, he, ho⟩ | ⟨c8, -, -⟩
  · refine ⟨q, _, _, rs.take l.length, he, ho, ?_, hlive, hu, ?_, ?_⟩
    · rw [htl]; exact hli
    · rw [htl]; exact Nat.le_trans hp.sure h1
    · rw [htl]; exact hp.next h12 h1 h2
  · exact absurd c0 c8

/-- The log as it is appended: all of the first i; k are sure. -/
structure AInv (N : Nat) (m : Dv) (L : Lg) (ls : List (List UInt8)) (i k : Nat) : Prop where
  live : Live m
  len : m.sure.length = N
  blk : L.blk = Lg.new.blk
  fin : L.fin ≤ 3 * i
  few : m.unsure.length ≤ 3 * i
  log : ∃ rs, LI m L rs k ∧ rs.map (·.data) = ls.take i ∧ rs.length = i

theorem AInv.start {N : Nat} (hN : 4 ≤ N) (ls : List (List UInt8)) : AInv N (Dv.first N) Lg.new ls 0 0 := by
  have hr := RInv.start hN
  have hu : (Dv.first N).unsure = [] := rfl
  have hlen := hr.len
  refine ⟨hr.live, hlen, rfl, Nat.le_refl _, Nat.le_refl _, [], ⟨⟨by omega, ⟨0, rfl, by show 0 + 2 ≤ 0 + _; omega⟩, Nat.le_refl _, Nat.le_refl _, Nat.le_refl _, (fun i r hi => by omega), ?_⟩, (fun i r hr => by simp at hr), hr.load, (fun u hu' => by rw [hu] at hu'; cases hu'), hr.chain, by rw [hlen]; exact hr.ring, rfl, rfl, hr.live.up, (fun r hr => by cases hr)⟩, by simp, rfl⟩
  intro x d h dat hx hp ho hk
  exfalso
  have hz := poss_put (m := Dv.zero N) rfl hx hp
  rcases hz with hz | hz
  · have hxl : x < N := by
      rcases Nat.lt_or_ge x N with h' | h'
      · exact h'
      · rw [List.getElem?_eq_none (by rw [new_zero_len]; exact h')] at hz; cases hz
    have hs := zero_seen hxl
    have : d = List.replicate 512 0 := by
      have h2 := Firm.seen (m := Dv.zero N) (x := x) (d := d) ⟨hz, fun u hu => by cases hu⟩
      rw [hs] at h2
      exact (Option.some.inj h2).symm
    rw [this, opened_zero] at ho
    cases ho
  · cases hz

theorem AInv.append {N : Nat} {m : Dv} {L : Lg} {ls : List (List UInt8)} {i k : Nat} {b : List UInt8} (h : AInv N m L ls i k) (hN : N = 40) (hb : ls[i]? = some b) (hl : b.length ≤ 1400) (hi : i < 12) :
    (appendM m L b).2.2.2 = 0 ∧ AInv N (appendM m L b).1 (appendM m L b).2.1 ls (i + 1) k ∧ (partsN b.length : Int) ≤ L.room m := by
  obtain ⟨rs, hli, hd, hrl⟩ := h.log
  have hlen := h.len
  have hfin := h.fin
  have hblk := h.blk
  have hp3 : partsN b.length ≤ 3 := by unfold partsN; omega
  have hfrom : L.blk.from_ = 0 := by rw [hblk]; rfl
  have hfirst : L.blk.first = 0 := by rw [hblk]; rfl
  have hep : L.blk.epoch = 1 := by rw [hblk]; rfl
  have hroom : (partsN b.length : Int) ≤ L.room m := by unfold Lg.room; omega
  have hll := hli.len
  obtain ⟨e0, hlv, -, -⟩ := wrs_live L b (partsN b.length) h.live (by omega) (partsN b.length)
  have hwf := wrs_few m L b (partsN b.length) (partsN b.length)
  have hwl := wrs_len m L b (partsN b.length) (partsN b.length)
  have happ : appendM m L b = ((wrs m L b (partsN b.length) (partsN b.length)).1, { L with list := L.list ++ [(L.fin, partsN b.length)], fin := L.fin + partsN b.length }, ((L.blk.first + L.list.length : Nat) : Int), 0) := by
    unfold appendM
    simp only [e0, ne_eq, not_true_eq_false, if_false]
  rcases hli.append b (by omega) (by omega) (by omega) hroom with ⟨c0, -, hli2, hbk, hf2, -⟩ | ⟨c8, -⟩
  · refine ⟨c0, ⟨?_, ?_, by rw [hbk, hblk], by rw [hf2]; omega, ?_, _, hli2, ?_, ?_⟩, hroom⟩
    · rw [happ]; exact hlv
    · rw [happ]; show (wrs m L b _ _).1.sure.length = N; rw [hwl, hlen]
    · rw [happ]
      have := h.few
      show (wrs m L b _ _).1.unsure.length ≤ _
      omega
    · rw [List.map_append, hd, List.take_add_one, hb]
      rfl
    · rw [List.length_append, hrl]
      rfl
  · rw [happ] at c8
    simp at c8

theorem AInv.sync {N : Nat} {m : Dv} {L : Lg} {ls : List (List UInt8)} {i k : Nat} (h : AInv N m L ls i k) (hw : m.Wf) : m.sync.2 = 0 ∧ AInv N m.sync.1 L ls i i := by
  obtain ⟨rs, hli, hd, hrl⟩ := h.log
  have hs := h.live.sync
  rcases hli.sync hw with ⟨c0, hli2, hu, hlim⟩ | ⟨c8, -⟩
  · refine ⟨c0, ⟨⟨hli2.mup, hlim h.live.free⟩, by rw [sync_len]; exact h.len, h.blk, h.fin, by rw [hu]; exact Nat.zero_le _, rs, ?_, hd, hrl⟩⟩
    rw [← hrl]; exact hli2
  · rw [hs] at c8
    simp at c8

theorem AInv.dsk {N : Nat} {m : Dv} {L : Lg} {ls : List (List UInt8)} {i k : Nat} (h : AInv N m L ls i k) (a b : Nat) : Dsk N (m.crash a b) (OInv ls k 0) := by
  obtain ⟨rs, hli, hd, hrl⟩ := h.log
  have hs := safe_off hli.di hli.off hli.load
  refine Safe.dsk (hs.mono fun B R K hh => ?_) h.len a b
  obtain ⟨rfl, rfl, rfl⟩ := hh
  have hb := h.blk
  refine ⟨by rw [hb]; rfl, by rw [hb]; rfl, by rw [hb]; decide, by rw [hb]; decide, by rw [hb]; decide, by rw [hb]; decide, hli.data, ⟨i, hd⟩, Nat.le_refl _⟩

end Go.Proofs.Ytpimjachhfnlfaa
