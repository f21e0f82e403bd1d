/-
  The device's Write. No condition but that fewer than 2^40 writes are open.
-/
import Derived.Test.YtpimjachhfnlfaaRead3
namespace Go.Proofs.Ytpimjachhfnlfaa
open Go.RowKit

/-- copy into a row that is known whole: the world behind it is that with the row written. -/
theorem wpList_copy_fr {P : Program} {w : World} {ops : Array Oper} {rest : List Oper} {o : Oper} {a : Act} {Q : Exit → Act → World → Prop} (hgd : o.guard = none) (d s : Operand) (dT sT : TypeId)
    (ho : o.op = .call { callee := .builtin .copy, args := #[d, s], argTypes := #[dT, sT] }) (elem : TypeId) (hu : P.underlying dT = some (.slice elem)) (hsz : (P.info? elem).map (·.size) = some 1)
    (g off dLen dCap : Nat) (sp : Option Addr) (sLen sCap : Nat) (hd : a.eval d = .slice (some ⟨g, off, none⟩) dLen dCap) (hs : a.eval s = .slice sp sLen sCap)
    (cur : List Value) (t : TypeId) (hg : w.heap[g]? = some (.cells cur.toArray t (0, 0))) (cs : List Value) (hn : cs.length = Nat.min sLen dLen)
    (hnil : sp = none → sLen = 0) (hsrc : ∀ ad, sp = some ad → ∀ j v, cs[j]? = some v → w.cell? (ad.add j) = some v) (hfit : off + cs.length ≤ cur.length) (h1 : ∀ v ∈ cs, v.oneCell' = true)
    (h : ∀ w', Hid (w'.heap[g]? = some (.cells (splice cur off cs).toArray t (0, 0))) → Hid (Fr (· = g) w w') → wpList P ops Q rest (a.put o.dst (goInt cs.length)) w') :
    wpList P ops Q (o :: rest) a w := by
  cases sp with
  | none =>
    have h0 := hnil rfl
    subst h0
    have hc : cs = [] := List.eq_nil_of_length_eq_zero (by rw [hn]; exact Nat.min_eq_left (Nat.zero_le _))
    subst hc
    refine wpList_copy_nothing hgd d s dT sT ho elem hu hsz _ _ dLen dCap 0 sCap hd hs (Nat.min_eq_left (Nat.zero_le _)) ?_
    exact h w (show _ = _ by simpa [splice] using hg) (Fr.refl _ _)
  | some ad =>
    refine wpList_copy_own hgd d s dT sT ho elem hu hsz g off dLen dCap ad sLen sCap hd hs cur.toArray t hg cs hn (hsrc ad rfl) (by simpa using hfit) h1 ?_
    exact h _ (show _ = _ from setRow_heap w g _ _ t _ hg) (Fr.setRow _ _ _ (.inl rfl))

/-- Bytes, and noughts up to a sector. -/
def pad (b : List UInt8) : List UInt8 := b ++ List.replicate (512 - b.length) 0

theorem pad_len {b : List UInt8} (h : b.length ≤ 512) : (pad b).length = 512 := by simp [pad]; omega

theorem splice_pad (b : List UInt8) : splice (bvs (List.replicate 512 0)) 0 (bvs b) = bvs (pad b) := by
  unfold splice pad bvs
  simp only [List.take_zero, List.nil_append, Nat.zero_add, List.length_map, List.map_append, ← List.map_drop, List.drop_replicate]

def Dv.write (m : Dv) (pos : Int) (b : List UInt8) : Dv × Int :=
  if m.code pos ≠ 0 then (m, m.code pos) else if 512 < b.length then (m, 1) else if m.limit = 1 then (m.spent, 8) else ({ m.spent with unsure := m.unsure ++ [(pos.toNat, pad b)] }, 0)

theorem write_nil (pos : Int) (v : Value) (w : World) : Calls Try.prog 20 #[.pointer none, .int .i64 pos, v] w fun e w' => e = .returned (.int .i64 1) ∧ w' = w := by
  go_enter Try.func20, Try.ntmps20
  go_wp2_with (go_at_call 75; refine (check_nil _ _).mono ?_; rintro e w' ⟨rfl, rfl⟩)
  go_ret
  exact ⟨rfl, rfl⟩

theorem write_err {S : Nat → Prop} {p : Nat} {m : Dv} (pos : Int) (v : Value) (w : World) (hd : Dev w S p m) (hc : m.code pos ≠ 0) :
    Calls Try.prog 20 #[.pointer (some ⟨p, 0, none⟩), .int .i64 pos, v] w fun e w' => e = .returned (.int .i64 (m.code pos)) ∧ w' = w := by
  have HK := hid (fun w' (h : w' = w) => check_any pos w' (h ▸ hd))
  have hq : ((m.code pos : Int) != 0) = true := by simpa using hc
  clear hd hc
  generalize m.code pos = q at *
  go_enter Try.func20, Try.ntmps20
  go_wp2_with (go_at_call 75; refine (HK.out _ rfl).mono ?_; rintro e w' ⟨rfl, rfl⟩)
  go_ret
  exact ⟨rfl, rfl⟩

theorem write_long {S : Nat → Prop} {p : Nat} {m : Dv} (pos : Int) (a : Option Addr) (n c : Nat) (w : World) (hd : Dev w S p m) (hc : m.code pos = 0) (hn : 512 < n) :
    Calls Try.prog 20 #[.pointer (some ⟨p, 0, none⟩), .int .i64 pos, .slice a n c] w fun e w' => e = .returned (.int .i64 1) ∧ w' = w := by
  have hK := fun w' (h : w' = w) => check_any pos w' (h ▸ hd)
  rw [hc] at hK
  have HK := hid hK
  clear hd hc hK
  have b1 : (512 : Int) < (n : Int) := by omega
  go_enter Try.func20, Try.ntmps20
  go_wp2_with (go_at_call 75; refine (HK.out _ rfl).mono ?_; rintro e w' ⟨rfl, rfl⟩)
  go_ret
  exact ⟨rfl, rfl⟩

theorem write_cut {w : World} {p bs : Nat} {uv : Value} {us : List UW} {m : Dv} (h : DevAt w p bs uv us m) (pos : Int) (a : Option Addr) (n c : Nat) (hc : m.code pos = 0) (hn : n ≤ 512) (hl : m.limit = 1) :
    Calls Try.prog 20 #[.pointer (some ⟨p, 0, none⟩), .int .i64 pos, .slice a n c] w fun e w' => e = .returned (.int .i64 8) ∧ DevAt w' p bs uv us m.spent ∧ Fr (· = p) w w' := by
  have hK := fun w' (e : w' = w) => check_any pos w' (e ▸ h.dev)
  rw [hc] at hK
  have HK := hid hK
  have hP := fun w' (e : w' = w) => spend_at w' (e ▸ h)
  rw [show decide (m.limit ≠ 1) = false by simp [hl]] at hP
  have HP := hid hP
  clear hc hK hP h hl
  have b1 : (n : Int) ≤ 512 := by omega
  go_enter Try.func20, Try.ntmps20
  go_wp2_with (first | (go_at_call 75; refine (HK.out _ rfl).mono ?_; rintro e w' ⟨rfl, rfl⟩) | (go_at_call 76; refine (HP.out _ rfl).mono ?_; rintro e w' ⟨rfl, hd', hf'⟩))
  go_ret
  exact ⟨rfl, hd', hf'⟩

end Go.Proofs.Ytpimjachhfnlfaa
