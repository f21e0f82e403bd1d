/-
  What the row tells of a slice of bytes that came in. No condition.
-/
import Derived.Test.YtpimjachhfnlfaaRow
import Derived.Test.YtpimjachhfnlfaaSame
namespace Go.Proofs.Ytpimjachhfnlfaa
open Go.ChangeShapes Go.WideShapes Go.ChangeAt Go.RowKit

theorem cells_u8 : Try.prog.cellsOf 5 = 1 := by kernel_rfl
theorem bytes_u8 : Try.prog.bytesOf 5 = 1 := by kernel_rfl

theorem u8_of_wf {z : Int} (h : (Lit.int .u8 z).wf = true) : ∃ x : UInt8, z = x.toNat := by
  have h1 : IntKind.u8.min = 0 := rfl
  have h2 : IntKind.u8.max = 255 := rfl
  simp only [Lit.wf, Bool.and_eq_true, decide_eq_true_eq, h1, h2] at h
  refine ⟨UInt8.ofNat z.toNat, ?_⟩
  rw [UInt8.toNat_ofNat']
  omega

/-- Numbers that fit in a byte are bytes. -/
theorem u8s_of {zs : List Int} (h : ∀ n ∈ zs, (Lit.int .u8 n).wf = true) : ∃ l : List UInt8, zs = l.map fun x => (x.toNat : Int) := by
  induction zs with
  | nil => exact ⟨[], rfl⟩
  | cons z zs ih =>
    obtain ⟨l, rfl⟩ := ih (fun n hn => h n (List.mem_cons_of_mem _ hn))
    obtain ⟨x, rfl⟩ := u8_of_wf (h z List.mem_cons_self)
    exact ⟨x :: l, rfl⟩


set_option maxRecDepth 100000 in
theorem bytes_of_trod {H : Type} {enc : TypeId × Value → H} {W : World} {v : Value} {d : DataW H} {ps : List MemPlace} {base : Nat} (hw : Value.okWide Try.prog W .any base 23 v) (h : DataW.Trod enc Try.prog W 0 (fun _ => true) true 23 v d ps) :
    ∃ a n c l, v = .slice a n c ∧ BytesIn W a n l ∧ (a = none → n = 0 ∧ c = 0) ∧ n ≤ c ∧ c ≤ maxLen ∧ (n = 0 ∨ ∃ xs ys, d = .slice xs ys ∧ xs.length = n) := by
  obtain ⟨a0, len, cap, rfl⟩ := okWide_slice Try.underlying23 hw
  obtain ⟨fuel, hf⟩ := h
  rcases open_ints Try.underlying23 Try.underlying5 cells_u8 hf with ⟨hcs, hx⟩ | ⟨a, len', cap', zs, hcs, _, hl, hm, hz, hx, hcell, hwz⟩
  · simp [Value.cells] at hcs
    obtain ⟨rfl, rfl, rfl⟩ := hcs
    exact ⟨none, 0, 0, [], rfl, BytesIn.nothing W, (fun _ => ⟨rfl, rfl⟩), Nat.le_refl _, Nat.zero_le _, .inl rfl⟩
  · simp [Value.cells] at hcs
    obtain ⟨rfl, rfl, rfl⟩ := hcs
    simp only [if_true] at hz
    obtain ⟨l, rfl⟩ := u8s_of hwz
    simp only [Prod.mk.injEq] at hx
    refine ⟨some a, len, cap, l.take len, rfl, ⟨?_, (fun e => by cases e), ?_⟩, (fun e => by cases e), hl, hm, .inr ⟨_, _, hx.1, by simp [lits] at hz ⊢; omega⟩⟩
    · simp at hz ⊢; omega
    · intro ad had j u hu
      cases had
      have hj : j < len ∧ j < l.length := by
        have := (List.getElem?_eq_some_iff.1 hu).1
        have h2 : j < min len l.length := by simpa [bvs] using this
        omega
      rw [hcell j (by simpa using hj.2)]
      have e : (bvs (l.take len))[j]? = some (bv (l[j]'hj.2)) := by simp [bvs, hj.1, hj.2]
      rw [e] at hu
      cases hu
      simp [bv, List.getD, hj.2]

end Go.Proofs.Ytpimjachhfnlfaa
