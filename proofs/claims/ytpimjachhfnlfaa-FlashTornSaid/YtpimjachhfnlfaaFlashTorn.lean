/-
  gazetteerlaw08.FlashTorn returns true, for every input; its arguments read as before. No condition.
-/
import Derived.Test.YtpimjachhfnlfaaTorn
import Derived.Test.YtpimjachhfnlfaaBytes
namespace Go.Proofs.Ytpimjachhfnlfaa
open Go.ChangeShapes Go.WideShapes Go.ChangeAt Go.RowKit

theorem params_torn : Try.f4.params.toList = [23, 4] := by kernel_rfl

set_option maxRecDepth 100000 in
theorem torn_told (H : Type) (enc : TypeId × Value → H) (W : World) (args : Array Value) (ds : List (DataW H)) (ps : List MemPlace) (h : Told H enc W [23, 4] args ds ps) :
    Calls Try.prog 4 args W fun e W' => e = .returned (.bool true) ∧ Fr No W W' := by
  obtain ⟨v0, v1, d0, d1, p0, p1, rfl, rfl, rfl, h0, h1⟩ := trodAll_two h.read
  obtain ⟨b0, w0⟩ := h.wide 0 _ _ rfl rfl
  obtain ⟨b1, w1⟩ := h.wide 1 _ _ rfl rfl
  obtain ⟨x, rfl, -, -⟩ := open_bool Try.underlying4 w1 h1
  obtain ⟨a, n, c, l, rfl, hl, hnil, -, -, -⟩ := bytes_of_trod w0 h0
  by_cases hn : n ≤ 512
  · exact torn_walk a n c l x W hl hn hnil
  · exact torn_long a n c x W (by omega)

theorem torn_readable : ∀ t ∈ Try.f4.params.toList, Try.prog.readableRec t = true ∧ t < Try.prog.types.size := by
  rw [params_torn]
  intro t ht
  simp only [List.mem_cons, List.not_mem_nil, or_false] at ht
  rcases ht with rfl | rfl
  · exact ⟨by kernel_rfl, of_decide_eq_true (by kernel_rfl)⟩
  · exact ⟨by kernel_rfl, of_decide_eq_true (by kernel_rfl)⟩

theorem torn_spec (H : Type) (ds : List (DataW H)) (hl : ds.length = Try.f4.params.toList.length) : (Rows.flashTornSpec.fn H ds).results = [.lit (.bool true)] ∧ (Rows.flashTornSpec.fn H ds).args = ds ∧ (Rows.flashTornSpec.fn H ds).vars = [] := by
  rw [params_torn] at hl
  match ds, hl with
  | [_, _], _ => exact ⟨rfl, rfl, rfl⟩

theorem torn_inits : Try.prog.inits.idxOf? 4 = none := by kernel_rfl
theorem torn_res : Try.f4.resultTypes = #[4] := by kernel_rfl

set_option maxRecDepth 100000 in
theorem torn_lifted (os : Os) (started : os.Started) (H : Type) (enc : TypeId × Value → H) :
    ReturnsInHanded {} Try.checked os 4 .any (Rows.flashTornSpec.pre6 enc Try.prog Try.f4 Rows.flashTornRow.domain false) (Rows.flashTornSpec.post enc Try.prog Try.f4 false true false false) :=
  law_lifted 4 Try.f4 Rows.flashTornSpec torn_inits Try.func4 rfl torn_res torn_readable torn_spec
    (fun H enc W args ds ps h => torn_told H enc W args ds ps (by rw [params_torn] at h; exact h)) os started H enc
    (ChangeSpec.witness6 (enc := enc) (C := Try.checked) false ⟨#[], #[.slice none 0 0, .bool false], []⟩ 8 (by kernel_rfl) (by kernel_rfl) (by kernel_rfl) (by kernel_rfl))

theorem torn_named : Try.pinned.checked.prog.funcNamed Rows.flashTornRow.func = some 4 := by kernel_rfl
theorem torn_inst : Func.isInstance Try.pinned.checked.prog Try.f4 Rows.flashTornRow.origin Rows.flashTornRow.targs := of_decide_eq_true (by kernel_rfl)
theorem torn_wrap : Func.isWrapper Try.pinned.checked.prog Try.f4 Rows.flashTornRow.wrapper Rows.flashTornRow.mainSum := by
  unfold Func.isWrapper
  first | (rw [if_pos (by decide +kernel)]; kernel_rfl) | (rw [if_neg (by decide +kernel)]; exact ⟨rfl, rfl⟩)
theorem torn_joined : joinedFacts Try.pinned.checked.prog 4 Try.f4 Rows.flashTornSpec Rows.flashTornRow = true := by kernel_rfl

theorem flashTorn_holds : Rows.FlashTornSaid :=
  OpenClaim.holds_of_wide 4 Try.f4 rfl rfl rfl rfl rfl rfl rfl ⟨rfl, rfl, rfl, rfl, rfl⟩ rfl rfl rfl rfl rfl torn_named Try.func4 torn_joined
    torn_inst torn_wrap (fun os started H enc _ => torn_lifted os started H enc)
#print axioms flashTorn_holds

end Go.Proofs.Ytpimjachhfnlfaa
