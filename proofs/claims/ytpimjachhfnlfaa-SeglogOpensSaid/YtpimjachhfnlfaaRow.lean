/-
  From a walk to a given statement: a law that answers true, and writes nothing that was there. No condition.
-/
import Derived.Test.YtpimjachhfnlfaaBase
import Derived.ProofKit
import Derived.SizedLaws
import Derived.OpenShut
namespace Go.Proofs.Ytpimjachhfnlfaa
open Go.ChangeShapes Go.WideShapes Go.ChangeAt Go.RowKit

theorem own0 : ownKnob Try.prog.godebug = none := by kernel_rfl
theorem laid0 : laidOutB Try.prog = true := by kernel_rfl

theorem trodAll_len {H : Type} {enc : TypeId × Value → H} {P : Program} {W : World} {base : Nat} {sp : Nat → Bool} {hd : Bool} : ∀ (ts : List TypeId) (vs : List Value) (ds : List (DataW H)) (ps : List MemPlace), DataW.TrodAll enc P W base sp hd ts vs ds ps → ds.length = ts.length := by
  intro ts
  induction ts with
  | nil => intro vs ds ps h; obtain ⟨-, rfl, -⟩ := trodAll_nil h; rfl
  | cons t ts ih =>
    intro vs ds ps h
    obtain ⟨v, vs', d, ds', p, q, rfl, rfl, rfl, -, h2⟩ := trodAll_cons h
    simp [ih _ _ _ h2]

theorem stays_all {H : Type} {enc : TypeId × Value → H} {W W' : World} (hb : Below W.heap.size W W') : ∀ (ts : List TypeId) (_ : ∀ t ∈ ts, Try.prog.readableRec t = true ∧ t < Try.prog.types.size) (vs : List Value) (ds : List (DataW H)) (ps : List MemPlace),
    DataW.TrodAll enc Try.prog W 0 (fun _ => true) true ts vs ds ps → (∀ x ∈ ps, x.block < W.heap.size) → DataW.TrodAll enc Try.prog W' 0 (fun b => decide (b < W.heap.size)) true ts vs ds ps := by
  intro ts
  induction ts with
  | nil => intro _ vs ds ps h _; obtain ⟨rfl, rfl, rfl⟩ := trodAll_nil h; exact trodAll_mk0
  | cons t ts ih =>
    intro hts vs ds ps h hlt
    obtain ⟨v, vs', d, ds', p, q, rfl, rfl, rfl, h1, h2⟩ := trodAll_cons h
    refine trodAll_cons_mk ?_ (ih (fun u hu => hts u (List.mem_cons_of_mem _ hu)) _ _ _ h2 (fun x hx => hlt x (List.mem_append_right _ hx)))
    have := hts t List.mem_cons_self
    exact Below.trod laid0 this.1 this.2 h1 hb (fun x hx => hlt x (List.mem_append_left _ hx))

/-- What a walk is told of its arguments. -/
structure Told (H : Type) (enc : TypeId × Value → H) (W : World) (ts : List TypeId) (args : Array Value) (ds : List (DataW H)) (ps : List MemPlace) : Prop where
  read : DataW.TrodAll enc Try.prog W 0 (fun _ => true) true ts args.toList ds ps
  old : ∀ x ∈ ps, x.block < W.heap.size
  wide : ∀ (j : Nat) t v, ts[j]? = some t → args[j]? = some v → ∃ base, Value.okWide Try.prog W .any base t v
  reach : (DataW.weightsEach Try.prog ts ds).all (· ≤ reachBytes) = true

set_option maxRecDepth 100000 in
theorem law_lifted (F : FuncId) (fn : Func) (s : ChangeSpec) (hin : Try.prog.inits.idxOf? F = none) (hf : Try.prog.funcs[F]? = some fn) (hv : s.vars = []) (hr : fn.resultTypes = #[4])
    (hts : ∀ t ∈ fn.params.toList, Try.prog.readableRec t = true ∧ t < Try.prog.types.size)
    (hfn : ∀ (H : Type) (ds : List (DataW H)), ds.length = fn.params.toList.length → (s.fn H ds).results = [.lit (.bool true)] ∧ (s.fn H ds).args = ds ∧ (s.fn H ds).vars = [])
    (walk : ∀ (H : Type) (enc : TypeId × Value → H) (W : World) (args : Array Value) (ds : List (DataW H)) (ps : List MemPlace), Told H enc W fn.params.toList args ds ps → Calls Try.prog F args W fun e W' => e = .returned (.bool true) ∧ Fr No W W')
    (os : Os) (started : os.Started) (H : Type) (enc : TypeId × Value → H)
    (hwit : ∃ (w : World) (tape : Nat → Question → Nat) (i : Input), w.os = os ∧ World.Shaped Try.checked.prog (w.forCall tape i) ∧ i.vars = [] ∧ Input.okWide Try.checked.prog (w.forCall tape i) Reach.any w.heap.size F i ∧
        ChangeSpec.pre6 enc Try.checked.prog fn s [] false (w.forCall tape i).memory i.args ∧ ({} : Assume).holds Try.checked.prog (lone (Frame.enter Try.checked.prog F i.args CallKind.normal) [] (w.forCall tape i))) :
    ReturnsInHanded {} Try.checked os F .any (s.pre6 enc Try.prog fn [] false) (s.post enc Try.prog fn false true false false) := by
  refine returnsInHanded_of_change_sized (C := Try.checked) own0 started hin hf hwit ?_
  intro W base args ds gs before hval hW _ hsz _
  have hW' := hW
  obtain ⟨p, q, hA, hV, rfl, _, _⟩ := hW
  rw [hv] at hV
  obtain ⟨rfl, rfl⟩ := trodVars_none hV
  have hlt : ∀ x ∈ p, x.block < W.heap.size := fun x hx => by simpa using hW'.lt x (List.mem_append_left _ hx)
  have hsz2 : (DataW.weightsEach Try.prog fn.params.toList ds).all (· ≤ reachBytes) = true := by
    have e : DataSpec.varTypes Try.checked.prog s.plain = [] := by
      unfold DataSpec.varTypes
      have e2 : s.plain.vars = [] := hv
      rw [e2, List.filterMap_nil]
    rw [e, List.append_nil, List.append_nil] at hsz
    exact hsz
  have hwide : ∀ (j : Nat) t v, fn.params.toList[j]? = some t → args[j]? = some v → ∃ base, Value.okWide Try.prog W .any base t v := by
    intro j t v h1 h2
    rw [Array.getElem?_toList] at h1
    exact ⟨base, hval j t v h1 h2⟩
  refine (walk H enc W args ds p ⟨hA, hlt, hwide, hsz2⟩).mono fun e W' hh => ?_
  obtain ⟨rfl, f⟩ := hh
  obtain ⟨e1, e2, e3⟩ := hfn H ds (trodAll_len _ _ _ _ hA)
  refine ⟨_, rfl, ds, [], p ++ [], [], p, [], hW', ?_, ?_, ?_, f.below.frame _, fun h => by cases h⟩
  · rw [List.append_nil, e1, hr]
    exact trodAll_mk1 (shut_bool Try.underlying4 _)
  · rw [List.append_nil, e2]
    exact stays_all f.below _ hts _ _ _ hA hlt
  · rw [List.append_nil, e3, hv]
    exact rfl

end Go.Proofs.Ytpimjachhfnlfaa
