/-
  No cell of these rows narrows 'for every input' (looked for: loops, veiled, ifaces, maps, wideKeys, modest, calm, conditions, laid).
  DERIVED. THE GIVEN ROWS OF THIS SEAT. 15 by the template 'for every input the law returns true; each argument reads behind the call as it read before'; 0 by the template 'total and deterministic' (their statements: YtpimjachhfnlfaaTotals.lean).
  GIVEN WITH THE SEED: the statements are not yours to turn. If you find one false, say at which input.
  Laid BY PROGRAM, IN A SANDBOX (cutbox-rows.mjs): the forced cells as the released guide's own fill.sh prints them over the translation 917f0136be3e4085… (all of the seat's roots in one cut). By AI agents, Wed Nov 11 2026. No macro, syntax, notation, axiom, sorry.
-/
import Derived.Test.YtpimjachhfnlfaaChecked
import GoSem.Claim
import GoSem.ClaimJoined
import GoSem.ClaimMapViews
import Derived.JoinedTies
import Derived.KernelRfl
namespace Go.Proofs.Ytpimjachhfnlfaa
/- THE CELL 'sum', in the pinned program and in every row, IS THE sha256 OF THE DUMP (.gsa) THAT YtpimjachhfnlfaaProg.lean LOADS. Nothing in Lean hashes anything: it is a label: what it is worth is what the hold of that sum in a sandbox is worth. -/
noncomputable def Try.pinned : Pinned := { name := "ytpimjachhfnlfaa", sum := "917f0136be3e4085c2f144af4a74e0a07cdae8dd37bcf662fcc605baaa6ece66", checked := Try.checked }
namespace Rows
def none {H : Type} : Left H := { results := [], args := [] }

/-- 'gazetteerlaw08.FlashSure': WHATEVER THE INPUT: true; the input reads as it did. -/
def flashSureSpec : ChangeSpec := { name := "flashSure", fn := fun _ => fun
  | [d1, d2, d3, d4] => { results := [.lit (.bool true)], args := [d1, d2, d3, d4] }
  | _ => none }
def flashSureRow : OpenClaim := { program := "ytpimjachhfnlfaa", sum := "917f0136be3e4085c2f144af4a74e0a07cdae8dd37bcf662fcc605baaa6ece66", func := "gazetteer/gazetteerlaw08.FlashSure", spec := "flashSure", apart := false }
def FlashSureSaid : Prop := flashSureRow.holds Try.pinned (OpenSpec.ofChange flashSureSpec)

/-- ITS FALSE NEIGHBOUR: 'it returns false'. Refute it at one input. -/
def flashSureWrong : ChangeSpec := { name := "flashSure", fn := fun _ => fun
  | [d1, d2, d3, d4] => { results := [.lit (.bool false)], args := [d1, d2, d3, d4] }
  | _ => none }
def FlashSureWrongFalsely : Prop := flashSureRow.holds Try.pinned (OpenSpec.ofChange flashSureWrong)

/-- 'gazetteerlaw08.FlashTorn': WHATEVER THE INPUT: true; the input reads as it did. -/
def flashTornSpec : ChangeSpec := { name := "flashTorn", fn := fun _ => fun
  | [d1, d2] => { results := [.lit (.bool true)], args := [d1, d2] }
  | _ => none }
def flashTornRow : OpenClaim := { program := "ytpimjachhfnlfaa", sum := "917f0136be3e4085c2f144af4a74e0a07cdae8dd37bcf662fcc605baaa6ece66", func := "gazetteer/gazetteerlaw08.FlashTorn", spec := "flashTorn", apart := false }
def FlashTornSaid : Prop := flashTornRow.holds Try.pinned (OpenSpec.ofChange flashTornSpec)

/-- ITS FALSE NEIGHBOUR: 'it returns false'. Refute it at one input. -/
def flashTornWrong : ChangeSpec := { name := "flashTorn", fn := fun _ => fun
  | [d1, d2] => { results := [.lit (.bool false)], args := [d1, d2] }
  | _ => none }
def FlashTornWrongFalsely : Prop := flashTornRow.holds Try.pinned (OpenSpec.ofChange flashTornWrong)

/-- 'gazetteerlaw08.FlashActs': WHATEVER THE INPUT: true; the input reads as it did. -/
def flashActsSpec : ChangeSpec := { name := "flashActs", fn := fun _ => fun
  | [d1, d2] => { results := [.lit (.bool true)], args := [d1, d2] }
  | _ => none }
def flashActsRow : OpenClaim := { program := "ytpimjachhfnlfaa", sum := "917f0136be3e4085c2f144af4a74e0a07cdae8dd37bcf662fcc605baaa6ece66", func := "gazetteer/gazetteerlaw08.FlashActs", spec := "flashActs", apart := false }
def FlashActsSaid : Prop := flashActsRow.holds Try.pinned (OpenSpec.ofChange flashActsSpec)

/-- ITS FALSE NEIGHBOUR: 'it returns false'. Refute it at one input. -/
def flashActsWrong : ChangeSpec := { name := "flashActs", fn := fun _ => fun
  | [d1, d2] => { results := [.lit (.bool false)], args := [d1, d2] }
  | _ => none }
def FlashActsWrongFalsely : Prop := flashActsRow.holds Try.pinned (OpenSpec.ofChange flashActsWrong)

/-- 'gazetteerlaw08.FlashApart': WHATEVER THE INPUT: true; the input reads as it did. -/
def flashApartSpec : ChangeSpec := { name := "flashApart", fn := fun _ => fun
  | [d1, d2] => { results := [.lit (.bool true)], args := [d1, d2] }
  | _ => none }
def flashApartRow : OpenClaim := { program := "ytpimjachhfnlfaa", sum := "917f0136be3e4085c2f144af4a74e0a07cdae8dd37bcf662fcc605baaa6ece66", func := "gazetteer/gazetteerlaw08.FlashApart", spec := "flashApart", apart := false }
def FlashApartSaid : Prop := flashApartRow.holds Try.pinned (OpenSpec.ofChange flashApartSpec)

/-- ITS FALSE NEIGHBOUR: 'it returns false'. Refute it at one input. -/
def flashApartWrong : ChangeSpec := { name := "flashApart", fn := fun _ => fun
  | [d1, d2] => { results := [.lit (.bool false)], args := [d1, d2] }
  | _ => none }
def FlashApartWrongFalsely : Prop := flashApartRow.holds Try.pinned (OpenSpec.ofChange flashApartWrong)

/-- 'gazetteerlaw10.SuperNil': WHATEVER THE INPUT: true; the input reads as it did. -/
def superNilSpec : ChangeSpec := { name := "superNil", fn := fun _ => fun
  | [d] => { results := [.lit (.bool true)], args := [d] }
  | _ => none }
def superNilRow : OpenClaim := { program := "ytpimjachhfnlfaa", sum := "917f0136be3e4085c2f144af4a74e0a07cdae8dd37bcf662fcc605baaa6ece66", func := "gazetteer/gazetteerlaw10.SuperNil", spec := "superNil", apart := false }
def SuperNilSaid : Prop := superNilRow.holds Try.pinned (OpenSpec.ofChange superNilSpec)

/-- ITS FALSE NEIGHBOUR: 'it returns false'. Refute it at one input. -/
def superNilWrong : ChangeSpec := { name := "superNil", fn := fun _ => fun
  | [d] => { results := [.lit (.bool false)], args := [d] }
  | _ => none }
def SuperNilWrongFalsely : Prop := superNilRow.holds Try.pinned (OpenSpec.ofChange superNilWrong)

/-- 'gazetteerlaw10.SuperCuts': WHATEVER THE INPUT: true; the input reads as it did. -/
def superCutsSpec : ChangeSpec := { name := "superCuts", fn := fun _ => fun
  | [d1, d2, d3, d4] => { results := [.lit (.bool true)], args := [d1, d2, d3, d4] }
  | _ => none }
def superCutsRow : OpenClaim := { program := "ytpimjachhfnlfaa", sum := "917f0136be3e4085c2f144af4a74e0a07cdae8dd37bcf662fcc605baaa6ece66", func := "gazetteer/gazetteerlaw10.SuperCuts", spec := "superCuts", apart := false }
def SuperCutsSaid : Prop := superCutsRow.holds Try.pinned (OpenSpec.ofChange superCutsSpec)

/-- ITS FALSE NEIGHBOUR: 'it returns false'. Refute it at one input. -/
def superCutsWrong : ChangeSpec := { name := "superCuts", fn := fun _ => fun
  | [d1, d2, d3, d4] => { results := [.lit (.bool false)], args := [d1, d2, d3, d4] }
  | _ => none }
def SuperCutsWrongFalsely : Prop := superCutsRow.holds Try.pinned (OpenSpec.ofChange superCutsWrong)

/-- 'gazetteerlaw14.CacheBeaten': WHATEVER THE INPUT: true; the input reads as it did. -/
def cacheBeatenSpec : ChangeSpec := { name := "cacheBeaten", fn := fun _ => fun
  | [d1, d2] => { results := [.lit (.bool true)], args := [d1, d2] }
  | _ => none }
def cacheBeatenRow : OpenClaim := { program := "ytpimjachhfnlfaa", sum := "917f0136be3e4085c2f144af4a74e0a07cdae8dd37bcf662fcc605baaa6ece66", func := "gazetteer/gazetteerlaw14.CacheBeaten", spec := "cacheBeaten", inPlace := ["internal/abi.NoEscape"], unfollowed := true, recurses := true, apart := false }
def CacheBeatenSaid : Prop := cacheBeatenRow.holds Try.pinned (OpenSpec.ofChange cacheBeatenSpec)

/-- ITS FALSE NEIGHBOUR: 'it returns false'. Refute it at one input. -/
def cacheBeatenWrong : ChangeSpec := { name := "cacheBeaten", fn := fun _ => fun
  | [d1, d2] => { results := [.lit (.bool false)], args := [d1, d2] }
  | _ => none }
def CacheBeatenWrongFalsely : Prop := cacheBeatenRow.holds Try.pinned (OpenSpec.ofChange cacheBeatenWrong)

/-- 'gazetteerlaw14.CacheMost': WHATEVER THE INPUT: true; the input reads as it did. -/
def cacheMostSpec : ChangeSpec := { name := "cacheMost", fn := fun _ => fun
  | [d1, d2, d3] => { results := [.lit (.bool true)], args := [d1, d2, d3] }
  | _ => none }
def cacheMostRow : OpenClaim := { program := "ytpimjachhfnlfaa", sum := "917f0136be3e4085c2f144af4a74e0a07cdae8dd37bcf662fcc605baaa6ece66", func := "gazetteer/gazetteerlaw14.CacheMost", spec := "cacheMost", inPlace := ["internal/abi.NoEscape"], unfollowed := true, recurses := true, apart := false }
def CacheMostSaid : Prop := cacheMostRow.holds Try.pinned (OpenSpec.ofChange cacheMostSpec)

/-- ITS FALSE NEIGHBOUR: 'it returns false'. Refute it at one input. -/
def cacheMostWrong : ChangeSpec := { name := "cacheMost", fn := fun _ => fun
  | [d1, d2, d3] => { results := [.lit (.bool false)], args := [d1, d2, d3] }
  | _ => none }
def CacheMostWrongFalsely : Prop := cacheMostRow.holds Try.pinned (OpenSpec.ofChange cacheMostWrong)

/-- 'gazetteerlaw15.CodeEncodes': WHATEVER THE INPUT: true; the input reads as it did. -/
def codeEncodesSpec : ChangeSpec := { name := "codeEncodes", fn := fun _ => fun
  | [d] => { results := [.lit (.bool true)], args := [d] }
  | _ => none }
def codeEncodesRow : OpenClaim := { program := "ytpimjachhfnlfaa", sum := "917f0136be3e4085c2f144af4a74e0a07cdae8dd37bcf662fcc605baaa6ece66", func := "gazetteer/gazetteerlaw15.CodeEncodes", spec := "codeEncodes", unfollowed := true, recurses := true, apart := false }
def CodeEncodesSaid : Prop := codeEncodesRow.holds Try.pinned (OpenSpec.ofChange codeEncodesSpec)

/-- ITS FALSE NEIGHBOUR: 'it returns false'. Refute it at one input. -/
def codeEncodesWrong : ChangeSpec := { name := "codeEncodes", fn := fun _ => fun
  | [d] => { results := [.lit (.bool false)], args := [d] }
  | _ => none }
def CodeEncodesWrongFalsely : Prop := codeEncodesRow.holds Try.pinned (OpenSpec.ofChange codeEncodesWrong)

/-- 'gazetteerlaw15.CodeClock': WHATEVER THE INPUT: true; the input reads as it did. -/
def codeClockSpec : ChangeSpec := { name := "codeClock", fn := fun _ => fun
  | [d1, d2, d3, d4] => { results := [.lit (.bool true)], args := [d1, d2, d3, d4] }
  | _ => none }
def codeClockRow : OpenClaim := { program := "ytpimjachhfnlfaa", sum := "917f0136be3e4085c2f144af4a74e0a07cdae8dd37bcf662fcc605baaa6ece66", func := "gazetteer/gazetteerlaw15.CodeClock", spec := "codeClock", unfollowed := true, recurses := true, apart := false }
def CodeClockSaid : Prop := codeClockRow.holds Try.pinned (OpenSpec.ofChange codeClockSpec)

/-- ITS FALSE NEIGHBOUR: 'it returns false'. Refute it at one input. -/
def codeClockWrong : ChangeSpec := { name := "codeClock", fn := fun _ => fun
  | [d1, d2, d3, d4] => { results := [.lit (.bool false)], args := [d1, d2, d3, d4] }
  | _ => none }
def CodeClockWrongFalsely : Prop := codeClockRow.holds Try.pinned (OpenSpec.ofChange codeClockWrong)

/-- 'gazetteerlaw14.CacheStale': WHATEVER THE INPUT: true; the input reads as it did. -/
def cacheStaleSpec : ChangeSpec := { name := "cacheStale", fn := fun _ => fun
  | [d1, d2, d3, d4] => { results := [.lit (.bool true)], args := [d1, d2, d3, d4] }
  | _ => none }
def cacheStaleRow : OpenClaim := { program := "ytpimjachhfnlfaa", sum := "917f0136be3e4085c2f144af4a74e0a07cdae8dd37bcf662fcc605baaa6ece66", func := "gazetteer/gazetteerlaw14.CacheStale", spec := "cacheStale", inPlace := ["internal/abi.NoEscape"], unfollowed := true, recurses := true, apart := false }
def CacheStaleSaid : Prop := cacheStaleRow.holds Try.pinned (OpenSpec.ofChange cacheStaleSpec)

/-- ITS FALSE NEIGHBOUR: 'it returns false'. Refute it at one input. -/
def cacheStaleWrong : ChangeSpec := { name := "cacheStale", fn := fun _ => fun
  | [d1, d2, d3, d4] => { results := [.lit (.bool false)], args := [d1, d2, d3, d4] }
  | _ => none }
def CacheStaleWrongFalsely : Prop := cacheStaleRow.holds Try.pinned (OpenSpec.ofChange cacheStaleWrong)

/-- 'gazetteerlaw11.SeglogRound': WHATEVER THE INPUT: true; the input reads as it did. -/
def seglogRoundSpec : ChangeSpec := { name := "seglogRound", fn := fun _ => fun
  | [d1, d2] => { results := [.lit (.bool true)], args := [d1, d2] }
  | _ => none }
def seglogRoundRow : OpenClaim := { program := "ytpimjachhfnlfaa", sum := "917f0136be3e4085c2f144af4a74e0a07cdae8dd37bcf662fcc605baaa6ece66", func := "gazetteer/gazetteerlaw11.SeglogRound", spec := "seglogRound", apart := false }
def SeglogRoundSaid : Prop := seglogRoundRow.holds Try.pinned (OpenSpec.ofChange seglogRoundSpec)

/-- ITS FALSE NEIGHBOUR: 'it returns false'. Refute it at one input. -/
def seglogRoundWrong : ChangeSpec := { name := "seglogRound", fn := fun _ => fun
  | [d1, d2] => { results := [.lit (.bool false)], args := [d1, d2] }
  | _ => none }
def SeglogRoundWrongFalsely : Prop := seglogRoundRow.holds Try.pinned (OpenSpec.ofChange seglogRoundWrong)

/-- 'gazetteerlaw11.SeglogOpens': WHATEVER THE INPUT: true; the input reads as it did. -/
def seglogOpensSpec : ChangeSpec := { name := "seglogOpens", fn := fun _ => fun
  | [d1, d2, d3, d4] => { results := [.lit (.bool true)], args := [d1, d2, d3, d4] }
  | _ => none }
def seglogOpensRow : OpenClaim := { program := "ytpimjachhfnlfaa", sum := "917f0136be3e4085c2f144af4a74e0a07cdae8dd37bcf662fcc605baaa6ece66", func := "gazetteer/gazetteerlaw11.SeglogOpens", spec := "seglogOpens", apart := false }
def SeglogOpensSaid : Prop := seglogOpensRow.holds Try.pinned (OpenSpec.ofChange seglogOpensSpec)

/-- ITS FALSE NEIGHBOUR: 'it returns false'. Refute it at one input. -/
def seglogOpensWrong : ChangeSpec := { name := "seglogOpens", fn := fun _ => fun
  | [d1, d2, d3, d4] => { results := [.lit (.bool false)], args := [d1, d2, d3, d4] }
  | _ => none }
def SeglogOpensWrongFalsely : Prop := seglogOpensRow.holds Try.pinned (OpenSpec.ofChange seglogOpensWrong)

/-- 'gazetteerlaw11.SeglogActs': WHATEVER THE INPUT: true; the input reads as it did. -/
def seglogActsSpec : ChangeSpec := { name := "seglogActs", fn := fun _ => fun
  | [d1, d2] => { results := [.lit (.bool true)], args := [d1, d2] }
  | _ => none }
def seglogActsRow : OpenClaim := { program := "ytpimjachhfnlfaa", sum := "917f0136be3e4085c2f144af4a74e0a07cdae8dd37bcf662fcc605baaa6ece66", func := "gazetteer/gazetteerlaw11.SeglogActs", spec := "seglogActs", apart := false }
def SeglogActsSaid : Prop := seglogActsRow.holds Try.pinned (OpenSpec.ofChange seglogActsSpec)

/-- ITS FALSE NEIGHBOUR: 'it returns false'. Refute it at one input. -/
def seglogActsWrong : ChangeSpec := { name := "seglogActs", fn := fun _ => fun
  | [d1, d2] => { results := [.lit (.bool false)], args := [d1, d2] }
  | _ => none }
def SeglogActsWrongFalsely : Prop := seglogActsRow.holds Try.pinned (OpenSpec.ofChange seglogActsWrong)

/-- 'gazetteerlaw15.CodeSpoilt': WHATEVER THE INPUT: true; the input reads as it did. -/
def codeSpoiltSpec : ChangeSpec := { name := "codeSpoilt", fn := fun _ => fun
  | [d1, d2, d3] => { results := [.lit (.bool true)], args := [d1, d2, d3] }
  | _ => none }
def codeSpoiltRow : OpenClaim := { program := "ytpimjachhfnlfaa", sum := "917f0136be3e4085c2f144af4a74e0a07cdae8dd37bcf662fcc605baaa6ece66", func := "gazetteer/gazetteerlaw15.CodeSpoilt", spec := "codeSpoilt", unfollowed := true, recurses := true, apart := false }
def CodeSpoiltSaid : Prop := codeSpoiltRow.holds Try.pinned (OpenSpec.ofChange codeSpoiltSpec)

/-- ITS FALSE NEIGHBOUR: 'it returns false'. Refute it at one input. -/
def codeSpoiltWrong : ChangeSpec := { name := "codeSpoilt", fn := fun _ => fun
  | [d1, d2, d3] => { results := [.lit (.bool false)], args := [d1, d2, d3] }
  | _ => none }
def CodeSpoiltWrongFalsely : Prop := codeSpoiltRow.holds Try.pinned (OpenSpec.ofChange codeSpoiltWrong)

/- THE SECOND FORM. 'bulk': how many values and letters a reading holds, each counted each time it is reached (what is shared counts as often as it is met; a slice's spare places count too). A statement '..UptoSaid' is the law's where the arguments, and the package variables that the reading takes, are together of bulk at most 1048576: NARROWER than '..Said'. Prove '..Said' where nothing that the law and all that it calls make is longer than what came in: it says more and counts as full. Else prove '..UptoSaid'. A law counts once. -/
mutual
def uptoBulk {H : Type} : DataW H → Nat
  | .lit (.string bytes) => bytes.length + 1
  | .lit _ => 1
  | .nil => 1
  | .ptr d => uptoBulk d + 1
  | .slice elems spare => uptoBulkAll elems + uptoBulkAll spare + 1
  | .agg parts => uptoBulkAll parts + 1
  | .iface _ d => uptoBulk d + 1
  | .map entries => uptoBulkEntries entries + 1
  | .held _ => 1
def uptoBulkAll {H : Type} : List (DataW H) → Nat
  | [] => 0
  | d :: r => uptoBulk d + uptoBulkAll r
def uptoBulkEntries {H : Type} : List (Lit × DataW H) → Nat
  | [] => 0
  | x :: r => uptoBulkEntry x + uptoBulkEntries r
def uptoBulkEntry {H : Type} : Lit × DataW H → Nat
  | (.string bytes, d) => bytes.length + uptoBulk d + 1
  | (_, d) => uptoBulk d + 1
 end
def uptoSmall : (H : Type) → List (DataW H) → Bool := fun _ ds => decide (uptoBulkAll ds ≤ 1048576)
def OpenSpec.upto (s : _root_.Go.ChangeSpec) : _root_.Go.OpenSpec := { _root_.Go.OpenSpec.ofChange s with cond := some uptoSmall }

/-- 'gazetteerlaw08.FlashSure', WHERE WHAT IT READS IS OF BULK AT MOST 1048576: true; the input reads as it did. -/
def flashSureUptoRow : OpenClaim := { program := "ytpimjachhfnlfaa", sum := "917f0136be3e4085c2f144af4a74e0a07cdae8dd37bcf662fcc605baaa6ece66", func := "gazetteer/gazetteerlaw08.FlashSure", spec := "flashSure", apart := false, narrowed := true }
def FlashSureUptoSaid : Prop := flashSureUptoRow.holds Try.pinned (OpenSpec.upto flashSureSpec)

/-- 'gazetteerlaw08.FlashTorn', WHERE WHAT IT READS IS OF BULK AT MOST 1048576: true; the input reads as it did. -/
def flashTornUptoRow : OpenClaim := { program := "ytpimjachhfnlfaa", sum := "917f0136be3e4085c2f144af4a74e0a07cdae8dd37bcf662fcc605baaa6ece66", func := "gazetteer/gazetteerlaw08.FlashTorn", spec := "flashTorn", apart := false, narrowed := true }
def FlashTornUptoSaid : Prop := flashTornUptoRow.holds Try.pinned (OpenSpec.upto flashTornSpec)

/-- 'gazetteerlaw08.FlashActs', WHERE WHAT IT READS IS OF BULK AT MOST 1048576: true; the input reads as it did. -/
def flashActsUptoRow : OpenClaim := { program := "ytpimjachhfnlfaa", sum := "917f0136be3e4085c2f144af4a74e0a07cdae8dd37bcf662fcc605baaa6ece66", func := "gazetteer/gazetteerlaw08.FlashActs", spec := "flashActs", apart := false, narrowed := true }
def FlashActsUptoSaid : Prop := flashActsUptoRow.holds Try.pinned (OpenSpec.upto flashActsSpec)

/-- 'gazetteerlaw08.FlashApart', WHERE WHAT IT READS IS OF BULK AT MOST 1048576: true; the input reads as it did. -/
def flashApartUptoRow : OpenClaim := { program := "ytpimjachhfnlfaa", sum := "917f0136be3e4085c2f144af4a74e0a07cdae8dd37bcf662fcc605baaa6ece66", func := "gazetteer/gazetteerlaw08.FlashApart", spec := "flashApart", apart := false, narrowed := true }
def FlashApartUptoSaid : Prop := flashApartUptoRow.holds Try.pinned (OpenSpec.upto flashApartSpec)

/-- 'gazetteerlaw10.SuperNil', WHERE WHAT IT READS IS OF BULK AT MOST 1048576: true; the input reads as it did. -/
def superNilUptoRow : OpenClaim := { program := "ytpimjachhfnlfaa", sum := "917f0136be3e4085c2f144af4a74e0a07cdae8dd37bcf662fcc605baaa6ece66", func := "gazetteer/gazetteerlaw10.SuperNil", spec := "superNil", apart := false, narrowed := true }
def SuperNilUptoSaid : Prop := superNilUptoRow.holds Try.pinned (OpenSpec.upto superNilSpec)

/-- 'gazetteerlaw10.SuperCuts', WHERE WHAT IT READS IS OF BULK AT MOST 1048576: true; the input reads as it did. -/
def superCutsUptoRow : OpenClaim := { program := "ytpimjachhfnlfaa", sum := "917f0136be3e4085c2f144af4a74e0a07cdae8dd37bcf662fcc605baaa6ece66", func := "gazetteer/gazetteerlaw10.SuperCuts", spec := "superCuts", apart := false, narrowed := true }
def SuperCutsUptoSaid : Prop := superCutsUptoRow.holds Try.pinned (OpenSpec.upto superCutsSpec)

/-- 'gazetteerlaw14.CacheBeaten', WHERE WHAT IT READS IS OF BULK AT MOST 1048576: true; the input reads as it did. -/
def cacheBeatenUptoRow : OpenClaim := { program := "ytpimjachhfnlfaa", sum := "917f0136be3e4085c2f144af4a74e0a07cdae8dd37bcf662fcc605baaa6ece66", func := "gazetteer/gazetteerlaw14.CacheBeaten", spec := "cacheBeaten", inPlace := ["internal/abi.NoEscape"], unfollowed := true, recurses := true, apart := false, narrowed := true }
def CacheBeatenUptoSaid : Prop := cacheBeatenUptoRow.holds Try.pinned (OpenSpec.upto cacheBeatenSpec)

/-- 'gazetteerlaw14.CacheMost', WHERE WHAT IT READS IS OF BULK AT MOST 1048576: true; the input reads as it did. -/
def cacheMostUptoRow : OpenClaim := { program := "ytpimjachhfnlfaa", sum := "917f0136be3e4085c2f144af4a74e0a07cdae8dd37bcf662fcc605baaa6ece66", func := "gazetteer/gazetteerlaw14.CacheMost", spec := "cacheMost", inPlace := ["internal/abi.NoEscape"], unfollowed := true, recurses := true, apart := false, narrowed := true }
def CacheMostUptoSaid : Prop := cacheMostUptoRow.holds Try.pinned (OpenSpec.upto cacheMostSpec)

/-- 'gazetteerlaw15.CodeEncodes', WHERE WHAT IT READS IS OF BULK AT MOST 1048576: true; the input reads as it did. -/
def codeEncodesUptoRow : OpenClaim := { program := "ytpimjachhfnlfaa", sum := "917f0136be3e4085c2f144af4a74e0a07cdae8dd37bcf662fcc605baaa6ece66", func := "gazetteer/gazetteerlaw15.CodeEncodes", spec := "codeEncodes", unfollowed := true, recurses := true, apart := false, narrowed := true }
def CodeEncodesUptoSaid : Prop := codeEncodesUptoRow.holds Try.pinned (OpenSpec.upto codeEncodesSpec)

/-- 'gazetteerlaw15.CodeClock', WHERE WHAT IT READS IS OF BULK AT MOST 1048576: true; the input reads as it did. -/
def codeClockUptoRow : OpenClaim := { program := "ytpimjachhfnlfaa", sum := "917f0136be3e4085c2f144af4a74e0a07cdae8dd37bcf662fcc605baaa6ece66", func := "gazetteer/gazetteerlaw15.CodeClock", spec := "codeClock", unfollowed := true, recurses := true, apart := false, narrowed := true }
def CodeClockUptoSaid : Prop := codeClockUptoRow.holds Try.pinned (OpenSpec.upto codeClockSpec)

/-- 'gazetteerlaw14.CacheStale', WHERE WHAT IT READS IS OF BULK AT MOST 1048576: true; the input reads as it did. -/
def cacheStaleUptoRow : OpenClaim := { program := "ytpimjachhfnlfaa", sum := "917f0136be3e4085c2f144af4a74e0a07cdae8dd37bcf662fcc605baaa6ece66", func := "gazetteer/gazetteerlaw14.CacheStale", spec := "cacheStale", inPlace := ["internal/abi.NoEscape"], unfollowed := true, recurses := true, apart := false, narrowed := true }
def CacheStaleUptoSaid : Prop := cacheStaleUptoRow.holds Try.pinned (OpenSpec.upto cacheStaleSpec)

/-- 'gazetteerlaw11.SeglogRound', WHERE WHAT IT READS IS OF BULK AT MOST 1048576: true; the input reads as it did. -/
def seglogRoundUptoRow : OpenClaim := { program := "ytpimjachhfnlfaa", sum := "917f0136be3e4085c2f144af4a74e0a07cdae8dd37bcf662fcc605baaa6ece66", func := "gazetteer/gazetteerlaw11.SeglogRound", spec := "seglogRound", apart := false, narrowed := true }
def SeglogRoundUptoSaid : Prop := seglogRoundUptoRow.holds Try.pinned (OpenSpec.upto seglogRoundSpec)

/-- 'gazetteerlaw11.SeglogOpens', WHERE WHAT IT READS IS OF BULK AT MOST 1048576: true; the input reads as it did. -/
def seglogOpensUptoRow : OpenClaim := { program := "ytpimjachhfnlfaa", sum := "917f0136be3e4085c2f144af4a74e0a07cdae8dd37bcf662fcc605baaa6ece66", func := "gazetteer/gazetteerlaw11.SeglogOpens", spec := "seglogOpens", apart := false, narrowed := true }
def SeglogOpensUptoSaid : Prop := seglogOpensUptoRow.holds Try.pinned (OpenSpec.upto seglogOpensSpec)

/-- 'gazetteerlaw11.SeglogActs', WHERE WHAT IT READS IS OF BULK AT MOST 1048576: true; the input reads as it did. -/
def seglogActsUptoRow : OpenClaim := { program := "ytpimjachhfnlfaa", sum := "917f0136be3e4085c2f144af4a74e0a07cdae8dd37bcf662fcc605baaa6ece66", func := "gazetteer/gazetteerlaw11.SeglogActs", spec := "seglogActs", apart := false, narrowed := true }
def SeglogActsUptoSaid : Prop := seglogActsUptoRow.holds Try.pinned (OpenSpec.upto seglogActsSpec)

/-- 'gazetteerlaw15.CodeSpoilt', WHERE WHAT IT READS IS OF BULK AT MOST 1048576: true; the input reads as it did. -/
def codeSpoiltUptoRow : OpenClaim := { program := "ytpimjachhfnlfaa", sum := "917f0136be3e4085c2f144af4a74e0a07cdae8dd37bcf662fcc605baaa6ece66", func := "gazetteer/gazetteerlaw15.CodeSpoilt", spec := "codeSpoilt", unfollowed := true, recurses := true, apart := false, narrowed := true }
def CodeSpoiltUptoSaid : Prop := codeSpoiltUptoRow.holds Try.pinned (OpenSpec.upto codeSpoiltSpec)

end Rows
end Go.Proofs.Ytpimjachhfnlfaa
