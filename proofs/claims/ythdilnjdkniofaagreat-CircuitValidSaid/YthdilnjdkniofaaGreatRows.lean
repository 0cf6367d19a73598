/-
  No cell of these rows narrows 'for every input' (looked for: loops, veiled, ifaces, maps, wideKeys, modest, calm, conditions, laid).
  DERIVED. THE GIVEN ROWS OF THIS SEAT. 3 by the template 'for every input the law returns true; each argument reads behind the call as it read before'; 0 by the template 'total and deterministic' (their statements: YthdilnjdkniofaaGreatTotals.lean).
  GIVEN WITH THE SEED: the statements are not yours to turn. If you find one false, say at which input.
  Laid BY PROGRAM, IN A SANDBOX (cutbox-rows.mjs): the forced cells as the released guide's own fill.sh prints them over the translation 0b12fd0957d9ce4a… (all of the seat's roots in one cut). By AI agents, Wed Nov 11 2026. No macro, syntax, notation, axiom, sorry.
-/
import Derived.Test.YthdilnjdkniofaaGreatChecked
import GoSem.Claim
import GoSem.ClaimJoined
import GoSem.ClaimMapViews
import Derived.JoinedTies
import Derived.KernelRfl
namespace Go.Proofs.YthdilnjdkniofaaGreat
/- THE CELL 'sum', in the pinned program and in every row, IS THE sha256 OF THE DUMP (.gsa) THAT YthdilnjdkniofaaGreatProg.lean LOADS. Nothing in Lean hashes anything: it is a label: what it is worth is what the hold of that sum in a sandbox is worth. -/
noncomputable def Tryz.pinned : Pinned := { name := "ythdilnjdkniofaagreat", sum := "0b12fd0957d9ce4afe0d125883d499096a9be5ace8111b7d954c94a39aae0a72", checked := Tryz.checked }
namespace Rows
def none {H : Type} : Left H := { results := [], args := [] }

/-- 'credencelaw29.CircuitValid': WHATEVER THE INPUT: true; the input reads as it did. -/
def circuitValidSpec : ChangeSpec := { name := "circuitValid", fn := fun _ => fun
  | [d1, d2] => { results := [.lit (.bool true)], args := [d1, d2] }
  | _ => none }
def circuitValidRow : OpenClaim := { program := "ythdilnjdkniofaagreat", sum := "0b12fd0957d9ce4afe0d125883d499096a9be5ace8111b7d954c94a39aae0a72", func := "credence/credencelaw29.CircuitValid", spec := "circuitValid", unfollowed := true, recurses := true, apart := false }
def CircuitValidSaid : Prop := circuitValidRow.holds Tryz.pinned (OpenSpec.ofChange circuitValidSpec)

/-- ITS FALSE NEIGHBOUR: 'it returns false'. Refute it at one input. -/
def circuitValidWrong : ChangeSpec := { name := "circuitValid", fn := fun _ => fun
  | [d1, d2] => { results := [.lit (.bool false)], args := [d1, d2] }
  | _ => none }
def CircuitValidWrongFalsely : Prop := circuitValidRow.holds Tryz.pinned (OpenSpec.ofChange circuitValidWrong)

/-- 'credencelaw29.CircuitAny': WHATEVER THE INPUT: true; the input reads as it did. -/
def circuitAnySpec : ChangeSpec := { name := "circuitAny", fn := fun _ => fun
  | [d1, d2] => { results := [.lit (.bool true)], args := [d1, d2] }
  | _ => none }
def circuitAnyRow : OpenClaim := { program := "ythdilnjdkniofaagreat", sum := "0b12fd0957d9ce4afe0d125883d499096a9be5ace8111b7d954c94a39aae0a72", func := "credence/credencelaw29.CircuitAny", spec := "circuitAny", unfollowed := true, recurses := true, apart := false }
def CircuitAnySaid : Prop := circuitAnyRow.holds Tryz.pinned (OpenSpec.ofChange circuitAnySpec)

/-- ITS FALSE NEIGHBOUR: 'it returns false'. Refute it at one input. -/
def circuitAnyWrong : ChangeSpec := { name := "circuitAny", fn := fun _ => fun
  | [d1, d2] => { results := [.lit (.bool false)], args := [d1, d2] }
  | _ => none }
def CircuitAnyWrongFalsely : Prop := circuitAnyRow.holds Tryz.pinned (OpenSpec.ofChange circuitAnyWrong)

/-- 'credencelaw29.CircuitProbability': WHATEVER THE INPUT: true; the input reads as it did. -/
def circuitProbabilitySpec : ChangeSpec := { name := "circuitProbability", fn := fun _ => fun
  | [d1, d2] => { results := [.lit (.bool true)], args := [d1, d2] }
  | _ => none }
def circuitProbabilityRow : OpenClaim := { program := "ythdilnjdkniofaagreat", sum := "0b12fd0957d9ce4afe0d125883d499096a9be5ace8111b7d954c94a39aae0a72", func := "credence/credencelaw29.CircuitProbability", spec := "circuitProbability", unfollowed := true, recurses := true, apart := false }
def CircuitProbabilitySaid : Prop := circuitProbabilityRow.holds Tryz.pinned (OpenSpec.ofChange circuitProbabilitySpec)

/-- ITS FALSE NEIGHBOUR: 'it returns false'. Refute it at one input. -/
def circuitProbabilityWrong : ChangeSpec := { name := "circuitProbability", fn := fun _ => fun
  | [d1, d2] => { results := [.lit (.bool false)], args := [d1, d2] }
  | _ => none }
def CircuitProbabilityWrongFalsely : Prop := circuitProbabilityRow.holds Tryz.pinned (OpenSpec.ofChange circuitProbabilityWrong)

/- THE SECOND FORM. 'bulk': how many values and letters a reading holds, each counted each time it is reached (what is shared counts as often as it is met; a slice's spare places count too). A statement '..UptoSaid' is the law's where the arguments, and the package variables that the reading takes, are together of bulk at most 1048576: NARROWER than '..Said'. Prove '..Said' where nothing that the law and all that it calls make is longer than what came in: it says more and counts as full. Else prove '..UptoSaid'. A law counts once. -/
mutual
def uptoBulk {H : Type} : DataW H → Nat
  | .lit (.string bytes) => bytes.length + 1
  | .lit _ => 1
  | .nil => 1
  | .ptr d => uptoBulk d + 1
  | .slice elems spare => uptoBulkAll elems + uptoBulkAll spare + 1
  | .agg parts => uptoBulkAll parts + 1
  | .iface _ d => uptoBulk d + 1
  | .map entries => uptoBulkEntries entries + 1
  | .held _ => 1
def uptoBulkAll {H : Type} : List (DataW H) → Nat
  | [] => 0
  | d :: r => uptoBulk d + uptoBulkAll r
def uptoBulkEntries {H : Type} : List (Lit × DataW H) → Nat
  | [] => 0
  | x :: r => uptoBulkEntry x + uptoBulkEntries r
def uptoBulkEntry {H : Type} : Lit × DataW H → Nat
  | (.string bytes, d) => bytes.length + uptoBulk d + 1
  | (_, d) => uptoBulk d + 1
 end
def uptoSmall : (H : Type) → List (DataW H) → Bool := fun _ ds => decide (uptoBulkAll ds ≤ 1048576)
def OpenSpec.upto (s : _root_.Go.ChangeSpec) : _root_.Go.OpenSpec := { _root_.Go.OpenSpec.ofChange s with cond := some uptoSmall }

/-- 'credencelaw29.CircuitValid', WHERE WHAT IT READS IS OF BULK AT MOST 1048576: true; the input reads as it did. -/
def circuitValidUptoRow : OpenClaim := { program := "ythdilnjdkniofaagreat", sum := "0b12fd0957d9ce4afe0d125883d499096a9be5ace8111b7d954c94a39aae0a72", func := "credence/credencelaw29.CircuitValid", spec := "circuitValid", unfollowed := true, recurses := true, apart := false, narrowed := true }
def CircuitValidUptoSaid : Prop := circuitValidUptoRow.holds Tryz.pinned (OpenSpec.upto circuitValidSpec)

/-- 'credencelaw29.CircuitAny', WHERE WHAT IT READS IS OF BULK AT MOST 1048576: true; the input reads as it did. -/
def circuitAnyUptoRow : OpenClaim := { program := "ythdilnjdkniofaagreat", sum := "0b12fd0957d9ce4afe0d125883d499096a9be5ace8111b7d954c94a39aae0a72", func := "credence/credencelaw29.CircuitAny", spec := "circuitAny", unfollowed := true, recurses := true, apart := false, narrowed := true }
def CircuitAnyUptoSaid : Prop := circuitAnyUptoRow.holds Tryz.pinned (OpenSpec.upto circuitAnySpec)

/-- 'credencelaw29.CircuitProbability', WHERE WHAT IT READS IS OF BULK AT MOST 1048576: true; the input reads as it did. -/
def circuitProbabilityUptoRow : OpenClaim := { program := "ythdilnjdkniofaagreat", sum := "0b12fd0957d9ce4afe0d125883d499096a9be5ace8111b7d954c94a39aae0a72", func := "credence/credencelaw29.CircuitProbability", spec := "circuitProbability", unfollowed := true, recurses := true, apart := false, narrowed := true }
def CircuitProbabilityUptoSaid : Prop := circuitProbabilityUptoRow.holds Tryz.pinned (OpenSpec.upto circuitProbabilitySpec)

end Rows
end Go.Proofs.YthdilnjdkniofaaGreat
