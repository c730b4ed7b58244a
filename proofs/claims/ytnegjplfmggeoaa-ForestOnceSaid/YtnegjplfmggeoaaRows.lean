/-
  No cell of these rows narrows 'for every input' (looked for: loops, veiled, ifaces, maps, wideKeys, modest, calm, conditions, laid).
  DERIVED. THE GIVEN ROWS OF THIS SEAT. 4 by the template 'for every input the law returns true; each argument reads behind the call as it read before'; 0 by the template 'total and deterministic' (their statements: YtnegjplfmggeoaaTotals.lean).
  GIVEN WITH THE SEED: the statements are not yours to turn. If you find one false, say at which input.
  Laid BY PROGRAM, IN A SANDBOX (cutbox-rows.mjs): the forced cells as the released guide's own fill.sh prints them over the translation e4b96429e4763657… (all of the seat's roots in one cut). By AI agents, Wed Nov 11 2026. No macro, syntax, notation, axiom, sorry.
-/
import Derived.Test.YtnegjplfmggeoaaChecked
import GoSem.Claim
import GoSem.ClaimJoined
import GoSem.ClaimMapViews
import Derived.JoinedTies
import Derived.KernelRfl
namespace Go.Proofs.Ytnegjplfmggeoaa
/- THE CELL 'sum', in the pinned program and in every row, IS THE sha256 OF THE DUMP (.gsa) THAT YtnegjplfmggeoaaProg.lean LOADS. Nothing in Lean hashes anything: it is a label: what it is worth is what the hold of that sum in a sandbox is worth. -/
noncomputable def Try.pinned : Pinned := { name := "ytnegjplfmggeoaa", sum := "e4b96429e4763657a78b7ac1a8b9a604e9023e1363ac091d86b6c08621fac3c4", checked := Try.checked }
namespace Rows
def none {H : Type} : Left H := { results := [], args := [] }

/-- 'merkhetlaw11.ForestOnce': WHATEVER THE INPUT: true; the input reads as it did. -/
def forestOnceSpec : ChangeSpec := { name := "forestOnce", fn := fun _ => fun
  | [d] => { results := [.lit (.bool true)], args := [d] }
  | _ => none }
def forestOnceRow : OpenClaim := { program := "ytnegjplfmggeoaa", sum := "e4b96429e4763657a78b7ac1a8b9a604e9023e1363ac091d86b6c08621fac3c4", func := "merkhet/merkhetlaw11.ForestOnce", spec := "forestOnce", unfollowed := true, recurses := true, apart := false }
def ForestOnceSaid : Prop := forestOnceRow.holds Try.pinned (OpenSpec.ofChange forestOnceSpec)

/-- ITS FALSE NEIGHBOUR: 'it returns false'. Refute it at one input. -/
def forestOnceWrong : ChangeSpec := { name := "forestOnce", fn := fun _ => fun
  | [d] => { results := [.lit (.bool false)], args := [d] }
  | _ => none }
def ForestOnceWrongFalsely : Prop := forestOnceRow.holds Try.pinned (OpenSpec.ofChange forestOnceWrong)

/-- 'merkhetlaw23.RequestPuts': WHATEVER THE INPUT: true; the input reads as it did. -/
def requestPutsSpec : ChangeSpec := { name := "requestPuts", fn := fun _ => fun
  | [d] => { results := [.lit (.bool true)], args := [d] }
  | _ => none }
def requestPutsRow : OpenClaim := { program := "ytnegjplfmggeoaa", sum := "e4b96429e4763657a78b7ac1a8b9a604e9023e1363ac091d86b6c08621fac3c4", func := "merkhet/merkhetlaw23.RequestPuts", spec := "requestPuts", apart := false }
def RequestPutsSaid : Prop := requestPutsRow.holds Try.pinned (OpenSpec.ofChange requestPutsSpec)

/-- ITS FALSE NEIGHBOUR: 'it returns false'. Refute it at one input. -/
def requestPutsWrong : ChangeSpec := { name := "requestPuts", fn := fun _ => fun
  | [d] => { results := [.lit (.bool false)], args := [d] }
  | _ => none }
def RequestPutsWrongFalsely : Prop := requestPutsRow.holds Try.pinned (OpenSpec.ofChange requestPutsWrong)

/-- 'merkhetlaw23.RequestGets': WHATEVER THE INPUT: true; the input reads as it did. -/
def requestGetsSpec : ChangeSpec := { name := "requestGets", fn := fun _ => fun
  | [d] => { results := [.lit (.bool true)], args := [d] }
  | _ => none }
def requestGetsRow : OpenClaim := { program := "ytnegjplfmggeoaa", sum := "e4b96429e4763657a78b7ac1a8b9a604e9023e1363ac091d86b6c08621fac3c4", func := "merkhet/merkhetlaw23.RequestGets", spec := "requestGets", apart := false }
def RequestGetsSaid : Prop := requestGetsRow.holds Try.pinned (OpenSpec.ofChange requestGetsSpec)

/-- ITS FALSE NEIGHBOUR: 'it returns false'. Refute it at one input. -/
def requestGetsWrong : ChangeSpec := { name := "requestGets", fn := fun _ => fun
  | [d] => { results := [.lit (.bool false)], args := [d] }
  | _ => none }
def RequestGetsWrongFalsely : Prop := requestGetsRow.holds Try.pinned (OpenSpec.ofChange requestGetsWrong)

/-- 'merkhetlaw23.RequestBodies': WHATEVER THE INPUT: true; the input reads as it did. -/
def requestBodiesSpec : ChangeSpec := { name := "requestBodies", fn := fun _ => fun
  | [d1, d2] => { results := [.lit (.bool true)], args := [d1, d2] }
  | _ => none }
def requestBodiesRow : OpenClaim := { program := "ytnegjplfmggeoaa", sum := "e4b96429e4763657a78b7ac1a8b9a604e9023e1363ac091d86b6c08621fac3c4", func := "merkhet/merkhetlaw23.RequestBodies", spec := "requestBodies", apart := false }
def RequestBodiesSaid : Prop := requestBodiesRow.holds Try.pinned (OpenSpec.ofChange requestBodiesSpec)

/-- ITS FALSE NEIGHBOUR: 'it returns false'. Refute it at one input. -/
def requestBodiesWrong : ChangeSpec := { name := "requestBodies", fn := fun _ => fun
  | [d1, d2] => { results := [.lit (.bool false)], args := [d1, d2] }
  | _ => none }
def RequestBodiesWrongFalsely : Prop := requestBodiesRow.holds Try.pinned (OpenSpec.ofChange requestBodiesWrong)

/- THE SECOND FORM. 'bulk': how many values and letters a reading holds, each counted each time it is reached (what is shared counts as often as it is met; a slice's spare places count too). A statement '..UptoSaid' is the law's where the arguments, and the package variables that the reading takes, are together of bulk at most 1048576: NARROWER than '..Said'. Prove '..Said' where nothing that the law and all that it calls make is longer than what came in: it says more and counts as full. Else prove '..UptoSaid'. A law counts once. -/
mutual
def uptoBulk {H : Type} : DataW H → Nat
  | .lit (.string bytes) => bytes.length + 1
  | .lit _ => 1
  | .nil => 1
  | .ptr d => uptoBulk d + 1
  | .slice elems spare => uptoBulkAll elems + uptoBulkAll spare + 1
  | .agg parts => uptoBulkAll parts + 1
  | .iface _ d => uptoBulk d + 1
  | .map entries => uptoBulkEntries entries + 1
  | .held _ => 1
def uptoBulkAll {H : Type} : List (DataW H) → Nat
  | [] => 0
  | d :: r => uptoBulk d + uptoBulkAll r
def uptoBulkEntries {H : Type} : List (Lit × DataW H) → Nat
  | [] => 0
  | x :: r => uptoBulkEntry x + uptoBulkEntries r
def uptoBulkEntry {H : Type} : Lit × DataW H → Nat
  | (.string bytes, d) => bytes.length + uptoBulk d + 1
  | (_, d) => uptoBulk d + 1
 end
def uptoSmall : (H : Type) → List (DataW H) → Bool := fun _ ds => decide (uptoBulkAll ds ≤ 1048576)
def OpenSpec.upto (s : _root_.Go.ChangeSpec) : _root_.Go.OpenSpec := { _root_.Go.OpenSpec.ofChange s with cond := some uptoSmall }

/-- 'merkhetlaw11.ForestOnce', WHERE WHAT IT READS IS OF BULK AT MOST 1048576: true; the input reads as it did. -/
def forestOnceUptoRow : OpenClaim := { program := "ytnegjplfmggeoaa", sum := "e4b96429e4763657a78b7ac1a8b9a604e9023e1363ac091d86b6c08621fac3c4", func := "merkhet/merkhetlaw11.ForestOnce", spec := "forestOnce", unfollowed := true, recurses := true, apart := false, narrowed := true }
def ForestOnceUptoSaid : Prop := forestOnceUptoRow.holds Try.pinned (OpenSpec.upto forestOnceSpec)

/-- 'merkhetlaw23.RequestPuts', WHERE WHAT IT READS IS OF BULK AT MOST 1048576: true; the input reads as it did. -/
def requestPutsUptoRow : OpenClaim := { program := "ytnegjplfmggeoaa", sum := "e4b96429e4763657a78b7ac1a8b9a604e9023e1363ac091d86b6c08621fac3c4", func := "merkhet/merkhetlaw23.RequestPuts", spec := "requestPuts", apart := false, narrowed := true }
def RequestPutsUptoSaid : Prop := requestPutsUptoRow.holds Try.pinned (OpenSpec.upto requestPutsSpec)

/-- 'merkhetlaw23.RequestGets', WHERE WHAT IT READS IS OF BULK AT MOST 1048576: true; the input reads as it did. -/
def requestGetsUptoRow : OpenClaim := { program := "ytnegjplfmggeoaa", sum := "e4b96429e4763657a78b7ac1a8b9a604e9023e1363ac091d86b6c08621fac3c4", func := "merkhet/merkhetlaw23.RequestGets", spec := "requestGets", apart := false, narrowed := true }
def RequestGetsUptoSaid : Prop := requestGetsUptoRow.holds Try.pinned (OpenSpec.upto requestGetsSpec)

/-- 'merkhetlaw23.RequestBodies', WHERE WHAT IT READS IS OF BULK AT MOST 1048576: true; the input reads as it did. -/
def requestBodiesUptoRow : OpenClaim := { program := "ytnegjplfmggeoaa", sum := "e4b96429e4763657a78b7ac1a8b9a604e9023e1363ac091d86b6c08621fac3c4", func := "merkhet/merkhetlaw23.RequestBodies", spec := "requestBodies", apart := false, narrowed := true }
def RequestBodiesUptoSaid : Prop := requestBodiesUptoRow.holds Try.pinned (OpenSpec.upto requestBodiesSpec)

end Rows
end Go.Proofs.Ytnegjplfmggeoaa
