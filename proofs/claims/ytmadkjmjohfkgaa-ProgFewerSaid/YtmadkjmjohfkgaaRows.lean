/-
  No cell of these rows narrows 'for every input' (looked for: loops, veiled, ifaces, maps, wideKeys, modest, calm, conditions, laid).
  DERIVED. THE GIVEN ROWS OF THIS SEAT. 3 by the template 'for every input the law returns true; each argument reads behind the call as it read before'; 0 by the template 'total and deterministic' (their statements: YtmadkjmjohfkgaaTotals.lean).
  GIVEN WITH THE SEED: the statements are not yours to turn. If you find one false, say at which input.
  Laid BY PROGRAM, IN A SANDBOX (cutbox-rows.mjs): the forced cells as the released guide's own fill.sh prints them over the translation e3e8ce5c48d54103… (all of the seat's roots in one cut). By AI agents, Wed Nov 11 2026. No macro, syntax, notation, axiom, sorry.
-/
import Derived.Test.YtmadkjmjohfkgaaChecked
import GoSem.Claim
import GoSem.ClaimJoined
import GoSem.ClaimMapViews
import Derived.JoinedTies
import Derived.KernelRfl
namespace Go.Proofs.Ytmadkjmjohfkgaa
/- THE CELL 'sum', in the pinned program and in every row, IS THE sha256 OF THE DUMP (.gsa) THAT YtmadkjmjohfkgaaProg.lean LOADS. Nothing in Lean hashes anything: it is a label: what it is worth is what the hold of that sum in a sandbox is worth. -/
noncomputable def Try.pinned : Pinned := { name := "ytmadkjmjohfkgaa", sum := "e3e8ce5c48d54103edbee0047f0a0a79a1f84437ac0354ee5f25171f8a69cad8", checked := Try.checked }
namespace Rows
def none {H : Type} : Left H := { results := [], args := [] }

/-- 'tholelaw05.ProgKinds': WHATEVER THE INPUT: true; the input reads as it did. -/
def progKindsSpec : ChangeSpec := { name := "progKinds", fn := fun _ => fun
  | [d] => { results := [.lit (.bool true)], args := [d] }
  | _ => none }
def progKindsRow : OpenClaim := { program := "ytmadkjmjohfkgaa", sum := "e3e8ce5c48d54103edbee0047f0a0a79a1f84437ac0354ee5f25171f8a69cad8", func := "thole/tholelaw05.ProgKinds", spec := "progKinds", unfollowed := true, recurses := true, apart := false }
def ProgKindsSaid : Prop := progKindsRow.holds Try.pinned (OpenSpec.ofChange progKindsSpec)

/-- ITS FALSE NEIGHBOUR: 'it returns false'. Refute it at one input. -/
def progKindsWrong : ChangeSpec := { name := "progKinds", fn := fun _ => fun
  | [d] => { results := [.lit (.bool false)], args := [d] }
  | _ => none }
def ProgKindsWrongFalsely : Prop := progKindsRow.holds Try.pinned (OpenSpec.ofChange progKindsWrong)

/-- 'tholelaw05.ProgFewer': WHATEVER THE INPUT: true; the input reads as it did. -/
def progFewerSpec : ChangeSpec := { name := "progFewer", fn := fun _ => fun
  | [d1, d2, d3] => { results := [.lit (.bool true)], args := [d1, d2, d3] }
  | _ => none }
def progFewerRow : OpenClaim := { program := "ytmadkjmjohfkgaa", sum := "e3e8ce5c48d54103edbee0047f0a0a79a1f84437ac0354ee5f25171f8a69cad8", func := "thole/tholelaw05.ProgFewer", spec := "progFewer", unfollowed := true, recurses := true, apart := false }
def ProgFewerSaid : Prop := progFewerRow.holds Try.pinned (OpenSpec.ofChange progFewerSpec)

/-- ITS FALSE NEIGHBOUR: 'it returns false'. Refute it at one input. -/
def progFewerWrong : ChangeSpec := { name := "progFewer", fn := fun _ => fun
  | [d1, d2, d3] => { results := [.lit (.bool false)], args := [d1, d2, d3] }
  | _ => none }
def ProgFewerWrongFalsely : Prop := progFewerRow.holds Try.pinned (OpenSpec.ofChange progFewerWrong)

/-- 'tholelaw05.ProgWaiters': WHATEVER THE INPUT: true; the input reads as it did. -/
def progWaitersSpec : ChangeSpec := { name := "progWaiters", fn := fun _ => fun
  | [d] => { results := [.lit (.bool true)], args := [d] }
  | _ => none }
def progWaitersRow : OpenClaim := { program := "ytmadkjmjohfkgaa", sum := "e3e8ce5c48d54103edbee0047f0a0a79a1f84437ac0354ee5f25171f8a69cad8", func := "thole/tholelaw05.ProgWaiters", spec := "progWaiters", unfollowed := true, recurses := true, apart := false }
def ProgWaitersSaid : Prop := progWaitersRow.holds Try.pinned (OpenSpec.ofChange progWaitersSpec)

/-- ITS FALSE NEIGHBOUR: 'it returns false'. Refute it at one input. -/
def progWaitersWrong : ChangeSpec := { name := "progWaiters", fn := fun _ => fun
  | [d] => { results := [.lit (.bool false)], args := [d] }
  | _ => none }
def ProgWaitersWrongFalsely : Prop := progWaitersRow.holds Try.pinned (OpenSpec.ofChange progWaitersWrong)

/- THE SECOND FORM. 'bulk': how many values and letters a reading holds, each counted each time it is reached (what is shared counts as often as it is met; a slice's spare places count too). A statement '..UptoSaid' is the law's where the arguments, and the package variables that the reading takes, are together of bulk at most 1048576: NARROWER than '..Said'. Prove '..Said' where nothing that the law and all that it calls make is longer than what came in: it says more and counts as full. Else prove '..UptoSaid'. A law counts once. -/
mutual
def uptoBulk {H : Type} : DataW H → Nat
  | .lit (.string bytes) => bytes.length + 1
  | .lit _ => 1
  | .nil => 1
  | .ptr d => uptoBulk d + 1
  | .slice elems spare => uptoBulkAll elems + uptoBulkAll spare + 1
  | .agg parts => uptoBulkAll parts + 1
  | .iface _ d => uptoBulk d + 1
  | .map entries => uptoBulkEntries entries + 1
  | .held _ => 1
def uptoBulkAll {H : Type} : List (DataW H) → Nat
  | [] => 0
  | d :: r => uptoBulk d + uptoBulkAll r
def uptoBulkEntries {H : Type} : List (Lit × DataW H) → Nat
  | [] => 0
  | x :: r => uptoBulkEntry x + uptoBulkEntries r
def uptoBulkEntry {H : Type} : Lit × DataW H → Nat
  | (.string bytes, d) => bytes.length + uptoBulk d + 1
  | (_, d) => uptoBulk d + 1
 end
def uptoSmall : (H : Type) → List (DataW H) → Bool := fun _ ds => decide (uptoBulkAll ds ≤ 1048576)
def OpenSpec.upto (s : _root_.Go.ChangeSpec) : _root_.Go.OpenSpec := { _root_.Go.OpenSpec.ofChange s with cond := some uptoSmall }

/-- 'tholelaw05.ProgKinds', WHERE WHAT IT READS IS OF BULK AT MOST 1048576: true; the input reads as it did. -/
def progKindsUptoRow : OpenClaim := { program := "ytmadkjmjohfkgaa", sum := "e3e8ce5c48d54103edbee0047f0a0a79a1f84437ac0354ee5f25171f8a69cad8", func := "thole/tholelaw05.ProgKinds", spec := "progKinds", unfollowed := true, recurses := true, apart := false, narrowed := true }
def ProgKindsUptoSaid : Prop := progKindsUptoRow.holds Try.pinned (OpenSpec.upto progKindsSpec)

/-- 'tholelaw05.ProgFewer', WHERE WHAT IT READS IS OF BULK AT MOST 1048576: true; the input reads as it did. -/
def progFewerUptoRow : OpenClaim := { program := "ytmadkjmjohfkgaa", sum := "e3e8ce5c48d54103edbee0047f0a0a79a1f84437ac0354ee5f25171f8a69cad8", func := "thole/tholelaw05.ProgFewer", spec := "progFewer", unfollowed := true, recurses := true, apart := false, narrowed := true }
def ProgFewerUptoSaid : Prop := progFewerUptoRow.holds Try.pinned (OpenSpec.upto progFewerSpec)

/-- 'tholelaw05.ProgWaiters', WHERE WHAT IT READS IS OF BULK AT MOST 1048576: true; the input reads as it did. -/
def progWaitersUptoRow : OpenClaim := { program := "ytmadkjmjohfkgaa", sum := "e3e8ce5c48d54103edbee0047f0a0a79a1f84437ac0354ee5f25171f8a69cad8", func := "thole/tholelaw05.ProgWaiters", spec := "progWaiters", unfollowed := true, recurses := true, apart := false, narrowed := true }
def ProgWaitersUptoSaid : Prop := progWaitersUptoRow.holds Try.pinned (OpenSpec.upto progWaitersSpec)

end Rows
end Go.Proofs.Ytmadkjmjohfkgaa
