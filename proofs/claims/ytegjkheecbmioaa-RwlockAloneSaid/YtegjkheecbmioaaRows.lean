/-
  No cell of these rows narrows 'for every input' (looked for: loops, veiled, ifaces, maps, wideKeys, modest, calm, conditions, laid).
  DERIVED. THE GIVEN ROWS OF THIS SEAT. 5 by the template 'for every input the law returns true; each argument reads behind the call as it read before'; 0 by the template 'total and deterministic' (their statements: YtegjkheecbmioaaTotals.lean).
  GIVEN WITH THE SEED: the statements are not yours to turn. If you find one false, say at which input.
  Laid BY PROGRAM, IN A SANDBOX (cutbox-rows.mjs): the forced cells as the released guide's own fill.sh prints them over the translation d19d1ad8ec3391bb… (all of the seat's roots in one cut). By AI agents, Wed Nov 11 2026. No macro, syntax, notation, axiom, sorry.
-/
import Derived.Test.YtegjkheecbmioaaChecked
import GoSem.Claim
import GoSem.ClaimJoined
import GoSem.ClaimMapViews
import Derived.JoinedTies
import Derived.KernelRfl
namespace Go.Proofs.Ytegjkheecbmioaa
/- THE CELL 'sum', in the pinned program and in every row, IS THE sha256 OF THE DUMP (.gsa) THAT YtegjkheecbmioaaProg.lean LOADS. Nothing in Lean hashes anything: it is a label: what it is worth is what the hold of that sum in a sandbox is worth. -/
noncomputable def Try.pinned : Pinned := { name := "ytegjkheecbmioaa", sum := "d19d1ad8ec3391bbcc6d07ee13f339d25a4905bb1fe7e28f9069038e3383ff33", checked := Try.checked }
namespace Rows
def none {H : Type} : Left H := { results := [], args := [] }

/-- 'tholelaw14.SemaAlone': WHATEVER THE INPUT: true; the input reads as it did. -/
def semaAloneSpec : ChangeSpec := { name := "semaAlone", fn := fun _ => fun
  | [d1, d2] => { results := [.lit (.bool true)], args := [d1, d2] }
  | _ => none }
def semaAloneRow : OpenClaim := { program := "ytegjkheecbmioaa", sum := "d19d1ad8ec3391bbcc6d07ee13f339d25a4905bb1fe7e28f9069038e3383ff33", func := "thole/tholelaw14.SemaAlone", spec := "semaAlone", recurses := true, apart := false }
def SemaAloneSaid : Prop := semaAloneRow.holds Try.pinned (OpenSpec.ofChange semaAloneSpec)

/-- ITS FALSE NEIGHBOUR: 'it returns false'. Refute it at one input. -/
def semaAloneWrong : ChangeSpec := { name := "semaAlone", fn := fun _ => fun
  | [d1, d2] => { results := [.lit (.bool false)], args := [d1, d2] }
  | _ => none }
def SemaAloneWrongFalsely : Prop := semaAloneRow.holds Try.pinned (OpenSpec.ofChange semaAloneWrong)

/-- 'tholelaw18.SwapAlone': WHATEVER THE INPUT: true; the input reads as it did. -/
def swapAloneSpec : ChangeSpec := { name := "swapAlone", fn := fun _ => fun
  | [d] => { results := [.lit (.bool true)], args := [d] }
  | _ => none }
def swapAloneRow : OpenClaim := { program := "ytegjkheecbmioaa", sum := "d19d1ad8ec3391bbcc6d07ee13f339d25a4905bb1fe7e28f9069038e3383ff33", func := "thole/tholelaw18.SwapAlone", spec := "swapAlone", recurses := true, apart := false }
def SwapAloneSaid : Prop := swapAloneRow.holds Try.pinned (OpenSpec.ofChange swapAloneSpec)

/-- ITS FALSE NEIGHBOUR: 'it returns false'. Refute it at one input. -/
def swapAloneWrong : ChangeSpec := { name := "swapAlone", fn := fun _ => fun
  | [d] => { results := [.lit (.bool false)], args := [d] }
  | _ => none }
def SwapAloneWrongFalsely : Prop := swapAloneRow.holds Try.pinned (OpenSpec.ofChange swapAloneWrong)

/-- 'tholelaw15.LatchAlone': WHATEVER THE INPUT: true; the input reads as it did. -/
def latchAloneSpec : ChangeSpec := { name := "latchAlone", fn := fun _ => fun
  | [d1, d2] => { results := [.lit (.bool true)], args := [d1, d2] }
  | _ => none }
def latchAloneRow : OpenClaim := { program := "ytegjkheecbmioaa", sum := "d19d1ad8ec3391bbcc6d07ee13f339d25a4905bb1fe7e28f9069038e3383ff33", func := "thole/tholelaw15.LatchAlone", spec := "latchAlone", recurses := true, apart := false }
def LatchAloneSaid : Prop := latchAloneRow.holds Try.pinned (OpenSpec.ofChange latchAloneSpec)

/-- ITS FALSE NEIGHBOUR: 'it returns false'. Refute it at one input. -/
def latchAloneWrong : ChangeSpec := { name := "latchAlone", fn := fun _ => fun
  | [d1, d2] => { results := [.lit (.bool false)], args := [d1, d2] }
  | _ => none }
def LatchAloneWrongFalsely : Prop := latchAloneRow.holds Try.pinned (OpenSpec.ofChange latchAloneWrong)

/-- 'tholelaw15.LatchWaits': WHATEVER THE INPUT: true; the input reads as it did. -/
def latchWaitsSpec : ChangeSpec := { name := "latchWaits", fn := fun _ => fun
  | [d] => { results := [.lit (.bool true)], args := [d] }
  | _ => none }
def latchWaitsRow : OpenClaim := { program := "ytegjkheecbmioaa", sum := "d19d1ad8ec3391bbcc6d07ee13f339d25a4905bb1fe7e28f9069038e3383ff33", func := "thole/tholelaw15.LatchWaits", spec := "latchWaits", recurses := true, apart := false }
def LatchWaitsSaid : Prop := latchWaitsRow.holds Try.pinned (OpenSpec.ofChange latchWaitsSpec)

/-- ITS FALSE NEIGHBOUR: 'it returns false'. Refute it at one input. -/
def latchWaitsWrong : ChangeSpec := { name := "latchWaits", fn := fun _ => fun
  | [d] => { results := [.lit (.bool false)], args := [d] }
  | _ => none }
def LatchWaitsWrongFalsely : Prop := latchWaitsRow.holds Try.pinned (OpenSpec.ofChange latchWaitsWrong)

/-- 'tholelaw16.RwlockAlone': WHATEVER THE INPUT: true; the input reads as it did. -/
def rwlockAloneSpec : ChangeSpec := { name := "rwlockAlone", fn := fun _ => fun
  | [d1, d2] => { results := [.lit (.bool true)], args := [d1, d2] }
  | _ => none }
def rwlockAloneRow : OpenClaim := { program := "ytegjkheecbmioaa", sum := "d19d1ad8ec3391bbcc6d07ee13f339d25a4905bb1fe7e28f9069038e3383ff33", func := "thole/tholelaw16.RwlockAlone", spec := "rwlockAlone", recurses := true, apart := false }
def RwlockAloneSaid : Prop := rwlockAloneRow.holds Try.pinned (OpenSpec.ofChange rwlockAloneSpec)

/-- ITS FALSE NEIGHBOUR: 'it returns false'. Refute it at one input. -/
def rwlockAloneWrong : ChangeSpec := { name := "rwlockAlone", fn := fun _ => fun
  | [d1, d2] => { results := [.lit (.bool false)], args := [d1, d2] }
  | _ => none }
def RwlockAloneWrongFalsely : Prop := rwlockAloneRow.holds Try.pinned (OpenSpec.ofChange rwlockAloneWrong)

/- THE SECOND FORM. 'bulk': how many values and letters a reading holds, each counted each time it is reached (what is shared counts as often as it is met; a slice's spare places count too). A statement '..UptoSaid' is the law's where the arguments, and the package variables that the reading takes, are together of bulk at most 1048576: NARROWER than '..Said'. Prove '..Said' where nothing that the law and all that it calls make is longer than what came in: it says more and counts as full. Else prove '..UptoSaid'. A law counts once. -/
mutual
def uptoBulk {H : Type} : DataW H → Nat
  | .lit (.string bytes) => bytes.length + 1
  | .lit _ => 1
  | .nil => 1
  | .ptr d => uptoBulk d + 1
  | .slice elems spare => uptoBulkAll elems + uptoBulkAll spare + 1
  | .agg parts => uptoBulkAll parts + 1
  | .iface _ d => uptoBulk d + 1
  | .map entries => uptoBulkEntries entries + 1
  | .held _ => 1
def uptoBulkAll {H : Type} : List (DataW H) → Nat
  | [] => 0
  | d :: r => uptoBulk d + uptoBulkAll r
def uptoBulkEntries {H : Type} : List (Lit × DataW H) → Nat
  | [] => 0
  | x :: r => uptoBulkEntry x + uptoBulkEntries r
def uptoBulkEntry {H : Type} : Lit × DataW H → Nat
  | (.string bytes, d) => bytes.length + uptoBulk d + 1
  | (_, d) => uptoBulk d + 1
 end
def uptoSmall : (H : Type) → List (DataW H) → Bool := fun _ ds => decide (uptoBulkAll ds ≤ 1048576)
def OpenSpec.upto (s : _root_.Go.ChangeSpec) : _root_.Go.OpenSpec := { _root_.Go.OpenSpec.ofChange s with cond := some uptoSmall }

/-- 'tholelaw14.SemaAlone', WHERE WHAT IT READS IS OF BULK AT MOST 1048576: true; the input reads as it did. -/
def semaAloneUptoRow : OpenClaim := { program := "ytegjkheecbmioaa", sum := "d19d1ad8ec3391bbcc6d07ee13f339d25a4905bb1fe7e28f9069038e3383ff33", func := "thole/tholelaw14.SemaAlone", spec := "semaAlone", recurses := true, apart := false, narrowed := true }
def SemaAloneUptoSaid : Prop := semaAloneUptoRow.holds Try.pinned (OpenSpec.upto semaAloneSpec)

/-- 'tholelaw18.SwapAlone', WHERE WHAT IT READS IS OF BULK AT MOST 1048576: true; the input reads as it did. -/
def swapAloneUptoRow : OpenClaim := { program := "ytegjkheecbmioaa", sum := "d19d1ad8ec3391bbcc6d07ee13f339d25a4905bb1fe7e28f9069038e3383ff33", func := "thole/tholelaw18.SwapAlone", spec := "swapAlone", recurses := true, apart := false, narrowed := true }
def SwapAloneUptoSaid : Prop := swapAloneUptoRow.holds Try.pinned (OpenSpec.upto swapAloneSpec)

/-- 'tholelaw15.LatchAlone', WHERE WHAT IT READS IS OF BULK AT MOST 1048576: true; the input reads as it did. -/
def latchAloneUptoRow : OpenClaim := { program := "ytegjkheecbmioaa", sum := "d19d1ad8ec3391bbcc6d07ee13f339d25a4905bb1fe7e28f9069038e3383ff33", func := "thole/tholelaw15.LatchAlone", spec := "latchAlone", recurses := true, apart := false, narrowed := true }
def LatchAloneUptoSaid : Prop := latchAloneUptoRow.holds Try.pinned (OpenSpec.upto latchAloneSpec)

/-- 'tholelaw15.LatchWaits', WHERE WHAT IT READS IS OF BULK AT MOST 1048576: true; the input reads as it did. -/
def latchWaitsUptoRow : OpenClaim := { program := "ytegjkheecbmioaa", sum := "d19d1ad8ec3391bbcc6d07ee13f339d25a4905bb1fe7e28f9069038e3383ff33", func := "thole/tholelaw15.LatchWaits", spec := "latchWaits", recurses := true, apart := false, narrowed := true }
def LatchWaitsUptoSaid : Prop := latchWaitsUptoRow.holds Try.pinned (OpenSpec.upto latchWaitsSpec)

/-- 'tholelaw16.RwlockAlone', WHERE WHAT IT READS IS OF BULK AT MOST 1048576: true; the input reads as it did. -/
def rwlockAloneUptoRow : OpenClaim := { program := "ytegjkheecbmioaa", sum := "d19d1ad8ec3391bbcc6d07ee13f339d25a4905bb1fe7e28f9069038e3383ff33", func := "thole/tholelaw16.RwlockAlone", spec := "rwlockAlone", recurses := true, apart := false, narrowed := true }
def RwlockAloneUptoSaid : Prop := rwlockAloneUptoRow.holds Try.pinned (OpenSpec.upto rwlockAloneSpec)

end Rows
end Go.Proofs.Ytegjkheecbmioaa
