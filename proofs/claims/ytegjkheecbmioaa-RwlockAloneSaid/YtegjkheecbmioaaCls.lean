/- Drawn regions whose callees may make memory: the class of worlds with nothing old changed. Of no program. -/
import Derived.Test.YtegjkheecbmioaaMem
import Derived.BigQuiet
namespace Go.Proofs.Ytegjkheecbmioaa
open Go.RowKit
set_option linter.unusedVariables false
set_option linter.unusedSimpArgs false

/-- A world with nothing old changed. -/
structure WIn (v : World) where
  w : World
  h : Below v.heap.size v w
instance instWIn (v : World) : Nonempty (WIn v) := ⟨⟨v, Below.refl _ _⟩⟩
theorem region_cls {P : Program} {id : Nat} {Q : Exit → Act → World → Prop} {a : Act} {w : World} {l : List Oper} (hm : P.follows .mixedOrders = true) (hB : Region.lexB .any l.toArray = true)
    (h : wpQuiet P l.toArray (fun w' => ∃ u : WIn w, w' = u.w) (fun a' => ∀ w', (∃ u : WIn w, w' = u.w) → Q .normal a' w') l a) : (Code.region id l.toArray true).wp P Q a w :=
  wp_region_quiet (C := fun w' => ∃ u : WIn w, w' = u.w) hm hB ⟨⟨w.drew, (Below.refl _ _).drew⟩, rfl⟩ (by simpa using h)
/-- A callee that makes memory. -/
theorem cls_call {P : Program} {f : FuncId} {args : Array Value} {v : World} {u : WIn v} {x : Value} (h : Calls P f args u.w fun e w' => e = .returned x ∧ Below u.w.heap.size u.w w') : Calls P f args u.w fun e w'' => e = .returned x ∧ ∃ u' : WIn v, w'' = u'.w :=
  h.mono fun e w'' ⟨he, hb⟩ => ⟨he, ⟨w'', below_step u.h hb⟩, rfl⟩
theorem WIn.cell {v : World} (u : WIn v) {a : Addr} {x : Value} (h : v.cell? a = some x) : u.w.cell? a = some x := cell_below_of h u.h
end Go.Proofs.Ytegjkheecbmioaa
