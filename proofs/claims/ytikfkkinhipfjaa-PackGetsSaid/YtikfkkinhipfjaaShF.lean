/- The reference's shape of layer 6: what its loop keeps, and its body. -/
import Derived.Test.YtikfkkinhipfjaaShapeP
namespace Go.Proofs.Ytikfkkinhipfjaa
open Go.RowKit Go.ChangeShapes
set_option linter.unusedVariables false
set_option linter.unusedSimpArgs false

structure PartAt (pre : List Int) (H : List Int → Prop) (ns : List Int) (p : Nat) (r : List Int) : Prop where
  e : ns = pre ++ r
  p : p = pre.length
  ok : H0 ns → H r
theorem PartAt.len {pre ns r : List Int} {H : List Int → Prop} {p : Nat} (h : PartAt pre H ns p r) : p + r.length = ns.length := by
  rw [h.p, h.e, List.length_append]
theorem PartAt.no {pre ns r : List Int} {H : List Int → Prop} {p : Nat} (h : PartAt pre H ns p r) (hn : ¬ H r) : ¬ H0 ns := fun h0 => hn (h.ok h0)
theorem PartAt.more {pre ns r r' x : List Int} {H H' : List Int → Prop} {p p' : Nat} (h : PartAt pre H ns p r) (hr : r = x ++ r') (hp : p' = p + x.length) (hH : H r → H' r') : PartAt (pre ++ x) H' ns p' r' :=
  ⟨by rw [h.e, hr, List.append_assoc], by rw [hp, h.p, List.length_append], fun h0 => hH (h.ok h0)⟩
theorem PartAt.cell {pre ns r : List Int} {H : List Int → Prop} {p j : Nat} {n : Int} {ok : Nat → Prop} {w : World} {ad : Addr} (h : PartAt pre H ns p r) (hC : kI64.C ok w (some ad) ns) (hj : r[j]? = some n) : w.cell? (ad.add (p + j)) = some (.int .i64 n) := by
  rw [h.p]
  exact (at_rest hC h.e hj).1
theorem PartAt.cell' {pre ns r : List Int} {H : List Int → Prop} {p j : Nat} {n : Int} {ok : Nat → Prop} {w : World} {ad : Addr} (h : PartAt pre H ns p r) (hC : kI64.C ok w (some ad) ns) (hj : r[j + 1]? = some n) : w.cell? ⟨ad.block, ad.off + (p + (j + 1)), none⟩ = some (.int .i64 n) := by
  have := h.cell hC hj
  rwa [show ad.add (p + (j + 1)) = ⟨ad.block, ad.off + (p + (j + 1)), none⟩ by unfold Addr.add; rw [if_neg (by omega)]] at this
def pre1 (s : Scr) : List Int := [] ++ [(s.objs.length : Int)] ++ s.objs.flatMap obN
def pre2 (s : Scr) : List Int := pre1 s ++ [(s.progs.length : Int)] ++ s.progs.flatMap rowN
def pre3 (s : Scr) : List Int := pre2 s ++ [(s.picks.length : Int)] ++ s.picks.flatMap pkN
theorem pre3_eq (s : Scr) : pre3 s = scrN s := by simp [pre3, pre2, pre1, scrN]
def Part (ns : List Int) : Nat → Scr → Nat → List Int → Prop
  | 0, s, p, r => s = ⟨[], [], []⟩ ∧ PartAt [] H0 ns p r
  | 1, s, p, r => s.progs = [] ∧ s.picks = [] ∧ lens s ∧ PartAt (pre1 s) H1 ns p r
  | 2, s, p, r => s.picks = [] ∧ lens s ∧ PartAt (pre2 s) H2 ns p r
  | _, s, p, r => lens s ∧ PartAt (pre3 s) H3 ns p r
theorem lens_nil : lens ⟨[], [], []⟩ := ⟨by simp, by simp, by simp, by simp⟩
theorem sh_start (w : World) : ShInv w (w.heap.size + 1) [] [] [] ((w.alloc (.cells #[.slice none 0 0, .slice none 0 0, .slice none 0 0] 26)).alloc (.cells #[.slice none 0 0, .slice none 0 0, .slice none 0 0] 26)) := by
  have b0 := Bx.new w [.slice none 0 0, .slice none 0 0, .slice none 0 0] 26
  generalize hw1 : w.alloc (.cells [.slice none 0 0, .slice none 0 0, .slice none 0 0].toArray 26) = w1 at b0
  have e1 : w1.heap.size = w.heap.size + 1 := by rw [← hw1, alloc_size]
  have bl1 : Below w.heap.size w w1 := by rw [← hw1]; (repeat (with_reducible first | exact Below.refl _ _ | assumption | apply below_alloc | apply below_drewN | apply below_drew1 | (refine below_set ?_ (by simp only [alloc_size]; omega)) | (refine below_step ?_ (by assumption))))
  have b1 := Bx.new w1 [.slice none 0 0, .slice none 0 0, .slice none 0 0] 26
  rw [e1] at b1
  generalize hw2 : w1.alloc (.cells [.slice none 0 0, .slice none 0 0, .slice none 0 0].toArray 26) = w2 at b1
  have bl2 : Below w1.heap.size w1 w2 := by rw [← hw2]; (repeat (with_reducible first | exact Below.refl _ _ | assumption | apply below_alloc | apply below_drewN | apply below_drew1 | (refine below_set ?_ (by simp only [alloc_size]; omega)) | (refine below_step ?_ (by assumption))))
  have b0' : Bx w.heap.size 26 [.slice none 0 0, .slice none 0 0, .slice none 0 0] w2 := b0.only (S := fun _ => False) (Only.of_below bl2) id
  exact ⟨b1.ty, ⟨_, b1.cell 0 _ rfl, World.ownsRow_nil _ _ _ _⟩, ⟨_, [], b1.cell 1 _ rfl, World.ownsRow_nil _ _ _ _, fun i l' hl' => by simp at hl'⟩, ⟨_, b1.cell 2 _ rfl, World.ownsRow_nil _ _ _ _⟩, by omega, b0', below_step bl1 bl2⟩
def firstLoop : Code → Option Code
  | .loop c => some c
  | .seq a b => match firstLoop a with
    | some c => some c
    | none => firstLoop b
  | .block _ c => firstLoop c
  | .scope c => firstLoop c
  | .cond _ a b => match firstLoop a with
    | some c => some c
    | none => firstLoop b
  | _ => none
/-- The body of the loop. -/
noncomputable def shBody : Code := ((Try.f34.body.bind firstLoop).getD .skip)
end Go.Proofs.Ytikfkkinhipfjaa
