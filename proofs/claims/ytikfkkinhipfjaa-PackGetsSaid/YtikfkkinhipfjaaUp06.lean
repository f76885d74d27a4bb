/- The head of the statements of layer 6. -/
import Derived.Test.YtikfkkinhipfjaaStr
import Derived.Test.YtikfkkinhipfjaaCode
import Derived.Test.YtikfkkinhipfjaaPutW
namespace Go.Proofs.Ytikfkkinhipfjaa
open Go.RowKit Go.ChangeShapes
set_option linter.unusedVariables false
set_option linter.unusedSimpArgs false

def upS : Scr := ⟨[⟨1, false, 0⟩], [[]], []⟩
theorem up_at (w : World) : ScrAt (fun _ => True) ((w.alloc (.cells #[.int .i64 1, .bool false, .int .i64 0] 48)).alloc (.cells #[.slice none 0 0] 49)) upS (some ⟨w.heap.size, 0, none⟩) (some ⟨w.heap.size + 1, 0, none⟩) none 1 1 0 := by
  have h1 := alloc_heap_lt _ (.cells #[.slice none 0 0] 49) (alloc_heap_at w (.cells #[.int .i64 1, .bool false, .int .i64 0] 48))
  have h2 := alloc2_at w (.cells #[.int .i64 1, .bool false, .int .i64 0] 48) (.cells #[.slice none 0 0] 49)
  refine ⟨C_of_block (css := [Ob.enc ⟨1, false, 0⟩]) rfl ?_ h1 (by decide) trivial, by decide, C_of_block (css := [[.slice none 0 0]]) rfl ?_ h2 (by decide) trivial, by decide, Kd.C.nil _ _ _ _, by decide⟩
  · intro i x c hx hc
    match i with
    | 0 => simp [upS] at hx hc; subst hx hc; exact rfl
    | i + 1 => simp at hc
  · intro i x c hx hc
    match i with
    | 0 => simp [upS] at hx hc; subst hx hc; exact ⟨none, 0, rfl, by simp, Kd.C.nil _ _ _ _⟩
    | i + 1 => simp at hc
theorem up_check : checkE upS = none := by decide
theorem up_put : putB upS = [2, 2, 0, 0, 2, 0, 0] := by
  unfold putB scrN upS numsB
  simp only [List.length_cons, List.length_nil, List.flatMap_cons, List.flatMap_nil, List.append_nil, obN, rowN, bitI, List.nil_append, List.cons_append]
  have h : ∀ u : Nat, u < 128 → leb u = [u] := fun u h => leb_lt h
  simp [numB, zig, h]
theorem up_get : getR [] = (some 2, noS) := by decide
theorem up_str : strB [2, 2, 0, 0, 2, 0, 0] = ⟨#[2, 2, 0, 0, 2, 0, 0]⟩ := by decide
set_option maxRecDepth 100000 in
set_option maxHeartbeats 1600000 in
theorem up06_calls (w : World) : Calls Try.prog 8 #[] w fun e w' => e = .returned (.bool true) ∧ Below w.heap.size w w' := by
  have hat := Lib.hid (up_at w)
  have hp := Lib.hid up_put
  have hg := Lib.hid up_get
  have hs := Lib.hid up_str
  go_enter Try.func8, Try.ntmps8
  go_wp2_with fail
  refine (put_calls upS (some ⟨w.heap.size, 0, none⟩) (some ⟨w.heap.size + 1, 0, none⟩) none 1 1 0 _ hat.out up_check).mono ?_
  rintro e w1 ⟨v, rfl, ho, hb1⟩
  obtain ⟨A, c, rfl, hlc, hC⟩ := own_bytes ho
  rw [hp.out] at hC hlc ⊢
  clear ho
  go_wp2_with fail
  refine (get_calls (ok := fun _ => False) [] none 0 _ (Kd.C.nil _ _ _ _) (by simp) (by simp) (by simp) (fun _ h => h.elim)).mono ?_
  rintro e w2 ⟨A0, A1, A2, c0, c1, c2, rfl, hS, hb2⟩
  rw [hg.out]
  simp only [errV]
  have hcv : ∀ o, (convert 29 9 (.slice A 7 c)).run Try.prog (w2.alloc o) = .ok (.string ⟨#[2, 2, 0, 0, 2, 0, 0]⟩) (w2.alloc o) := fun o => by
    have := conv_bytes (c := c) [2, 2, 0, 0, 2, 0, 0] ((hC.below hb2).below (w1 := w2.alloc o) (by (repeat (with_reducible first | exact Below.refl _ _ | assumption | apply below_alloc | apply below_drewN | apply below_drew1 | (refine below_set ?_ (by simp only [alloc_size]; omega)) | (refine below_step ?_ (by assumption))))))
    rw [hs.out] at this
    exact this
  clear hS hC
  unfold scrV
  go_wp2_with fail
  go_ret
  exact ⟨rfl, by (repeat (with_reducible first | exact Below.refl _ _ | assumption | apply below_alloc | apply below_drewN | apply below_drew1 | (refine below_set ?_ (by simp only [alloc_size]; omega)) | (refine below_step ?_ (by assumption))))⟩
end Go.Proofs.Ytikfkkinhipfjaa
