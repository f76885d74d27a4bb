/- The walk of PackGets. -/
import Derived.Test.YtikfkkinhipfjaaRGet
import Derived.Test.YtikfkkinhipfjaaOpenB
namespace Go.Proofs.Ytikfkkinhipfjaa
open Go.RowKit Go.ChangeShapes
set_option linter.unusedVariables false
set_option linter.unusedSimpArgs false

theorem getR_ok (l : List Nat) : okE (getR l).1 := by
  intro c h
  unfold getR at h
  split at h
  · cases hc : checkE (getS l).2 with
    | none => rw [hc] at h; cases h
    | some d => rw [hc] at h; exact check_ok _ c (by rw [hc]; exact h)
  · simp at h; omega
set_option maxRecDepth 100000 in
set_option maxHeartbeats 3200000 in
theorem gets_calls (l : List Nat) (A : Option Addr) (c : Nat) (w : World) (hl : kByte.C (fun _ => True) w A l) (hlc : l.length ≤ c) (hx : ∀ x ∈ l, x < 256) :
    Calls Try.prog 4 #[.slice A l.length c] w fun e w' => e = .returned (.bool true) ∧ Below w.heap.size w w' := by
  have hL := Lib.hid hl.bound
  have hX := Lib.hid hx
  have hll := hl.len
  have hok := Lib.hid (getR_ok l)
  clear hl hx
  go_enter Try.func4, Try.ntmps4
  go_wp2_with fail
  refine (up06_calls _).mono ?_
  rintro e w1 ⟨rfl, hb1⟩
  have BB1 := Lib.hid hb1
  have L1 := Lib.hid (hL.out.below hb1)
  have z1 := hb1.size
  clear hb1
  by_cases h4 : 4000 < (l.length : Int)
  · have h4' : decide (4000 < (l.length : Int)) = true := by simpa using h4
    go_wp2_with fail
    go_ret
    exact ⟨rfl, BB1.out⟩
  have h4' : decide (4000 < (l.length : Int)) = false := by simpa using h4
  have hl4 : l.length ≤ 4000 := by omega
  go_wp2_with fail
  refine (get_calls (ok := fun k => True ∧ k < w.heap.size) l A c _ L1.out hX.out hlc (by omega) (fun k hk => Nat.lt_of_lt_of_le hk.2 z1)).mono ?_
  rintro e w2 ⟨G0, G1, G2, h0, h1, h2, rfl, hU, hb2⟩
  have U2 := Lib.hid hU.bound
  have BB2 := Lib.hid (below_step BB1.out hb2)
  have L2 := Lib.hid (L1.out.below hb2)
  have z2 := hb2.size
  obtain ⟨t, ht⟩ : ∃ t, t = (getR l).2 := ⟨_, rfl⟩
  obtain ⟨gv, hgv⟩ : ∃ gv, gv = errV (getR l).1 := ⟨_, rfl⟩
  rw [← ht] at U2 ⊢
  rw [← hgv]
  have HT := Lib.hid ht
  have HGV := Lib.hid hgv
  have V2 := Lib.hid (InBox.new w2 t G0 G1 G2 h0 h1 h2 26)
  clear ht hgv hU hb2
  unfold scrV
  go_wp2_with fail
  have bA : Below w2.heap.size w2 (w2.alloc (.cells #[.slice G0 t.objs.length h0, .slice G1 t.progs.length h1, .slice G2 t.picks.length h2] 26)) := by (repeat (with_reducible first | exact Below.refl _ _ | assumption | apply below_alloc | apply below_drewN | apply below_drew1 | (refine below_set ?_ (by simp only [alloc_size]; omega)) | (refine below_step ?_ (by assumption))))
  refine (rget_calls l A c _ (L2.out.below bA) hX.out hlc (by omega)).mono ?_
  rintro e w3 ⟨F0, F1, F2, d0, d1, d2, rfl, hW, hb3⟩
  rw [← HT.out] at hW ⊢
  have W3 := Lib.hid hW.bound
  have U3 := Lib.hid ((U2.out.below bA).below hb3)
  have V3 := Lib.hid (V2.out.below hb3)
  have BB3 := Lib.hid (below_step (below_step BB2.out bA) hb3)
  have z3 := hb3.size
  rw [alloc_size] at z3
  have lt3 : w2.heap.size < w3.heap.size := by omega
  have Y3 := Lib.hid (InBox.new w3 t F0 F1 F2 d0 d1 d2 26)
  have v0 := V3.out.x0
  have v1 := V3.out.x1
  have v2 := V3.out.x2
  clear hW hb3 bA
  unfold scrV
  go_wp2_with fail
  rw [HGV.out]
  refine (code_calls (getR l).1 hok.out _).mono ?_
  rintro e w4 ⟨rfl, rfl⟩
  have hself : (codeI (getR l).1 == codeI (getR l).1) = true := by simp
  generalize codeI (getR l).1 = cd at hself ⊢
  go_wp2_with fail
  refine (same_calls t t G0 G1 G2 F0 F1 F2 h0 h1 h2 d0 d1 d2 _ (U3.out.below (by (repeat (with_reducible first | exact Below.refl _ _ | assumption | apply below_alloc | apply below_drewN | apply below_drew1 | (refine below_set ?_ (by simp only [alloc_size]; omega)) | (refine below_step ?_ (by assumption)))))) (W3.out.below (by (repeat (with_reducible first | exact Below.refl _ _ | assumption | apply below_alloc | apply below_drewN | apply below_drew1 | (refine below_set ?_ (by simp only [alloc_size]; omega)) | (refine below_step ?_ (by assumption))))))).mono ?_
  rw [show sameB t t = true by simp [sameB]]
  rintro e w5 ⟨rfl, hb5⟩
  have BB5 := Lib.hid (below_step (below_step BB3.out (by (repeat (with_reducible first | exact Below.refl _ _ | assumption | apply below_alloc | apply below_drewN | apply below_drew1 | (refine below_set ?_ (by simp only [alloc_size]; omega)) | (refine below_step ?_ (by assumption)))))) hb5)
  clear hb5
  go_wp2_with fail
  go_ret
  exact ⟨rfl, BB5.out⟩
theorem gets_row (v : Value) (W : World) (h : IsBytes W v) : Calls Try.prog 4 #[v] W fun e W' => e = .returned (.bool true) ∧ Below W.heap.size W W' := by
  obtain ⟨l, A, c, rfl, hc, hl, hx⟩ := h
  exact gets_calls l A c W hl hc hx
end Go.Proofs.Ytikfkkinhipfjaa
