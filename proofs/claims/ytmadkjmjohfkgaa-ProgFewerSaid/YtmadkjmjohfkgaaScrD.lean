/- The head of the statements of layer 5, and what they ask of the reference. -/
import Derived.Test.YtmadkjmjohfkgaaScrC
namespace Go.Proofs.Ytmadkjmjohfkgaa
open Go.RowKit
set_option linter.unusedVariables false
set_option linter.unusedSimpArgs false

def plainS : Scr := ⟨[⟨1, false, 0⟩], [[⟨1, 0, 0, -1, false⟩, ⟨3, 0, 0, 0, false⟩]], []⟩
/-- The document's example in four new blocks. -/
theorem plain_at (w : World) (o0 : Obj) : ScrAt (w.heap.size ≤ ·) ((((w.alloc o0).alloc (Obj.cells #[Value.int IntKind.i64 1, Value.bool false, Value.int IntKind.i64 0] 42)).alloc
        (Obj.cells #[Value.int IntKind.i64 1, Value.int IntKind.i64 0, Value.int IntKind.i64 0, Value.int IntKind.i64 (-1), Value.bool false, Value.int IntKind.i64 3, Value.int IntKind.i64 0, Value.int IntKind.i64 0, Value.int IntKind.i64 0, Value.bool false] 46)).alloc
      (Obj.cells #[Value.slice (some ⟨w.heap.size + 1 + 1, 0, none⟩) 2 2] 36)) plainS (some ⟨w.heap.size + 1, 0, none⟩) (some ⟨w.heap.size + 1 + 1 + 1, 0, none⟩) none 1 1 0 := by
  generalize hW : (((w.alloc o0).alloc _).alloc _).alloc _ = W
  have hh : W.heap = (((w.heap.push o0).push (Obj.cells #[Value.int IntKind.i64 1, Value.bool false, Value.int IntKind.i64 0] 42)).push (Obj.cells #[Value.int IntKind.i64 1, Value.int IntKind.i64 0, Value.int IntKind.i64 0, Value.int IntKind.i64 (-1), Value.bool false, Value.int IntKind.i64 3, Value.int IntKind.i64 0, Value.int IntKind.i64 0, Value.int IntKind.i64 0, Value.bool false] 46)).push (Obj.cells #[Value.slice (some ⟨w.heap.size + 1 + 1, 0, none⟩) 2 2] 36) := by subst hW; rfl
  have h1 : W.heap[w.heap.size + 1]? = some (Obj.cells #[Value.int IntKind.i64 1, Value.bool false, Value.int IntKind.i64 0] 42) := by rw [hh]; simp only [Array.getElem?_push, Array.size_push]; rw [if_neg (by omega), if_neg (by omega), if_pos trivial]
  have h2 : W.heap[w.heap.size + 1 + 1]? = some (Obj.cells #[Value.int IntKind.i64 1, Value.int IntKind.i64 0, Value.int IntKind.i64 0, Value.int IntKind.i64 (-1), Value.bool false, Value.int IntKind.i64 3, Value.int IntKind.i64 0, Value.int IntKind.i64 0, Value.int IntKind.i64 0, Value.bool false] 46) := by rw [hh]; simp only [Array.getElem?_push, Array.size_push]; rw [if_neg (by omega), if_pos trivial]
  have h3 : W.heap[w.heap.size + 1 + 1 + 1]? = some (Obj.cells #[Value.slice (some ⟨w.heap.size + 1 + 1, 0, none⟩) 2 2] 36) := by rw [hh]; simp only [Array.getElem?_push, Array.size_push]; rw [if_pos trivial]
  clear hW hh
  refine ⟨C_of_block (css := [Ob.enc ⟨1, false, 0⟩]) rfl ?_ h1 (by decide) (by simp), by decide, C_of_block (css := [[Value.slice (some ⟨w.heap.size + 1 + 1, 0, none⟩) 2 2]]) rfl ?_ h3 (by decide) (by show _ ≤ _; omega), by decide, Kd.C.nil _ _ _ _, by decide⟩
  · intro i x c hx hc
    match i with
    | 0 => simp [plainS] at hx hc; subst hx hc; exact rfl
    | i + 1 => simp at hc
  · intro i x c hx hc
    match i with
    | 0 =>
      simp [plainS] at hx hc
      subst hx hc
      refine ⟨_, _, rfl, by decide, C_of_block (css := [Cl.enc ⟨1, 0, 0, -1, false⟩, Cl.enc ⟨3, 0, 0, 0, false⟩]) rfl ?_ h2 (by decide) (show w.heap.size ≤ w.heap.size + 1 + 1 by omega)⟩
      intro i x c hx hc
      match i with
      | 0 => simp at hx hc; subst hx hc; exact rfl
      | 1 => simp at hx hc; subst hx hc; exact rfl
      | i + 2 => simp at hc
    | i + 1 => simp at hc
set_option maxHeartbeats 800000 in
theorem plain_calls (w : World) : Calls Try.prog 15 #[] w fun e w' => ∃ A0 A1 A2 c0 c1 c2, e = .returned (scrV plainS A0 A1 A2 c0 c1 c2) ∧ ScrAt (w.heap.size ≤ ·) w' plainS A0 A1 A2 c0 c1 c2 ∧ Below w.heap.size w w' := by
  go_enter Try.func15, Try.ntmps15
  go_wp2
  exact bodyPost_ret (v := scrV plainS (some ⟨w.heap.size + 1, 0, none⟩) (some ⟨w.heap.size + 1 + 1 + 1, 0, none⟩) none 1 1 0) (by simp [results, Try.results15, go_sem, scrV, plainS]) rfl ⟨_, _, _, _, _, _, rfl, plain_at _ _, by (repeat (first | exact Below.refl _ _ | assumption | apply below_alloc | apply below_drewN | apply below_drew1 | (refine below_step ?_ (by assumption))))⟩
theorem tab_of (k : Int) (h0 : 0 ≤ k) (h1 : k < 20) : ([0, 1, 1, 1, 2, 2, 2, 2, 3, 3, 4, 4, 4, 4, 4, 4, 1, 1, 1, 5] : List Int).getD k.toNat 0 = ofI k := by
  obtain ⟨n, rfl⟩ := Int.eq_ofNat_of_zero_le h0
  have : ∀ m : Fin 20, ([0, 1, 1, 1, 2, 2, 2, 2, 3, 3, 4, 4, 4, 4, 4, 4, 1, 1, 1, 5] : List Int).getD m.val 0 = ofI (m.val : Int) := by decide
  exact this ⟨n, by omega⟩
theorem tabv_of (k : Int) (h0 : 0 ≤ k) (h1 : k < 20) (hb : k.toNat < ([Value.int IntKind.i64 0, Value.int IntKind.i64 1, Value.int IntKind.i64 1, Value.int IntKind.i64 1, Value.int IntKind.i64 2, Value.int IntKind.i64 2, Value.int IntKind.i64 2, Value.int IntKind.i64 2,
            Value.int IntKind.i64 3, Value.int IntKind.i64 3, Value.int IntKind.i64 4, Value.int IntKind.i64 4, Value.int IntKind.i64 4, Value.int IntKind.i64 4, Value.int IntKind.i64 4, Value.int IntKind.i64 4, Value.int IntKind.i64 1, Value.int IntKind.i64 1, Value.int IntKind.i64 1, Value.int IntKind.i64 5] : List Value).length) :
    [Value.int IntKind.i64 0, Value.int IntKind.i64 1, Value.int IntKind.i64 1, Value.int IntKind.i64 1, Value.int IntKind.i64 2, Value.int IntKind.i64 2, Value.int IntKind.i64 2, Value.int IntKind.i64 2,
            Value.int IntKind.i64 3, Value.int IntKind.i64 3, Value.int IntKind.i64 4, Value.int IntKind.i64 4, Value.int IntKind.i64 4, Value.int IntKind.i64 4, Value.int IntKind.i64 4, Value.int IntKind.i64 4, Value.int IntKind.i64 1, Value.int IntKind.i64 1, Value.int IntKind.i64 1, Value.int IntKind.i64 5][k.toNat]'hb = .int .i64 (ofI k) := by
  rw [← tab_of k h0 h1]
  have e : ([Value.int IntKind.i64 0, Value.int IntKind.i64 1, Value.int IntKind.i64 1, Value.int IntKind.i64 1, Value.int IntKind.i64 2, Value.int IntKind.i64 2, Value.int IntKind.i64 2, Value.int IntKind.i64 2,
            Value.int IntKind.i64 3, Value.int IntKind.i64 3, Value.int IntKind.i64 4, Value.int IntKind.i64 4, Value.int IntKind.i64 4, Value.int IntKind.i64 4, Value.int IntKind.i64 4, Value.int IntKind.i64 4, Value.int IntKind.i64 1, Value.int IntKind.i64 1, Value.int IntKind.i64 1, Value.int IntKind.i64 5] : List Value) = ([0, 1, 1, 1, 2, 2, 2, 2, 3, 3, 4, 4, 4, 4, 4, 4, 1, 1, 1, 5] : List Int).map (.int .i64) := rfl
  simp only [e, List.getElem_map, List.getD_eq_getElem?_getD]
  rw [List.getElem?_eq_getElem (by simp; omega)]
  rfl
set_option maxHeartbeats 800000 in
theorem rof_calls (k : Int) (w : World) : Calls Try.prog 10 #[.int .i64 k] w fun e w' => e = .returned (.int .i64 (ofI k)) ∧ Below w.heap.size w w' := by
  go_enter Try.func10, Try.ntmps10
  go_wp2
  · go_ret
    exact ⟨by congr 2; simp only [ofI]; simp; repeat (rw [if_neg (by omega)]), by (repeat (first | exact Below.refl _ _ | assumption | apply below_alloc | apply below_drewN | apply below_drew1 | (refine below_step ?_ (by assumption))))⟩
  · rename_i h0 h1
    go_ret
    exact ⟨congrArg Ending.returned (tabv_of k h0 h1.2 _), by (repeat (first | exact Below.refl _ _ | assumption | apply below_alloc | apply below_drewN | apply below_drew1 | (refine below_step ?_ (by assumption))))⟩
  · go_ret
    exact ⟨by congr 2; simp only [ofI]; simp; repeat (rw [if_neg (by omega)]), by (repeat (first | exact Below.refl _ _ | assumption | apply below_alloc | apply below_drewN | apply below_drew1 | (refine below_step ?_ (by assumption))))⟩

theorem check_plain : checkE plainS = none := by decide
theorem check_empty : checkE ⟨[], [], []⟩ = some 1 := by decide
theorem scr_nil (w : World) : ScrAt (fun _ => True) w ⟨[], [], []⟩ none none none 0 0 0 := ⟨Kd.C.nil _ _ _ _, by decide, Kd.C.nil _ _ _ _, by decide, Kd.C.nil _ _ _ _, by decide⟩
set_option maxHeartbeats 800000 in
theorem up05_calls (w : World) : Calls Try.prog 6 #[] w fun e w' => e = .returned (.bool true) ∧ Below w.heap.size w w' := by
  have h9 : ofI 9 = 3 := by decide
  have H9 := Lib.hid h9
  clear h9
  have hp := Lib.hid check_plain
  have hq := Lib.hid check_empty
  go_enter Try.func6, Try.ntmps6
  go_wp2_with fail
  refine (plain_calls _).mono ?_
  rintro e w1 ⟨A0, A1, A2, c0, c1, c2, rfl, hs, hb1⟩
  go_wp2_with fail
  refine (check_calls plainS A0 A1 A2 c0 c1 c2 _ hs).mono ?_
  rw [hp.out]
  rintro e w2 ⟨rfl, hb2⟩
  simp only [errV]
  go_wp2_with fail
  refine (check_calls ⟨[], [], []⟩ none none none 0 0 0 _ (scr_nil _)).mono ?_
  rw [hq.out]
  rintro e w3 ⟨rfl, hb3⟩
  simp only [errV]
  go_wp2_with (go_at_call 9; refine (of_calls _ _).mono ?_; rw [H9.out]; rintro e w' ⟨rfl, rfl⟩)
  go_ret
  exact ⟨rfl, by (repeat (first | exact Below.refl _ _ | assumption | apply below_alloc | apply below_drewN | apply below_drew1 | (refine below_step ?_ (by assumption))))⟩
end Go.Proofs.Ytmadkjmjohfkgaa
