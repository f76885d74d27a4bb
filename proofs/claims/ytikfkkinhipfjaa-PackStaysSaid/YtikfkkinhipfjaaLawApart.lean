/- The walk of PackApart. -/
import Derived.Test.YtikfkkinhipfjaaLawPuts
import Derived.Test.YtikfkkinhipfjaaPk
namespace Go.Proofs.Ytikfkkinhipfjaa
open Go.RowKit Go.ChangeShapes
set_option linter.unusedVariables false
set_option linter.unusedSimpArgs false

theorem putB_byte (s : Scr) : ∀ x ∈ putB s, x < 256 := numsB_byte _
theorem strB_toList (l : List Nat) : (strB l).toList = l.map UInt8.ofNat := by
  rw [ByteArray.toList_eq]
  simp [strB, strOfNums]
theorem same_bytes {a b : List Nat} (ha : ∀ x ∈ a, x < 256) (hb : ∀ x ∈ b, x < 256) : ((strB a).toList == (strB b).toList) = decide (a = b) := by
  rw [Bool.eq_iff_iff, beq_iff_eq, decide_eq_true_eq]
  constructor
  · intro h
    refine strB_inj ha hb ?_
    rw [ByteArray.toList_eq, ByteArray.toList_eq] at h
    cases h1 : strB a with
    | mk x => cases h2 : strB b with
      | mk y => rw [h1, h2] at h; simp only at h; rw [Array.ext' h]
  · rintro rfl; rfl
theorem same_put {a b : Scr} (ha : checkE a = none) (hb : checkE b = none) : ((strB (putB a)).toList == (strB (putB b)).toList) = sameB a b := by
  rw [same_bytes (putB_byte a) (putB_byte b)]
  unfold sameB
  by_cases e : a = b
  · subst e; simp
  · rw [decide_eq_false e, decide_eq_false (fun h => e (putB_inj ha hb h))]
theorem InBox.old {w : World} {s : Scr} {A0 A1 A2 : Option Addr} {c0 c1 c2 T : Nat} (o : Obj) : InBox ((w.alloc (.cells #[.slice A0 s.objs.length c0, .slice A1 s.progs.length c1, .slice A2 s.picks.length c2] T)).alloc o) w.heap.size s A0 A1 A2 c0 c1 c2 :=
  (InBox.new w s A0 A1 A2 c0 c1 c2 T).below (below_alloc (Below.refl _ _) o)
theorem InBox.new2 (w : World) (s : Scr) (A0 A1 A2 : Option Addr) (c0 c1 c2 T : Nat) (o : Obj) : InBox ((w.alloc o).alloc (.cells #[.slice A0 s.objs.length c0, .slice A1 s.progs.length c1, .slice A2 s.picks.length c2] T)) (w.heap.size + 1) s A0 A1 A2 c0 c1 c2 := by
  have := InBox.new (w.alloc o) s A0 A1 A2 c0 c1 c2 T
  rwa [alloc_size] at this
/-- Put, whatever the script is. -/
def PutPost (s : Scr) (w : World) (e : Ending) (w' : World) : Prop :=
  match checkE s with
  | some ce => e = .returned (.tuple #[.slice none 0 0, errV (some ce)]) ∧ Below w.heap.size w w'
  | none => ∃ v, e = .returned (.tuple #[v, .nilIface]) ∧ w'.ownsRow w.heap.size 5 1 v (putB s).length ((putB s).map byteV) ∧ Below w.heap.size w w'
theorem put_any {ok : Nat → Prop} (s : Scr) (A0 A1 A2 : Option Addr) (c0 c1 c2 : Nat) (w : World) (h : ScrAt ok w s A0 A1 A2 c0 c1 c2) :
    Calls Try.prog 10 #[scrV s A0 A1 A2 c0 c1 c2] w (PutPost s w) := by
  unfold PutPost
  cases hc : checkE s with
  | none => exact put_calls s A0 A1 A2 c0 c1 c2 w h hc
  | some ce => exact put_bad s ce A0 A1 A2 c0 c1 c2 w h hc
set_option maxRecDepth 100000 in
set_option maxHeartbeats 3200000 in
theorem apart_calls {ok ok' : Nat → Prop} (s t : Scr) (A0 A1 A2 D0 D1 D2 : Option Addr) (c0 c1 c2 d0 d1 d2 : Nat) (w : World) (h : ScrAt ok w s A0 A1 A2 c0 c1 c2) (h' : ScrAt ok' w t D0 D1 D2 d0 d1 d2) :
    Calls Try.prog 7 #[scrV s A0 A1 A2 c0 c1 c2, scrV t D0 D1 D2 d0 d1 d2] w fun e w' => e = .returned (.bool true) ∧ Below w.heap.size w w' := by
  have hS := Lib.hid h.bound
  have hT := Lib.hid h'.bound
  clear h h'
  have x1 := Lib.hid (InBox.old (w := w) (s := s) (A0 := A0) (A1 := A1) (A2 := A2) (c0 := c0) (c1 := c1) (c2 := c2) (T := 26) (.cells #[.slice D0 t.objs.length d0, .slice D1 t.progs.length d1, .slice D2 t.picks.length d2] 26))
  have y1 := Lib.hid (InBox.new2 w t D0 D1 D2 d0 d1 d2 26 (.cells #[.slice A0 s.objs.length c0, .slice A1 s.progs.length c1, .slice A2 s.picks.length c2] 26))
  unfold scrV
  go_enter Try.func7, Try.ntmps7
  go_wp2_with fail
  refine (up06_calls _).mono ?_
  rintro e w1 ⟨rfl, hb1⟩
  have S1 := Lib.hid ((hS.out.below (by (repeat (with_reducible first | exact Below.refl _ _ | assumption | apply below_alloc | apply below_drewN | apply below_drew1 | (refine below_set ?_ (by simp only [alloc_size]; omega)) | (refine below_step ?_ (by assumption)))))).below hb1)
  have T1 := Lib.hid ((hT.out.below (by (repeat (with_reducible first | exact Below.refl _ _ | assumption | apply below_alloc | apply below_drewN | apply below_drew1 | (refine below_set ?_ (by simp only [alloc_size]; omega)) | (refine below_step ?_ (by assumption)))))).below hb1)
  have X1 := Lib.hid (x1.out.below hb1)
  have Y1 := Lib.hid (y1.out.below hb1)
  have bb1 : Below w.heap.size w w1 := by (repeat (with_reducible first | exact Below.refl _ _ | assumption | apply below_alloc | apply below_drewN | apply below_drew1 | (refine below_set ?_ (by simp only [alloc_size]; omega)) | (refine below_step ?_ (by assumption))))
  have BB1 := Lib.hid bb1
  have e0 := X1.out.x0
  have e1 := X1.out.x1
  have e2 := X1.out.x2
  clear hb1 bb1 x1 y1 hS hT
  go_wp2_with fail
  refine (few_calls s A0 A1 A2 c0 c1 c2 _ S1.out).mono ?_
  rintro e w2 ⟨rfl, hb2⟩
  have S2 := Lib.hid (S1.out.below hb2)
  have T2 := Lib.hid (T1.out.below hb2)
  have X2 := Lib.hid (X1.out.below hb2)
  have Y2 := Lib.hid (Y1.out.below hb2)
  have BB2 := Lib.hid (below_step BB1.out hb2)
  clear hb2 e0 e1 e2 S1 T1 X1 Y1 BB1
  cases fewB s with
  | false =>
    go_wp2_with fail
    go_ret
    exact ⟨rfl, BB2.out⟩
  | true =>
    have f0 := Y2.out.x0
    have f1 := Y2.out.x1
    have f2 := Y2.out.x2
    go_wp2_with fail
    refine (few_calls t D0 D1 D2 d0 d1 d2 _ T2.out).mono ?_
    rintro e w3 ⟨rfl, hb3⟩
    have S3 := Lib.hid (S2.out.below hb3)
    have T3 := Lib.hid (T2.out.below hb3)
    have X3 := Lib.hid (X2.out.below hb3)
    have Y3 := Lib.hid (Y2.out.below hb3)
    have BB3 := Lib.hid (below_step BB2.out hb3)
    clear hb3 f0 f1 f2 S2 T2 X2 Y2 BB2
    cases fewB t with
    | false =>
      go_wp2_with fail
      go_ret
      exact ⟨rfl, BB3.out⟩
    | true =>
      have e0 := X3.out.x0
      have e1 := X3.out.x1
      have e2 := X3.out.x2
      go_wp2_with fail
      refine (put_any s A0 A1 A2 c0 c1 c2 _ S3.out).mono ?_
      unfold PutPost
      cases hcs : checkE s with
      | some ce =>
        simp only [errV]
        rintro e w4 ⟨rfl, hb4⟩
        have T4 := Lib.hid (T3.out.below hb4)
        have Y4 := Lib.hid (Y3.out.below hb4)
        have BB4 := Lib.hid (below_step BB3.out hb4)
        have f0 := Y4.out.x0
        have f1 := Y4.out.x1
        have f2 := Y4.out.x2
        clear hb4 e0 e1 e2 S3 T3 X3 Y3 BB3 hcs
        go_wp2_with fail
        refine (put_any t D0 D1 D2 d0 d1 d2 _ T4.out).mono ?_
        unfold PutPost
        cases hct : checkE t with
        | some ct =>
          simp only [errV]
          rintro e w5 ⟨rfl, hb5⟩
          have BB5 := Lib.hid (below_step BB4.out hb5)
          clear hb5 hct
          go_wp2_with fail
          go_ret
          exact ⟨rfl, BB5.out⟩
        | none =>
          simp only
          rintro e w5 ⟨v5, rfl, o5, hb5⟩
          have BB5 := Lib.hid (below_step BB4.out hb5)
          clear hb5 hct o5
          go_wp2_with fail
          go_ret
          exact ⟨rfl, BB5.out⟩
      | none =>
        simp only
        rintro e w4 ⟨v4, rfl, o4, hb4⟩
        have hcs' := Lib.hid hcs
        have S4 := Lib.hid (S3.out.below hb4)
        have T4 := Lib.hid (T3.out.below hb4)
        have X4 := Lib.hid (X3.out.below hb4)
        have Y4 := Lib.hid (Y3.out.below hb4)
        have BB4 := Lib.hid (below_step BB3.out hb4)
        obtain ⟨A4, c4, rfl, hl4, hC4⟩ := own_bytes o4
        have C4 := Lib.hid hC4
        have f0 := Y4.out.x0
        have f1 := Y4.out.x1
        have f2 := Y4.out.x2
        clear hb4 e0 e1 e2 S3 T3 X3 Y3 BB3 hcs o4 hC4
        go_wp2_with fail
        refine (put_any t D0 D1 D2 d0 d1 d2 _ T4.out).mono ?_
        unfold PutPost
        cases hct : checkE t with
        | some ct =>
          simp only [errV]
          rintro e w5 ⟨rfl, hb5⟩
          have BB5 := Lib.hid (below_step BB4.out hb5)
          clear hb5 hct
          go_wp2_with fail
          go_ret
          exact ⟨rfl, BB5.out⟩
        | none =>
          simp only
          rintro e w5 ⟨v5, rfl, o5, hb5⟩
          have hct' := Lib.hid hct
          have S5 := Lib.hid (S4.out.below hb5)
          have T5 := Lib.hid (T4.out.below hb5)
          have X5 := Lib.hid (X4.out.below hb5)
          have Y5 := Lib.hid (Y4.out.below hb5)
          have C5 := Lib.hid (C4.out.below hb5)
          have BB5 := Lib.hid (below_step BB4.out hb5)
          obtain ⟨A5, c5, rfl, hl5, hD5⟩ := own_bytes o5
          have D5 := Lib.hid hD5
          clear hb5 f0 f1 f2 S4 T4 X4 Y4 BB4 C4 hct o5 hD5
          have e0 := X5.out.x0
          have e1 := X5.out.x1
          have e2 := X5.out.x2
          have f0 := Y5.out.x0
          have f1 := Y5.out.x1
          have f2 := Y5.out.x2
          have hsame := Lib.hid (same_put hcs'.out hct'.out)
          go_wp2_with fail
          refine Mix.region [0, 1, 2, 3, 4, 5, 6, 7, 8] [9, 10, 11, 12] 1 (fun w' => Below w5.heap.size w5 w') (by kernel_rfl) (by kernel_rfl) (by (repeat (with_reducible first | exact Below.refl _ _ | assumption | apply below_alloc | apply below_drewN | apply below_drew1 | (refine below_set ?_ (by simp only [alloc_size]; omega)) | (refine below_step ?_ (by assumption))))) ?_
          repeat (apply Mix.step; (· rfl); (· intro w' hR V hV; have q0 := cell_below_of e0 hR; have q1 := cell_below_of e1 hR; have q2 := cell_below_of e2 hR; have q4 := cell_below_of f0 hR; have q5 := cell_below_of f1 hR; have q6 := cell_below_of f2 hR; have q3 := conv_bytes (c := c4) _ (C5.out.below hR); have q7 := conv_bytes (c := c5) _ (D5.out.below hR); go_simp; exact hV); intro K hK; go_simp; refine hK _ ?_; clear hK K)
          refine Mix.nil ?_
          simp only [Mix.Tail, Mix.pick, List.getElem?_cons_succ, List.getElem?_cons_zero]
          go_wp2_with fail
          refine (same_calls s t A0 A1 A2 D0 D1 D2 c0 c1 c2 d0 d1 d2 _ (S5.out.below (by (repeat (with_reducible first | exact Below.refl _ _ | assumption | apply below_alloc | apply below_drewN | apply below_drew1 | (refine below_set ?_ (by simp only [alloc_size]; omega)) | (refine below_step ?_ (by assumption)))))) (T5.out.below (by (repeat (with_reducible first | exact Below.refl _ _ | assumption | apply below_alloc | apply below_drewN | apply below_drew1 | (refine below_set ?_ (by simp only [alloc_size]; omega)) | (refine below_step ?_ (by assumption))))))).mono ?_
          rintro e w6 ⟨rfl, hb6⟩
          have bb6 : Below w5.heap.size w5 w6 := below_step (by (repeat (with_reducible first | exact Below.refl _ _ | assumption | apply below_alloc | apply below_drewN | apply below_drew1 | (refine below_set ?_ (by simp only [alloc_size]; omega)) | (refine below_step ?_ (by assumption))))) hb6
          have BB6 := Lib.hid (below_step BB5.out bb6)
          have bb6' := Lib.hid bb6
          clear e0 e1 e2 f0 f1 f2 hb6 bb6
          go_wp2_with fail
          refine ⟨bb6'.out, ?_⟩
          go_wp2_with fail
          refine Mix.calm_end ?_
          go_wp2_with fail
          go_ret
          exact ⟨by simp [hsame.out], BB6.out⟩
theorem apart_row (v v' : Value) (W : World) (h : IsScr W v) (h' : IsScr W v') : Calls Try.prog 7 #[v, v'] W fun e W' => e = .returned (.bool true) ∧ Below W.heap.size W W' := by
  obtain ⟨s, A0, A1, A2, c0, c1, c2, rfl, hs⟩ := h
  obtain ⟨t, D0, D1, D2, d0, d1, d2, rfl, ht⟩ := h'
  exact apart_calls s t A0 A1 A2 D0 D1 D2 c0 c1 c2 d0 d1 d2 W hs ht
end Go.Proofs.Ytikfkkinhipfjaa
