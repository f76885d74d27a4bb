/- The walk of PackPuts. -/
import Derived.Test.YtikfkkinhipfjaaUp06
import Derived.Test.YtikfkkinhipfjaaOpen
namespace Go.Proofs.Ytikfkkinhipfjaa
open Go.RowKit Go.ChangeShapes
set_option linter.unusedVariables false
set_option linter.unusedSimpArgs false

theorem check_ok (s : Scr) : okE (checkE s) := by
  intro c h
  unfold checkE at h
  repeat' split at h
  all_goals first | (cases h; done) | (cases h; decide)
set_option maxRecDepth 100000 in
set_option maxHeartbeats 800000 in
theorem put_bad {ok : Nat → Prop} (s : Scr) (ce : Int) (A0 A1 A2 : Option Addr) (c0 c1 c2 : Nat) (w : World) (h : ScrAt ok w s A0 A1 A2 c0 c1 c2) (hc : checkE s = some ce) :
    Calls Try.prog 10 #[scrV s A0 A1 A2 c0 c1 c2] w fun e w' => e = .returned (.tuple #[.slice none 0 0, errV (some ce)]) ∧ Below w.heap.size w w' := by
  have hcc := Lib.hid hc
  have hS := Lib.hid h.bound
  clear hc h
  unfold scrV
  go_enter Try.func10, Try.ntmps10
  go_wp2_with fail
  refine (check_calls s A0 A1 A2 c0 c1 c2 _ (hS.out.below (by (repeat (with_reducible first | exact Below.refl _ _ | assumption | apply below_alloc | apply below_drewN | apply below_drew1 | (refine below_set ?_ (by simp only [alloc_size]; omega)) | (refine below_step ?_ (by assumption))))))).mono ?_
  rw [hcc.out]
  rintro e w1 ⟨rfl, hb1⟩
  simp only [errV]
  go_wp2_with fail
  go_ret2
  exact ⟨rfl, by (repeat (with_reducible first | exact Below.refl _ _ | assumption | apply below_alloc | apply below_drewN | apply below_drew1 | (refine below_set ?_ (by simp only [alloc_size]; omega)) | (refine below_step ?_ (by assumption))))⟩
/-- A script that a box holds. -/
structure InBox (w : World) (g : Nat) (s : Scr) (A0 A1 A2 : Option Addr) (c0 c1 c2 : Nat) : Prop where
  x0 : w.cell? ⟨g, 0, none⟩ = some (.slice A0 s.objs.length c0)
  x1 : w.cell? ⟨g, 1, none⟩ = some (.slice A1 s.progs.length c1)
  x2 : w.cell? ⟨g, 2, none⟩ = some (.slice A2 s.picks.length c2)
theorem InBox.below {w w1 : World} {g : Nat} {s : Scr} {A0 A1 A2 : Option Addr} {c0 c1 c2 : Nat} (h : InBox w g s A0 A1 A2 c0 c1 c2) (hb : Below w.heap.size w w1) : InBox w1 g s A0 A1 A2 c0 c1 c2 :=
  ⟨cell_below_of h.x0 hb, cell_below_of h.x1 hb, cell_below_of h.x2 hb⟩
theorem InBox.new (w : World) (s : Scr) (A0 A1 A2 : Option Addr) (c0 c1 c2 T : Nat) : InBox (w.alloc (.cells #[.slice A0 s.objs.length c0, .slice A1 s.progs.length c1, .slice A2 s.picks.length c2] T)) w.heap.size s A0 A1 A2 c0 c1 c2 :=
  ⟨box_cell w [_, _, _] _ rfl, box_cell w [_, _, _] _ rfl, box_cell w [_, _, _] _ rfl⟩
set_option maxRecDepth 100000 in
set_option maxHeartbeats 1600000 in
theorem puts_calls {ok : Nat → Prop} (s : Scr) (A0 A1 A2 : Option Addr) (c0 c1 c2 : Nat) (w : World) (h : ScrAt ok w s A0 A1 A2 c0 c1 c2) :
    Calls Try.prog 3 #[scrV s A0 A1 A2 c0 c1 c2] w fun e w' => e = .returned (.bool true) ∧ Below w.heap.size w w' := by
  have hS := Lib.hid h.bound
  clear h
  have hbx := Lib.hid (InBox.new w s A0 A1 A2 c0 c1 c2 26)
  have hce := Lib.hid (check_ok s)
  unfold scrV
  go_enter Try.func3, Try.ntmps3
  go_wp2_with fail
  refine (up06_calls _).mono ?_
  rintro e w1 ⟨rfl, hb1⟩
  have hS1 := Lib.hid ((hS.out.below (by (repeat (with_reducible first | exact Below.refl _ _ | assumption | apply below_alloc | apply below_drewN | apply below_drew1 | (refine below_set ?_ (by simp only [alloc_size]; omega)) | (refine below_step ?_ (by assumption)))))).below hb1)
  have B1 := Lib.hid (hbx.out.below hb1)
  have e0 := B1.out.x0
  have e1 := B1.out.x1
  have e2 := B1.out.x2
  have bb1 : Below w.heap.size w w1 := box_below hb1
  have BB1 := Lib.hid bb1
  clear hb1 bb1 hbx hS
  go_wp2_with fail
  refine (few_calls s A0 A1 A2 c0 c1 c2 _ hS1.out).mono ?_
  rintro e w2 ⟨rfl, hb2⟩
  have hS2 := Lib.hid (hS1.out.below hb2)
  have B2 := Lib.hid (B1.out.below hb2)
  have BB2 := Lib.hid (below_step BB1.out hb2)
  clear hb2 e0 e1 e2 hS1 B1 BB1
  have e0 := B2.out.x0
  have e1 := B2.out.x1
  have e2 := B2.out.x2
  cases fewB s with
  | false =>
    go_wp2_with fail
    go_ret
    exact ⟨rfl, BB2.out⟩
  | true =>
    cases hc : checkE s with
    | some ce =>
      have hc' := Lib.hid hc
      have ho := hce.out ce hc
      clear hc
      go_wp2_with fail
      refine (put_bad s ce A0 A1 A2 c0 c1 c2 _ hS2.out hc'.out).mono ?_
      rintro e w3 ⟨rfl, hb3⟩
      have hS3 := Lib.hid (hS2.out.below hb3)
      have B3 := Lib.hid (B2.out.below hb3)
      have BB3 := Lib.hid (below_step BB2.out hb3)
      clear hb3 e0 e1 e2 hS2 B2 BB2
      have e0 := B3.out.x0
      have e1 := B3.out.x1
      have e2 := B3.out.x2
      obtain ⟨ev, hev⟩ : ∃ ev, ev = errV (some ce) := ⟨_, rfl⟩
      rw [← hev]
      have HEV := Lib.hid hev
      clear hev
      go_wp2_with fail
      refine (rcheck_calls s A0 A1 A2 c0 c1 c2 _ hS3.out).mono ?_
      rw [hc'.out]
      rintro e w4 ⟨rfl, hb4⟩
      have BB4 := Lib.hid (below_step BB3.out hb4)
      clear hb4 e0 e1 e2 hS3 B3 BB3
      simp only [codeI]
      have hne : (ce != 0) = true := by rw [bne_iff_ne]; omega
      go_wp2_with fail
      rw [HEV.out]
      refine (code_calls (some ce) (fun c h => by cases h; exact ho) _).mono ?_
      simp only [codeI]
      rintro e w5 ⟨rfl, rfl⟩
      go_wp2_with fail
      go_ret
      exact ⟨rfl, BB4.out⟩
    | none =>
      have hc' := Lib.hid hc
      clear hc
      go_wp2_with fail
      refine (put_calls s A0 A1 A2 c0 c1 c2 _ hS2.out hc'.out).mono ?_
      rintro e w3 ⟨v3, rfl, o3, hb3⟩
      have hS3 := Lib.hid (hS2.out.below hb3)
      have B3 := Lib.hid (B2.out.below hb3)
      have BB3 := Lib.hid (below_step BB2.out hb3)
      obtain ⟨A3, c3, rfl, hl3, hC3⟩ := own_bytes o3
      have HC3 := Lib.hid hC3
      clear hb3 e0 e1 e2 hS2 B2 BB2 o3 hC3
      have e0 := B3.out.x0
      have e1 := B3.out.x1
      have e2 := B3.out.x2
      go_wp2_with fail
      refine (rcheck_calls s A0 A1 A2 c0 c1 c2 _ hS3.out).mono ?_
      rw [hc'.out]
      rintro e w4 ⟨rfl, hb4⟩
      have hS4 := Lib.hid (hS3.out.below hb4)
      have B4 := Lib.hid (B3.out.below hb4)
      have BB4 := Lib.hid (below_step BB3.out hb4)
      have HC4 := Lib.hid (HC3.out.below hb4)
      clear hb4 e0 e1 e2 hS3 B3 BB3 HC3
      have e0 := B4.out.x0
      have e1 := B4.out.x1
      have e2 := B4.out.x2
      simp only [codeI]
      go_wp2_with fail
      refine Mix.region [0, 1, 2, 3, 4, 5, 6, 7, 8] [9, 10, 11, 12, 13] 2 (fun w' => Below w4.heap.size w4 w') (by kernel_rfl) (by kernel_rfl) (by (repeat (with_reducible first | exact Below.refl _ _ | assumption | apply below_alloc | apply below_drewN | apply below_drew1 | (refine below_set ?_ (by simp only [alloc_size]; omega)) | (refine below_step ?_ (by assumption))))) ?_
      repeat (apply Mix.step; (· rfl); (· intro w' hR V hV; have q0 := cell_below_of e0 hR; have q1 := cell_below_of e1 hR; have q2 := cell_below_of e2 hR; have q3 := conv_bytes (c := c3) _ (HC4.out.below hR); go_simp; exact hV); intro K hK; go_simp; refine hK _ ?_; clear hK K)
      refine Mix.nil ?_
      simp only [Mix.Tail, Mix.pick, List.getElem?_cons_succ, List.getElem?_cons_zero]
      go_wp2_with fail
      refine (rput_calls s A0 A1 A2 c0 c1 c2 _ (hS4.out.below (by (repeat (with_reducible first | exact Below.refl _ _ | assumption | apply below_alloc | apply below_drewN | apply below_drew1 | (refine below_set ?_ (by simp only [alloc_size]; omega)) | (refine below_step ?_ (by assumption)))))) hc'.out).mono ?_
      rintro e w5 ⟨v5, rfl, o5, hb5⟩
      obtain ⟨A5, c5, rfl, hl5, hC5⟩ := own_bytes o5
      have bb5 : Below w4.heap.size w4 w5 := (below_step (by (repeat (with_reducible first | exact Below.refl _ _ | assumption | apply below_alloc | apply below_drewN | apply below_drew1 | (refine below_set ?_ (by simp only [alloc_size]; omega)) | (refine below_step ?_ (by assumption))))) hb5)
      have q3 := conv_bytes (c := c5) _ hC5
      have BB5 := Lib.hid (below_step BB4.out bb5)
      have bb5' := Lib.hid bb5
      clear hC5 o5 hb5 bb5 e0 e1 e2 hS4
      go_wp2_with fail
      refine ⟨bb5'.out, ?_⟩
      go_wp2_with fail
      refine ⟨bb5'.out, ?_⟩
      go_wp2_with fail
      refine Mix.calm_end ?_
      go_wp2_with fail
      go_ret
      exact ⟨rfl, BB5.out⟩
theorem puts_row (v : Value) (W : World) (h : IsScr W v) : Calls Try.prog 3 #[v] W fun e W' => e = .returned (.bool true) ∧ Below W.heap.size W W' := by
  obtain ⟨s, A0, A1, A2, c0, c1, c2, rfl, hs⟩ := h
  exact puts_calls s A0 A1 A2 c0 c1 c2 W hs
end Go.Proofs.Ytikfkkinhipfjaa
