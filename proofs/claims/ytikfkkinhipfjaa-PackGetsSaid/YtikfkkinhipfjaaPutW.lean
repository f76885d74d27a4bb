/- The walk of pack.Put. -/
import Derived.Test.YtikfkkinhipfjaaPut
import Derived.Test.YtikfkkinhipfjaaMix
namespace Go.Proofs.Ytikfkkinhipfjaa
open Go.RowKit Go.ChangeShapes
set_option linter.unusedVariables false
set_option linter.unusedSimpArgs false
set_option maxRecDepth 100000 in
set_option maxHeartbeats 3200000 in
theorem put_calls {ok : Nat → Prop} (s : Scr) (A0 A1 A2 : Option Addr) (c0 c1 c2 : Nat) (w : World) (h : ScrAt ok w s A0 A1 A2 c0 c1 c2) (hc : checkE s = none) :
    Calls Try.prog 10 #[scrV s A0 A1 A2 c0 c1 c2] w fun e w' => ∃ v, e = .returned (.tuple #[v, .nilIface]) ∧ w'.ownsRow w.heap.size 5 1 v (putB s).length ((putB s).map byteV) ∧ Below w.heap.size w w' := by
  have hS := Lib.hid h.bound
  clear h
  obtain ⟨n0, n1, n2, n3, b0, b1, b2⟩ := check_bounds hc
  have hb0' := Lib.hid b0
  have hb1' := Lib.hid b1
  have hb2' := Lib.hid b2
  have hn2' := Lib.hid n2
  clear b0 b1 b2 n2
  have hcc := Lib.hid hc
  clear hc
  obtain ⟨W0, hW0⟩ : ∃ W0, W0 = w.alloc (.cells #[.slice A0 s.objs.length c0, .slice A1 s.progs.length c1, .slice A2 s.picks.length c2] 26) := ⟨_, rfl⟩
  have a0 : W0.cell? ⟨w.heap.size, 0, none⟩ = some (.slice A0 s.objs.length c0) := by rw [hW0]; exact box_cell w [_, _, _] _ rfl
  have a1 : W0.cell? ⟨w.heap.size, 1, none⟩ = some (.slice A1 s.progs.length c1) := by rw [hW0]; exact box_cell w [_, _, _] _ rfl
  have a2 : W0.cell? ⟨w.heap.size, 2, none⟩ = some (.slice A2 s.picks.length c2) := by rw [hW0]; exact box_cell w [_, _, _] _ rfl
  have hb0 : Below w.heap.size w W0 := by rw [hW0]; (repeat (with_reducible first | exact Below.refl _ _ | assumption | apply below_alloc | apply below_drewN | apply below_drew1 | (refine below_set ?_ (by simp only [alloc_size]; omega)) | (refine below_step ?_ (by assumption))))
  have hz0 : W0.heap.size = w.heap.size + 1 := by rw [hW0, alloc_size]
  unfold scrV
  go_enter Try.func10, Try.ntmps10
  go_wp2_with fail
  rw [← hW0]
  clear hW0
  refine (check_calls s A0 A1 A2 c0 c1 c2 _ (hS.out.below hb0)).mono ?_
  rw [hcc.out]
  rintro e w1 ⟨rfl, hb1⟩
  simp only [errV]
  have d0 := cell_below_of a0 hb1
  have d1 := cell_below_of a1 hb1
  have d2 := cell_below_of a2 hb1
  go_wp2_with fail
  refine (put_more (W0 := W0) (L := []) [(s.objs.length : Int)] _ _ 1 rfl ⟨World.ownsRow_nil _ _ _ _, hb1, by simp, by simp⟩ (by (repeat (with_reducible first | exact Below.refl _ _ | assumption | apply below_alloc | apply below_drewN | apply below_drew1 | (refine below_set ?_ (by simp only [alloc_size]; omega)) | (refine below_step ?_ (by assumption))))) (alloc_heap_at _ _) (Nat.le_refl _) (by simp) (one_wf (by omega))).mono ?_
  rintro e w2 ⟨v2, rfl, hI⟩
  clear d0 d1 d2
  have d0 := cell_below_of a0 hI.bl
  go_wp2_with fail
  go_loopw [5, 27] (fun v i wr => ∃ k : Nat, k ≤ s.objs.length ∧ i = .int .i64 k ∧ PutInv W0 v ([(s.objs.length : Int)] ++ (s.objs.take k).flatMap obN) wr) (fun _ i _ => s.objs.length - (intOf i).toNat)
  case atStart => exact ⟨0, Nat.zero_le _, rfl, by simpa using hI⟩
  case round =>
    clear hI d0
    obtain ⟨k, hk, rfl, hI⟩ := hrel
    by_cases hlt : k < s.objs.length
    · obtain ⟨ad, o, hA, ho0, e0, e1, e2⟩ := at_ob (hS.out.below (below_step hb0 hI.bl)).o k hlt
      have hbd := hb0'.out o (List.mem_of_getElem? ho0)
      have ho := Lib.hid ho0
      clear ho0
      subst hA
      have hL : ([(s.objs.length : Int)] ++ (s.objs.take k).flatMap obN).length ≤ 1 + 3 * k := by
        have h2 : (s.objs.take k).length ≤ k := List.length_take_le _ _
        simp only [List.length_append, List.length_cons, List.length_nil, len_obs]
        omega
      go_wp2_with fail
      refine Mix.region [0, 1, 2, 3, 4, 5, 6, 7] [8, 9, 10] 1 (fun w' => w'.cell? ⟨wr.heap.size, 0, none⟩ = some (.int .i64 o.kind) ∧ w'.cell? ⟨wr.heap.size, 1, none⟩ = some (.bool o.fair) ∧ w'.cell? ⟨wr.heap.size, 2, none⟩ = some (.int .i64 o.n)) (by kernel_rfl) (by kernel_rfl) ?_ ?_
      · exact ⟨by go_simp, by go_simp, by go_simp⟩
      repeat (apply Mix.step; (· rfl); (· intro w' hR V hV; obtain ⟨r0, r1, r2⟩ := hR; go_simp; first | exact hV | exact ⟨_, bit_calls' _ _, hV⟩); intro K hK; go_simp; refine hK _ ?_; clear hK K)
      refine Mix.nil ?_
      simp only [Mix.Tail, Mix.pick, List.getElem?_cons_succ, List.getElem?_cons_zero]
      go_wp2_with fail
      refine ⟨⟨by go_simp, by go_simp, by go_simp⟩, ?_⟩
      go_wp2_with fail
      refine (put_more (W0 := W0) (obN o) _ _ 3 rfl hI (by (repeat (with_reducible first | exact Below.refl _ _ | assumption | apply below_alloc | apply below_drewN | apply below_drew1 | (refine below_set ?_ (by simp only [alloc_size]; omega)) | (refine below_step ?_ (by assumption))))) (by exact alloc2_at _ _ _) (by omega) (by simp only [obN, List.length_cons, List.length_nil]; omega) (ob_wf hbd)).mono ?_
      rintro e w3 ⟨v3, rfl, hI3⟩
      go_wp2_with fail
      refine Mix.calm_end ?_
      go_wp2_with fail
      go_roundw
      case rel => exact ⟨k + 1, by omega, by go_num, by rw [flat_take ho.out, ← List.append_assoc]; exact hI3⟩
      case measure => simp [intOf]; omega
    · obtain rfl : k = s.objs.length := by omega
      rw [List.take_length] at hI
      have hL : ([(s.objs.length : Int)] ++ s.objs.flatMap obN).length ≤ 19 := by simp only [List.length_append, List.length_cons, List.length_nil, len_obs]; omega
      have d1 := cell_below_of a1 hI.bl
      go_wp2_with fail
      refine (put_more (W0 := W0) [(s.progs.length : Int)] _ _ 1 rfl hI (by (repeat (with_reducible first | exact Below.refl _ _ | assumption | apply below_alloc | apply below_drewN | apply below_drew1 | (refine below_set ?_ (by simp only [alloc_size]; omega)) | (refine below_step ?_ (by assumption))))) (alloc_heap_at _ _) (Nat.le_refl _) (by simp only [List.length_cons, List.length_nil]; omega) (one_wf (by omega))).mono ?_
      rintro e w3 ⟨v3, rfl, hI3⟩
      clear d1 hI
      have d1 := cell_below_of a1 hI3.bl
      go_wp2_with fail
      go_loopw [5, 51] (fun v i wr => ∃ k : Nat, k ≤ s.progs.length ∧ i = .int .i64 k ∧ PutInv W0 v ([(s.objs.length : Int)] ++ s.objs.flatMap obN ++ [(s.progs.length : Int)] ++ (s.progs.take k).flatMap rowN) wr) (fun _ i _ => s.progs.length - (intOf i).toNat)
      case atStart => exact ⟨0, Nat.zero_le _, rfl, by simpa using hI3⟩
      case round =>
        clear hI3 d1
        obtain ⟨k, hk, rfl, hI⟩ := hrel
        have hL2 : ([(s.objs.length : Int)] ++ s.objs.flatMap obN ++ [(s.progs.length : Int)] ++ (s.progs.take k).flatMap rowN).length ≤ 20 + 81 * k := by
          have := len_rows (s.progs.take k) (fun l hl => hn2'.out l (List.mem_of_mem_take hl))
          have h2 : (s.progs.take k).length ≤ k := List.length_take_le _ _
          simp only [List.length_append, List.length_cons, List.length_nil] at hL ⊢
          omega
        clear hL
        by_cases hlt : k < s.progs.length
        · obtain ⟨ad, A3, c3, l, hA, ho0, e0, e1, e2⟩ := at_sl hS.out.p k hlt
          have e0' := cell_below_of e0 (below_step hb0 hI.bl)
          have e2' := Lib.hid e2
          clear e0 e2
          have hll := hn2'.out l (List.mem_of_getElem? ho0)
          have hbd0 := hb1'.out l (List.mem_of_getElem? ho0)
          have hbd := Lib.hid hbd0
          have ho := Lib.hid ho0
          clear ho0 hbd0
          subst hA
          go_wp2_with fail
          refine (put_more (W0 := W0) [(l.length : Int)] _ _ 1 rfl hI (by (repeat (with_reducible first | exact Below.refl _ _ | assumption | apply below_alloc | apply below_drewN | apply below_drew1 | (refine below_set ?_ (by simp only [alloc_size]; omega)) | (refine below_step ?_ (by assumption))))) (alloc_heap_at _ _) (Nat.le_refl _) (by simp only [List.length_cons, List.length_nil]; omega) (one_wf (by omega))).mono ?_
          rintro e w4 ⟨v4, rfl, hI4⟩
          clear hI
          obtain ⟨wo, rfl⟩ : ∃ wo : World, wo = wr := ⟨_, rfl⟩
          go_wp2_with fail
          go_loopw [5, 62] (fun v i wr => ∃ j : Nat, j ≤ l.length ∧ i = .int .i64 j ∧ PutInv W0 v ([(s.objs.length : Int)] ++ s.objs.flatMap obN ++ [(s.progs.length : Int)] ++ (s.progs.take k).flatMap rowN ++ [(l.length : Int)] ++ (l.take j).flatMap clN) wr) (fun _ i _ => l.length - (intOf i).toNat)
          case atStart => exact ⟨0, Nat.zero_le _, rfl, by simpa using hI4⟩
          case round =>
            clear hI4
            obtain ⟨j, hj, rfl, hI⟩ := hrel
            have hL3 : ([(s.objs.length : Int)] ++ s.objs.flatMap obN ++ [(s.progs.length : Int)] ++ (s.progs.take k).flatMap rowN ++ [(l.length : Int)] ++ (l.take j).flatMap clN).length ≤ 21 + 81 * k + 5 * j := by
              have h2 : (l.take j).length ≤ j := List.length_take_le _ _
              simp only [List.length_append, List.length_cons, List.length_nil, len_cls] at hL2 ⊢
              omega
            clear hL2
            by_cases hjt : j < l.length
            · obtain ⟨ad, o, hA, hj0, g0, g1, g2, g3, g4⟩ := at_cl (e2'.out.below (below_step hb0 hI.bl)) j hjt
              have hbo := hbd.out o (List.mem_of_getElem? hj0)
              have hjo := Lib.hid hj0
              clear hj0
              subst hA
              go_wp2_with fail
              refine Mix.region [0, 1, 2, 3, 4, 5, 6, 7, 8, 9, 10, 11] [12, 13, 14] 1 (fun w' => w'.cell? ⟨wr.heap.size, 0, none⟩ = some (.int .i64 o.kind) ∧ w'.cell? ⟨wr.heap.size, 1, none⟩ = some (.int .i64 o.obj) ∧ w'.cell? ⟨wr.heap.size, 2, none⟩ = some (.int .i64 o.n) ∧ w'.cell? ⟨wr.heap.size, 3, none⟩ = some (.int .i64 o.wait) ∧ w'.cell? ⟨wr.heap.size, 4, none⟩ = some (.bool o.breaks)) (by kernel_rfl) (by kernel_rfl) ?_ ?_
              · exact ⟨by go_simp, by go_simp, by go_simp, by go_simp, by go_simp⟩
              repeat (apply Mix.step; (· rfl); (· intro w' hR V hV; obtain ⟨r0, r1, r2, r3, r4⟩ := hR; go_simp; first | exact hV | exact ⟨_, bit_calls' _ _, hV⟩); intro K hK; go_simp; refine hK _ ?_; clear hK K)
              refine Mix.nil ?_
              simp only [Mix.Tail, Mix.pick, List.getElem?_cons_succ, List.getElem?_cons_zero]
              go_wp2_with fail
              refine ⟨⟨by go_simp, by go_simp, by go_simp, by go_simp, by go_simp⟩, ?_⟩
              go_wp2_with fail
              refine (put_more (W0 := W0) (clN o) _ _ 5 rfl hI (by (repeat (with_reducible first | exact Below.refl _ _ | assumption | apply below_alloc | apply below_drewN | apply below_drew1 | (refine below_set ?_ (by simp only [alloc_size]; omega)) | (refine below_step ?_ (by assumption))))) (by exact alloc2_at _ _ _) (by omega) (by simp only [clN, List.length_cons, List.length_nil]; omega) (cl_wf n0 hbo)).mono ?_
              rintro e w5 ⟨v5, rfl, hI5⟩
              go_wp2_with fail
              refine Mix.calm_end ?_
              go_wp2_with fail
              go_roundw
              case rel => exact ⟨j + 1, by omega, by go_num, by rw [flat_take hjo.out, ← List.append_assoc]; exact hI5⟩
              case measure => simp [intOf]; omega
            · obtain rfl : j = l.length := by omega
              rw [List.take_length] at hI
              go_wp2_with fail
              go_roundw
              case rel => exact ⟨k + 1, by omega, by go_num, by rw [flat_take ho.out, rowN]; simpa using hI⟩
              case measure => simp [intOf]; omega
        · obtain rfl : k = s.progs.length := by omega
          rw [List.take_length] at hI hL2
          have d2 := cell_below_of a2 hI.bl
          go_wp2_with fail
          refine (put_more (W0 := W0) [(s.picks.length : Int)] _ _ 1 rfl hI (by (repeat (with_reducible first | exact Below.refl _ _ | assumption | apply below_alloc | apply below_drewN | apply below_drew1 | (refine below_set ?_ (by simp only [alloc_size]; omega)) | (refine below_step ?_ (by assumption))))) (alloc_heap_at _ _) (Nat.le_refl _) (by simp only [List.length_cons, List.length_nil]; omega) (one_wf (by omega))).mono ?_
          rintro e w4 ⟨v4, rfl, hI4⟩
          clear d2 hI
          have d2 := cell_below_of a2 hI4.bl
          go_wp2_with fail
          go_loopw [5, 91] (fun v i wr => ∃ k : Nat, k ≤ s.picks.length ∧ i = .int .i64 k ∧ PutInv W0 v ([(s.objs.length : Int)] ++ s.objs.flatMap obN ++ [(s.progs.length : Int)] ++ s.progs.flatMap rowN ++ [(s.picks.length : Int)] ++ (s.picks.take k).flatMap pkN) wr) (fun _ i _ => s.picks.length - (intOf i).toNat)
          case atStart => exact ⟨0, Nat.zero_le _, rfl, by simpa using hI4⟩
          case round =>
            clear hI4 d2
            obtain ⟨k, hk, rfl, hI⟩ := hrel
            have hL3 : ([(s.objs.length : Int)] ++ s.objs.flatMap obN ++ [(s.progs.length : Int)] ++ s.progs.flatMap rowN ++ [(s.picks.length : Int)] ++ (s.picks.take k).flatMap pkN).length ≤ 669 + 2 * k := by
              have h2 : (s.picks.take k).length ≤ k := List.length_take_le _ _
              simp only [List.length_append, List.length_cons, List.length_nil, len_pks] at hL2 ⊢
              omega
            clear hL2
            by_cases hlt : k < s.picks.length
            · obtain ⟨ad, o, hA, ho0, e0, e1⟩ := at_pk (hS.out.below (below_step hb0 hI.bl)).k k hlt
              have hbd := hb2'.out o (List.mem_of_getElem? ho0)
              have ho := Lib.hid ho0
              clear ho0
              subst hA
              go_wp2_with fail
              refine (put_more (W0 := W0) (pkN o) _ _ 2 rfl hI (by (repeat (with_reducible first | exact Below.refl _ _ | assumption | apply below_alloc | apply below_drewN | apply below_drew1 | (refine below_set ?_ (by simp only [alloc_size]; omega)) | (refine below_step ?_ (by assumption))))) (by exact alloc2_at _ _ _) (by omega) (by simp only [pkN, List.length_cons, List.length_nil]; omega) (pk_wf hbd)).mono ?_
              rintro e w5 ⟨v5, rfl, hI5⟩
              go_wp2_with fail
              go_roundw
              case rel => exact ⟨k + 1, by omega, by go_num, by rw [flat_take ho.out, ← List.append_assoc]; exact hI5⟩
              case measure => simp [intOf]; omega
            · obtain rfl : k = s.picks.length := by omega
              rw [List.take_length] at hI
              go_wp2_with fail
              go_ret2
              exact ⟨_, rfl, by exact own_weak hI.own hb0.size, by exact (below_step hb0 hI.bl)⟩
end Go.Proofs.Ytikfkkinhipfjaa
