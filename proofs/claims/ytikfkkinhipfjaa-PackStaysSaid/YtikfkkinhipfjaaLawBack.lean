/- The walk of PackBack. -/
import Derived.Test.YtikfkkinhipfjaaLawApart
import Derived.Test.YtikfkkinhipfjaaOpenB
namespace Go.Proofs.Ytikfkkinhipfjaa
open Go.RowKit Go.ChangeShapes
set_option linter.unusedVariables false
set_option linter.unusedSimpArgs false

theorem own_empty (w : World) (T U : Nat) : (w.alloc (.cells #[] T)).ownsRow w.heap.size T 1 (.slice (some ⟨w.heap.size, 0, none⟩) 0 0) 0 [] :=
  ⟨rfl, .inr ⟨w.heap.size, 0, #[], rfl, Nat.le_refl _, alloc_heap_at w _, Nat.le_refl _, Nat.zero_le _, rfl, rfl⟩⟩
theorem own_empty1 (w : World) (o : Obj) (T : Nat) : ((w.alloc o).alloc (.cells #[] T)).ownsRow (w.heap.size + 1) T 1 (.slice (some ⟨w.heap.size + 1, 0, none⟩) 0 0) 0 [] := by
  have := own_empty (w.alloc o) T 0
  rwa [alloc_size] at this
theorem Src.of_bytes {ok : Nat → Prop} {w : World} {A : Option Addr} {c : Nat} {l : List Nat} (h : kByte.C ok w A l) : Src w (.slice A l.length c) l.length (l.map byteV) := by
  have e : l.map byteV = l.flatMap (fun x => [byteV x]) := by
    clear h
    induction l with
    | nil => rfl
    | cons a l ih => simp only [List.map_cons, List.flatMap_cons, ih]; rfl
  rw [e]
  exact Src.of_fn h
set_option maxRecDepth 100000 in
set_option maxHeartbeats 3200000 in
theorem back_calls {ok : Nat → Prop} (s : Scr) (A0 A1 A2 : Option Addr) (c0 c1 c2 : Nat) (l : List Nat) (A : Option Addr) (c : Nat) (m : Int) (w : World) (h : ScrAt ok w s A0 A1 A2 c0 c1 c2) (hl : kByte.C (fun _ => True) w A l) (hlc : l.length ≤ c) (hx : ∀ x ∈ l, x < 256) (hm : 0 ≤ m ∧ m < 256) :
    Calls Try.prog 5 #[scrV s A0 A1 A2 c0 c1 c2, .slice A l.length c, .int .u8 m] w fun e w' => e = .returned (.bool true) ∧ Below w.heap.size w w' := by
  obtain ⟨i0, hi0, hz0, hs0, hbb0⟩ := info_u8
  have hu : Try.prog.underlying 29 = some (.slice 5) := Try.underlying29
  obtain ⟨m, rfl⟩ := Int.eq_ofNat_of_zero_le hm.1
  have hm256 : m < 256 := by omega
  clear hm
  have hS := Lib.hid h.bound
  have hL := Lib.hid hl.bound
  have hll := hl.len
  clear h hl
  have x1 := Lib.hid (InBox.new w s A0 A1 A2 c0 c1 c2 26)
  unfold scrV
  go_enter Try.func5, Try.ntmps5
  go_wp2_with fail
  refine (up06_calls _).mono ?_
  rintro e w1 ⟨rfl, hb1⟩
  have S1 := Lib.hid ((hS.out.below (by (repeat (with_reducible first | exact Below.refl _ _ | assumption | apply below_alloc | apply below_drewN | apply below_drew1 | (refine below_set ?_ (by simp only [alloc_size]; omega)) | (refine below_step ?_ (by assumption)))))).below hb1)
  have X1 := Lib.hid (x1.out.below hb1)
  have bb1 : Below w.heap.size w w1 := by (repeat (with_reducible first | exact Below.refl _ _ | assumption | apply below_alloc | apply below_drewN | apply below_drew1 | (refine below_set ?_ (by simp only [alloc_size]; omega)) | (refine below_step ?_ (by assumption))))
  have BB1 := Lib.hid bb1
  have e0 := X1.out.x0
  have e1 := X1.out.x1
  have e2 := X1.out.x2
  clear hb1 bb1 x1 hS
  go_wp2_with fail
  refine (few_calls s A0 A1 A2 c0 c1 c2 _ S1.out).mono ?_
  rintro e w2 ⟨rfl, hb2⟩
  have S2 := Lib.hid (S1.out.below hb2)
  have X2 := Lib.hid (X1.out.below hb2)
  have BB2 := Lib.hid (below_step BB1.out hb2)
  clear hb2 e0 e1 e2 S1 X1 BB1
  cases fewB s with
  | false =>
    go_wp2_with fail
    go_ret
    exact ⟨rfl, BB2.out⟩
  | true =>
    by_cases h4 : 4000 < (l.length : Int)
    · have h4' : decide (4000 < (l.length : Int)) = true := by simpa using h4
      go_wp2_with fail
      go_ret
      exact ⟨rfl, BB2.out⟩
    have h4' : decide (4000 < (l.length : Int)) = false := by simpa using h4
    have hl4 : l.length ≤ 4000 := by omega
    have e0 := X2.out.x0
    have e1 := X2.out.x1
    have e2 := X2.out.x2
    go_wp2_with fail
    refine (put_any s A0 A1 A2 c0 c1 c2 _ S2.out).mono ?_
    unfold PutPost
    cases hcs : checkE s with
    | some ce =>
      simp only [errV]
      rintro e w3 ⟨rfl, hb3⟩
      have BB3 := Lib.hid (below_step BB2.out hb3)
      clear hb3 hcs e0 e1 e2 S2 X2 BB2
      go_wp2_with fail
      refine (get_calls (ok := fun k => True ∧ k < w.heap.size) l A c _ (hL.out.below BB3.out) hx hlc (by omega) (fun k hk => Nat.lt_of_lt_of_le hk.2 (by exact BB3.out.size))).mono ?_
      rintro e y1 ⟨E0, E1, E2, f0, f1, f2, rfl, hT, hb4⟩
      have Z1 := Lib.hid (below_step BB3.out (below_step (by (repeat (with_reducible first | exact Below.refl _ _ | assumption | apply below_alloc | apply below_drewN | apply below_drew1 | (refine below_set ?_ (by simp only [alloc_size]; omega)) | (refine below_step ?_ (by assumption))))) hb4))
      cases hg : getR l with
      | mk ce t =>
        rw [hg] at hT
        have hg' := Lib.hid hg
        cases ce with
        | some ce =>
          clear hT hb4 hg
          simp only [errV]
          unfold scrV
          go_wp2_with fail
          go_ret
          exact ⟨rfl, by (repeat (with_reducible first | exact Z1.out | apply below_alloc))⟩
        | none =>
          have hi := getR_inv hx hg
          have HP := Lib.hid hi.1
          have HK := Lib.hid hi.2
          have HT := Lib.hid hT
          have C1 := Lib.hid ((hL.out.below BB3.out).below hb4)
          clear hT hb4 hg hi
          simp only [errV]
          unfold scrV
          go_wp2_with fail
          refine (put_calls t E0 E1 E2 f0 f1 f2 _ (HT.out.below (by (repeat (with_reducible first | exact Below.refl _ _ | assumption | apply below_alloc | apply below_drewN | apply below_drew1 | (refine below_set ?_ (by simp only [alloc_size]; omega)) | (refine below_step ?_ (by assumption)))))) HK.out).mono ?_
          rintro e y2 ⟨v2, rfl, o2, hb2⟩
          obtain ⟨A2, d2, rfl, hl2, hC2⟩ := own_bytes o2
          rw [← HP.out] at hC2 hl2 ⊢
          have q1 := conv_bytes (c := d2) _ hC2
          have q2 := conv_bytes (c := c) _ ((C1.out.below (by (repeat (with_reducible first | exact Below.refl _ _ | assumption | apply below_alloc | apply below_drewN | apply below_drew1 | (refine below_set ?_ (by simp only [alloc_size]; omega)) | (refine below_step ?_ (by assumption)))))).below hb2)
          have Z2 := Lib.hid (below_step (below_step Z1.out (by (repeat (with_reducible first | exact Below.refl _ _ | assumption | apply below_alloc | apply below_drewN | apply below_drew1 | (refine below_set ?_ (by simp only [alloc_size]; omega)) | (refine below_step ?_ (by assumption)))))) hb2)
          clear o2 hC2 hb2
          go_wp2_with fail
          go_ret
          exact ⟨rfl, Z2.out⟩
    | none =>
      simp only
      rintro e w3 ⟨v3, rfl, o3, hb3⟩
      have hcs' := Lib.hid hcs
      have hpl := putB_len hcs
      have S3 := Lib.hid (S2.out.below hb3)
      have X3 := Lib.hid (X2.out.below hb3)
      have BB3 := Lib.hid (below_step BB2.out hb3)
      obtain ⟨A3, c3, rfl, hl3, hC3⟩ := own_bytes o3
      have C3 := Lib.hid hC3.bound
      have HG := Lib.hid (getR_put hcs)
      have HM := Lib.hid (getR_more hcs m)
      have HB := Lib.hid (putB_byte s)
      clear hb3 hcs e0 e1 e2 S2 X2 BB2 o3 hC3
      generalize putB s = pb at C3 HG HM HB hpl hl3 ⊢
      go_wp2_with fail
      refine (get_calls pb A3 c3 _ C3.out HB.out hl3 (by omega) (fun k hk => hk.2)).mono ?_
      rintro e w4 ⟨E0, E1, E2, f0, f1, f2, rfl, hT, hb4⟩
      rw [HG.out] at hT ⊢
      simp only [errV]
      unfold scrV
      have C4 := Lib.hid (C3.out.below hb4)
      have S4 := Lib.hid (S3.out.below hb4)
      have X4 := Lib.hid (X3.out.below hb4)
      have BB4 := Lib.hid (below_step BB3.out hb4)
      have T4 := Lib.hid hT
      clear hT hb4 C3 S3 X3 BB3 HG
      go_wp2_with (first | (at_builtin; go_loud (refine wpList_append_uni rfl _ _ 29 rfl (w4.heap.size + 1) 5 i0 _ 1 1 hu hi0 hz0 hs0 hbb0 rfl (by decide) _ _ _ rfl (own_empty1 w4 _ 5) _ pb.length (pb.map byteV) rfl (by simp) (Src.of_bytes (C4.out.below (by (repeat (with_reducible first | exact Below.refl _ _ | assumption | apply below_alloc | apply below_drewN | apply below_drew1 | (refine below_set ?_ (by simp only [alloc_size]; omega)) | (refine below_step ?_ (by assumption))))))) (by unfold maxLen; omega) (by omega) (by simp only [alloc_size]; omega) ?_)) | fail)
      intro A5 c5 w5 o5 g5 h5
      try simp only [Nat.zero_add, List.nil_append] at o5
      try simp only [Nat.zero_add, List.nil_append] at g5 h5
      try simp only [Nat.zero_add, List.nil_append]
      have b5 : Below (w4.alloc (.cells #[.slice E0 s.objs.length f0, .slice E1 s.progs.length f1, .slice E2 s.picks.length f2] 26)).heap.size (w4.alloc (.cells #[.slice E0 s.objs.length f0, .slice E1 s.progs.length f1, .slice E2 s.picks.length f2] 26)) w5 := below_grown (by (repeat (with_reducible first | exact Below.refl _ _ | assumption | apply below_alloc | apply below_drewN | apply below_drew1 | (refine below_set ?_ (by simp only [alloc_size]; omega)) | (refine below_step ?_ (by assumption))))) g5 (by simp only [alloc_size]; omega) (fun k hk => by rw [alloc_size]; simp [Value.ownBlock] at hk; omega)
      have B5 := Lib.hid b5
      have z5 := b5.size
      rw [alloc_size] at z5
      have O5 := Lib.hid o5
      clear o5 g5 h5 b5
      go_wp2_with (first | (at_builtin; go_loud (refine wpList_append_uni rfl _ _ 29 rfl (w4.heap.size + 1) 5 i0 _ 1 1 hu hi0 hz0 hs0 hbb0 rfl (by decide) _ _ _ rfl (O5.out.alloc _) _ 1 ([Value.int .u8 (m : Int)]) rfl (by simp) (Src.of_block (alloc_heap_at _ _) (one_ok _)) (by unfold maxLen; omega) (by omega) (by simp only [alloc_size]; omega) ?_)) | fail)
      intro A6 c6 w6 o6 g6 h6
      have b6' : Below (w4.alloc (.cells #[.slice E0 s.objs.length f0, .slice E1 s.progs.length f1, .slice E2 s.picks.length f2] 26)).heap.size (w4.alloc (.cells #[.slice E0 s.objs.length f0, .slice E1 s.progs.length f1, .slice E2 s.picks.length f2] 26)) w6 := below_grown (below_alloc B5.out _) g6 (by simp only [alloc_size]; omega) (fun k hk => by rw [alloc_size]; exact own_base O5.out k hk)
      have b6 : Below w4.heap.size w4 w6 := below_step (by (repeat (with_reducible first | exact Below.refl _ _ | assumption | apply below_alloc | apply below_drewN | apply below_drew1 | (refine below_set ?_ (by simp only [alloc_size]; omega)) | (refine below_step ?_ (by assumption))))) b6'
      have e6 : pb.map byteV ++ [Value.int .u8 (m : Int)] = (pb ++ [m]).map byteV := by simp [byteV]
      rw [e6] at o6
      have hl6 : pb.length + 1 = (pb ++ [m]).length := by simp
      rw [hl6] at o6 ⊢
      obtain ⟨A7, c7, e7, hl7, hC7⟩ := own_bytes o6
      obtain ⟨rfl, _, rfl⟩ : A6 = A7 ∧ True ∧ c6 = c7 := by simp only [Value.slice.injEq] at e7; exact ⟨e7.1, trivial, e7.2.2⟩
      have C7 := Lib.hid hC7.bound
      have hx7 : Hid (∀ x ∈ pb ++ [m], x < 256) := Lib.hid (fun x hx => by rcases List.mem_append.1 hx with h | h; exact HB.out x h; rw [List.mem_singleton.1 h]; exact hm256)
      have S6 := Lib.hid (S4.out.below b6)
      have X6 := Lib.hid (X4.out.below b6)
      have T6 := Lib.hid (T4.out.below b6)
      have BB6 := Lib.hid (below_step BB4.out b6)
      have t6 := (InBox.new w4 s E0 E1 E2 f0 f1 f2 26).below b6'
      have R6 := Lib.hid t6
      clear b6' t6
      clear hC7 o6 g6 h6 b6 e6 e7 S4 X4 T4 BB4 B5 O5 C4
      have hl8 : (pb ++ [m]).length ≤ 1000000 := by rw [← hl6]; omega
      generalize pb ++ [m] = pm at C7 hx7 HM hl6 hl7 hl8 ⊢
      go_wp2_with fail
      refine (get_calls pm A6 c6 _ C7.out hx7.out hl7 hl8 (fun k hk => hk.2)).mono ?_
      rintro e w7 ⟨G0, G1, G2, h0, h1, h2, rfl, hU, hb7⟩
      rw [HM.out] at hU ⊢
      simp only [errV]
      unfold scrV
      have S7 := Lib.hid (S6.out.below hb7)
      have X7 := Lib.hid (X6.out.below hb7)
      have T7 := Lib.hid (T6.out.below hb7)
      have R7 := Lib.hid (R6.out.below hb7)
      have BB7 := Lib.hid (below_step BB6.out hb7)
      have e0 := X7.out.x0
      have e1 := X7.out.x1
      have e2 := X7.out.x2
      have r0 := R7.out.x0
      have r1 := R7.out.x1
      have r2 := R7.out.x2
      have z7 := BB7.out.size
      have z8 : w4.heap.size < w7.heap.size := cell_lt r0
      have z9 : w.heap.size < w7.heap.size := cell_lt e0
      clear hU hb7 S6 X6 T6 R6 BB6 C7 hx7 HM
      have hsm : sameB s s = true := by simp [sameB]
      have HSM := Lib.hid hsm
      clear hsm
      go_wp2_with fail
      refine (same_calls s s A0 A1 A2 E0 E1 E2 c0 c1 c2 f0 f1 f2 _ (S7.out.below (by (repeat (with_reducible first | exact Below.refl _ _ | assumption | apply below_alloc | apply below_drewN | apply below_drew1 | (refine below_set ?_ (by simp only [alloc_size]; omega)) | (refine below_step ?_ (by assumption)))))) (T7.out.below (by (repeat (with_reducible first | exact Below.refl _ _ | assumption | apply below_alloc | apply below_drewN | apply below_drew1 | (refine below_set ?_ (by simp only [alloc_size]; omega)) | (refine below_step ?_ (by assumption))))))).mono ?_
      rw [HSM.out]
      rintro e w8 ⟨rfl, hb8⟩
      have BB8 := Lib.hid (below_step (below_step BB7.out (by (repeat (with_reducible first | exact Below.refl _ _ | assumption | apply below_alloc | apply below_drewN | apply below_drew1 | (refine below_set ?_ (by simp only [alloc_size]; omega)) | (refine below_step ?_ (by assumption)))))) hb8)
      clear hb8 e0 e1 e2 r0 r1 r2 S7 X7 T7 R7 BB7
      go_wp2_with fail
      refine (get_calls (ok := fun k => True ∧ k < w.heap.size) l A c _ (hL.out.below BB8.out) hx hlc (by omega) (fun k hk => Nat.lt_of_lt_of_le hk.2 (by exact BB8.out.size))).mono ?_
      rintro e y1 ⟨E0, E1, E2, f0, f1, f2, rfl, hT, hb9⟩
      have Z1 := Lib.hid (below_step BB8.out (below_step (by (repeat (with_reducible first | exact Below.refl _ _ | assumption | apply below_alloc | apply below_drewN | apply below_drew1 | (refine below_set ?_ (by simp only [alloc_size]; omega)) | (refine below_step ?_ (by assumption))))) hb9))
      cases hg : getR l with
      | mk ce t =>
        rw [hg] at hT
        have hg' := Lib.hid hg
        cases ce with
        | some ce =>
          clear hT hb9 hg
          simp only [errV]
          unfold scrV
          go_wp2_with fail
          go_ret
          exact ⟨rfl, by (repeat (with_reducible first | exact Z1.out | apply below_alloc))⟩
        | none =>
          have hi := getR_inv hx hg
          have HP := Lib.hid hi.1
          have HK := Lib.hid hi.2
          have HT := Lib.hid hT
          have C1 := Lib.hid ((hL.out.below BB8.out).below hb9)
          clear hT hb9 hg hi
          simp only [errV]
          unfold scrV
          go_wp2_with fail
          refine (put_calls t E0 E1 E2 f0 f1 f2 _ (HT.out.below (by (repeat (with_reducible first | exact Below.refl _ _ | assumption | apply below_alloc | apply below_drewN | apply below_drew1 | (refine below_set ?_ (by simp only [alloc_size]; omega)) | (refine below_step ?_ (by assumption)))))) HK.out).mono ?_
          rintro e y2 ⟨v2, rfl, o2, hb2⟩
          obtain ⟨A2, d2, rfl, hl2, hC2⟩ := own_bytes o2
          rw [← HP.out] at hC2 hl2 ⊢
          have q1 := conv_bytes (c := d2) _ hC2
          have q2 := conv_bytes (c := c) _ ((C1.out.below (by (repeat (with_reducible first | exact Below.refl _ _ | assumption | apply below_alloc | apply below_drewN | apply below_drew1 | (refine below_set ?_ (by simp only [alloc_size]; omega)) | (refine below_step ?_ (by assumption)))))).below hb2)
          have Z2 := Lib.hid (below_step (below_step Z1.out (by (repeat (with_reducible first | exact Below.refl _ _ | assumption | apply below_alloc | apply below_drewN | apply below_drew1 | (refine below_set ?_ (by simp only [alloc_size]; omega)) | (refine below_step ?_ (by assumption)))))) hb2)
          clear o2 hC2 hb2
          go_wp2_with fail
          go_ret
          exact ⟨rfl, Z2.out⟩
theorem back_row (v v' : Value) (m : Int) (W : World) (h : IsScr W v) (h' : IsBytes W v') (hm : (Lit.int .u8 m).wf = true) : Calls Try.prog 5 #[v, v', .int .u8 m] W fun e W' => e = .returned (.bool true) ∧ Below W.heap.size W W' := by
  obtain ⟨s, A0, A1, A2, c0, c1, c2, rfl, hs⟩ := h
  obtain ⟨l, A, c, rfl, hc, hl, hx⟩ := h'
  exact back_calls s A0 A1 A2 c0 c1 c2 l A c m W hs hl hc hx (by simp [Lit.wf, IntKind.min, IntKind.max, IntKind.wrap, IntKind.bits, IntKind.signed] at hm; omega)
end Go.Proofs.Ytikfkkinhipfjaa
