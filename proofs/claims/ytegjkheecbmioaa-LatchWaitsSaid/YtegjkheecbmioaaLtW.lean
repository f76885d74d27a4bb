/- The law of threads that wait for latches, walked. -/
import Derived.Test.YtegjkheecbmioaaLtV
import Derived.Test.YtegjkheecbmioaaLawLt
namespace Go.Proofs.Ytegjkheecbmioaa
open Go.RowKit
set_option linter.unusedVariables false
set_option linter.unusedSimpArgs false

theorem add_add (ad : Addr) (m n : Nat) (hm : 0 < m) : (ad.add m).add n = ad.add (m + n) := by
  unfold Addr.add
  by_cases hn : n = 0
  · subst hn; rw [if_pos rfl, if_neg (by omega), if_neg (by omega)]; rfl
  · rw [if_neg hn, if_neg (by omega), if_neg (by omega)]
    simp [Nat.add_assoc]
theorem C_tail {α : Type} {d : Kd α} {ok : Nat → Prop} {w : World} {ad : Addr} {x : α} {xs : List α} (h : d.C ok w (some ad) (x :: xs)) : d.C ok w (some (ad.add d.sz)) xs := by
  refine ⟨by have := h.1; simp at this; omega, fun hx => ?_⟩
  obtain ⟨ad', e, ho, hc⟩ := h.2 (by simp)
  obtain rfl := Option.some.inj e
  refine ⟨_, rfl, by rw [add_block]; exact ho, fun j p hj => ?_⟩
  obtain ⟨c, hK, hcell⟩ := hc (j + 1) p (by simpa using hj)
  refine ⟨c, hK, fun i u hu => ?_⟩
  rw [add_add _ _ _ d.pos, show d.sz + (j * d.sz + i) = (j + 1) * d.sz + i by rw [Nat.add_mul]; omega]
  exact hcell i u hu
theorem info_pc : (Try.prog.info? 35).map (fun i => (i.zero, i.size, i.bytes)) = some (some (.agg #[.int .i64 0, .int .i64 0, .int .i64 0, .int .i64 0, .int .i64 0, .bool false]), 6, 48) := by kernel_rfl
theorem pc_own {w : World} {B : Nat} {v : Value} {xs : List PC} (h : w.ownsRow B 35 6 v xs.length (xs.flatMap PC.enc)) : ∃ A c, v = .slice A xs.length c ∧ xs.length ≤ c ∧ kPC.C (B ≤ ·) w A xs :=
  C_of_own (enc := PC.enc) (hl := fun _ => rfl) (h1 := by intro x u hu; simp [PC.enc] at hu; rcases hu with rfl | rfl | rfl | rfl | rfl | rfl <;> rfl) (h0 := by decide) h (fun k hk => own_base h k hk)
theorem pc_lit_src (w : World) : Src (w.alloc (.cells #[.int .i64 1, .int .i64 9, .int .i64 0, .int .i64 0, .int .i64 0, .bool false] 35)) (.slice (some ⟨w.heap.size, 0, none⟩) 1 1) 1 (PC.enc pcD) :=
  src_row (World.ownsRow_lit (base := w.heap.size) (size := 6) (e := 35) w #[.int .i64 1, .int .i64 9, .int .i64 0, .int .i64 0, .int .i64 0, .bool false] 1 (Nat.le_refl _) (by decide) rfl) (by intro u hu; have hu : u ∈ PC.enc pcD := hu; simp only [PC.enc, pcD, List.mem_cons, List.not_mem_nil, or_false] at hu; rcases hu with h | h | h | h | h | h <;> (subst h; rfl))
theorem rep_succ (k : Nat) : (List.replicate k pcD).flatMap PC.enc ++ PC.enc pcD = (List.replicate (k + 1) pcD).flatMap PC.enc := by
  rw [List.replicate_succ', List.flatMap_append]
  simp
set_option maxRecDepth 100000 in
set_option maxHeartbeats 3200000 in
theorem latchWaits_row (many : Int) (W : World) (hm0 : -9223372036854775808 ≤ many) (hm1 : many ≤ 9223372036854775807) : Calls Try.prog 6 #[.int .i64 many] W fun e W' => e = .returned (.bool true) ∧ Below W.heap.size W W' := by
  obtain ⟨i1, hi1, hz1', hs1, hbb1⟩ := info_parts info_pc
  have hu1 : Try.prog.underlying 24 = some (.slice 35) := Try.underlying24
  go_enter Try.func6, Try.ntmps6
  go_wp2_with fail
  refine (upLt_calls _).mono ?_
  rintro e w1 ⟨rfl, hb1⟩
  have B1 := Lib.hid hb1
  clear hb1
  by_cases hneg : many < 0
  · have d0 : decide (many < 0) = true := decide_eq_true hneg
    have a1 : IntKind.i64.wrap (many + 1) = many + 1 := by rw [IntKind.wrap_i64]; omega
    have a2 : IntKind.i64.wrap (-(many + 1)) = -(many + 1) := by rw [IntKind.wrap_i64]; omega
    go_upto_region 4 with fail
    clear a1 a2
    obtain ⟨x, hx⟩ : ∃ x, x = -(many + 1) := ⟨_, rfl⟩
    rw [← hx]
    have hx0 : 0 ≤ x := by omega
    have hx1 : x ≤ 9223372036854775807 := by omega
    clear hx hneg d0
    go_upto_region 5 with fail
    obtain ⟨m, hm⟩ : ∃ m : Nat, 1 + x % 8 = (m : Int) := ⟨(1 + x % 8).toNat, by omega⟩
    rw [hm]
    have hm1 : 1 ≤ m := by omega
    have hm8 : m ≤ 8 := by omega
    clear hm hx0 hx1
    go_wp2_with fail
    go_loopw [4, 5] (fun v iv wr => ∃ k : Nat, iv = .int .i64 k ∧ k ≤ m ∧ Hid (wr.ownsRow w1.heap.size 35 6 v k ((List.replicate k pcD).flatMap PC.enc)) ∧ Hid (Below w1.heap.size w1 wr)) (fun _ iv _ => m - (intOf iv).toNat)
    case atStart => exact ⟨0, rfl, Nat.zero_le _, Lib.hid (World.ownsRow_nil _ _ _ _), Lib.hid (Below.refl _ _)⟩
    case round =>
      obtain ⟨k, rfl, hk, HO, HB⟩ := hrel
      by_cases hlt : k < m
      · have d1 : decide ((k : Int) < (m : Int)) = true := decide_eq_true (by omega)
        have hwz := HB.out.size
        go_wp2_with (first | (at_builtin; go_loud (refine wpList_append_uni rfl _ _ 24 rfl w1.heap.size 35 i1 _ 6 48 hu1 hi1 hz1' hs1 hbb1 rfl (by decide) _ _ _ rfl (by exact own_below HO.out (below_alloc (Below.refl _ _) _)) _ 1 (PC.enc pcD) rfl rfl (by exact pc_lit_src wr) (by unfold maxLen; omega) (by omega) (by simp only [alloc_size]; omega) ?_)) | fail)
        intro A3 c3 w3 o3 g3 h3'
        have HO3 := Lib.hid (show w3.ownsRow w1.heap.size 35 6 (.slice A3 (k + 1) c3) (k + 1) ((List.replicate (k + 1) pcD).flatMap PC.enc) from by rw [← rep_succ]; exact o3)
        have HB3 := Lib.hid (below_grown (below_alloc HB.out _) g3 (by rw [alloc_size]; omega) (fun j hj => own_base HO.out j hj))
        clear o3 g3 h3' HO HB
        go_wp2_with fail
        go_roundw
        case rel => exact ⟨k + 1, by go_num, by omega, HO3, HB3⟩
        case measure => simp [intOf]; omega
      · obtain rfl : k = m := by omega
        have d1 : decide ((k : Int) < (k : Int)) = false := decide_eq_false (by omega)
        obtain ⟨A, c, e, hc, hC⟩ := pc_own (w := wr) (B := w1.heap.size) (v := u4) (xs := List.replicate k pcD) (by rw [List.length_replicate]; exact HO.out)
        subst e
        have HC := Lib.hid hC.bound
        have BW := Lib.hid (below_step B1.out HB.out)
        clear hC HO HB
        obtain ⟨cd, lb, hA, hcl, hrun⟩ := ltW_code
        obtain ⟨hp1, ns2, v2, hp2⟩ := hrun k hm1 hm8
        unfold pkLt at hp1 hp2
        have HA := Lib.hid hA
        have P1 := Lib.hid hp1
        have P2 := Lib.hid hp2
        clear hA hrun hp1 hp2
        go_wp2_with fail
        refine (TextsLt_calls _).mono ?_
        rintro e w3 ⟨At, ct, rfl, hCt, hb3⟩
        have HCt := Lib.hid hCt
        have B3 := Lib.hid (below_step BW.out hb3)
        have HC3 := Lib.hid (HC.out.below hb3)
        clear hCt hb3 BW HC
        go_wp2_with fail
        have hcall := Parked_calls textsLt At ct w3 HCt.out (by simp [textsLt]) lt_sizes.1 lt_sizes.2.1 lt_sizes.2.2 cd lb HA.out hcl 3 k false 8 0 0 0 false (by decide) (by decide) (by decide) (by decide) (List.replicate k pcD) A c HC3.out (fun x hx => by rw [List.eq_of_mem_replicate hx]; decide) [(1, 0)] 0 true P1.out
        simp only [List.length_replicate] at hcall
        unfold opV at hcall
        refine hcall.mono ?_
        rintro e w4 ⟨AN, cN, rfl, hN, hb4⟩
        have B4 := Lib.hid (below_step B3.out hb4)
        have HC4 := Lib.hid (HC3.out.below hb4)
        have HN := Lib.hid hN
        clear hb4 hN B3 HC3 HCt P1 hcall
        go_wp2_with fail
        obtain ⟨ad, rfl⟩ : ∃ ad, A = some ad := by obtain ⟨ad, _, e, _⟩ := at_pc HC4.out 0 (by simp; omega); exact ⟨ad, e⟩
        have hk1' : (1 : Int) ≤ (k : Int) := by omega
        rw [List.length_replicate] at hc
        have hkc : (k : Int) ≤ (c : Int) := by omega
        have h1c : (1 : Int) ≤ (c : Int) := by omega
        by_cases e1 : c = 1
        · subst e1
          have HT := Lib.hid (show kPC.C (fun _ => True) w4 (some ad) (List.replicate (k - 1) pcD) from by
            rw [show k - 1 = 0 by omega]
            exact Kd.C.nil _ _ _ _)
          obtain ⟨adN, pn, rfl, hpn, q0, q1⟩ := at_nt HN.out 0 (by decide)
          obtain rfl := Option.some.inj hpn
          have Q0 := Lib.hid (show w4.cell? adN = some (.int .i64 1) from q0)
          have Q1 := Lib.hid (show w4.cell? ⟨adN.block, adN.off + 1, none⟩ = some (.int .i64 0) from q1)
          clear q0 q1 hpn HN HC4
          refine Muf.region (.q 1 (.q 2 (.q 3 (.q 4 (.q 5 (.m 0 (.m 6 (.q 7 (.q 8 (.q 9 (.q 10 (.q 11 (.q 12 (.q 13 .nil)))))))))))))) [1, 2, 3, 4, 5, 0, 6, 7, 8, 9, 10, 11, 12, 13] (fun w' => Below w4.heap.size w4 w') (by kernel_rfl) (by kernel_rfl) (by (repeat (with_reducible first | exact Below.refl _ _ | assumption | apply below_alloc | apply below_drewN | apply below_drew1 | (refine below_set ?_ (by simp only [alloc_size]; omega)) | (refine below_step ?_ (by assumption))))) ?_
          iterate 4 (apply Muf.quiet; (· (simp only [List.getElem?_toArray, List.getElem?_cons_succ, List.getElem?_cons_zero]) <;> rfl); (· intro w' hR V hV; go_simp; exact hV); intro K hK; simp only [Act.put, List.setIfInBounds_toArray, List.set_cons_zero, List.set_cons_succ]; refine hK _ ?_; clear hK K)
          apply Muf.quiet; (· (simp only [List.getElem?_toArray, List.getElem?_cons_succ, List.getElem?_cons_zero]) <;> rfl); (· intro w' hR V hV; go_simp; exact hV); intro K hK; simp only [Act.put, List.setIfInBounds_toArray, List.set_cons_zero, List.set_cons_succ]; refine hK _ ?_; clear hK K
          refine Muf.mover (Muf.chk rfl (by decide) ?_)
          go_wp2_with fail
          refine (TextsLt_calls _).mono ?_
          rintro e w5 ⟨At2, ct2, rfl, hCt, hb5⟩
          have HCt := Lib.hid hCt
          have B5 := Lib.hid (below_step (show Below w4.heap.size w4 w4.drew by (repeat (with_reducible first | exact Below.refl _ _ | assumption | apply below_alloc | apply below_drewN | apply below_drew1 | (refine below_set ?_ (by simp only [alloc_size]; omega)) | (refine below_step ?_ (by assumption))))) hb5)
          clear hCt hb5
          go_wp2_with fail
          refine ⟨B5.out, ?_⟩
          have HT5 := Lib.hid (HT.out.below B5.out)
          have hcall := Parked_calls textsLt At2 ct2 w5 HCt.out (by simp [textsLt]) lt_sizes.1 lt_sizes.2.1 lt_sizes.2.2 cd lb HA.out hcl 3 k false 8 0 0 0 false (by decide) (by decide) (by decide) (by decide) (List.replicate (k - 1) pcD) (some ad) 0 HT5.out (fun x hx => by rw [List.eq_of_mem_replicate hx]; decide) ns2 v2 false P2.out
          simp only [List.length_replicate] at hcall
          unfold opV at hcall
          rw [show k - 1 = 0 by omega] at hcall
          clear HT5 HT P2 HCt
          refine Muf.mover (Muf.chk rfl (by decide) ?_)
          go_wp2_with fail
          (with_reducible refine hcall.mono ?_)
          rintro e w6 ⟨AN2, cN2, rfl, _, hb6⟩
          have B6 := Lib.hid (below_step B5.out hb6)
          clear hb6 hcall
          go_wp2_with fail
          refine ⟨B6.out, ?_⟩
          iterate 7 (apply Muf.quiet; (· (simp only [List.getElem?_toArray, List.getElem?_cons_succ, List.getElem?_cons_zero]) <;> rfl); (· intro w' hR V hV; go_simp; exact hV); intro K hK; simp only [Act.put, List.setIfInBounds_toArray, List.set_cons_zero, List.set_cons_succ]; refine hK _ ?_; clear hK K)
          refine Muf.done ?_
          have q0' := cell_below_of Q0.out B6.out
          have q1' := cell_below_of Q1.out B6.out
          go_wp2_with fail
          go_ret
          exact ⟨rfl, below_step B4.out B6.out⟩

        · skip
          have HT := Lib.hid (show kPC.C (fun _ => True) w4 (some ⟨ad.block, ad.off + 6, none⟩) (List.replicate (k - 1) pcD) from by
            have h2 := HC4.out.mono (ok' := fun _ => True) (fun _ _ => trivial)
            rw [show k = (k - 1) + 1 by omega, List.replicate_succ] at h2
            exact C_tail h2)
          obtain ⟨adN, pn, rfl, hpn, q0, q1⟩ := at_nt HN.out 0 (by decide)
          obtain rfl := Option.some.inj hpn
          have Q0 := Lib.hid (show w4.cell? adN = some (.int .i64 1) from q0)
          have Q1 := Lib.hid (show w4.cell? ⟨adN.block, adN.off + 1, none⟩ = some (.int .i64 0) from q1)
          clear q0 q1 hpn HN HC4
          refine Muf.region (.q 1 (.q 2 (.q 3 (.q 4 (.q 5 (.m 0 (.m 6 (.q 7 (.q 8 (.q 9 (.q 10 (.q 11 (.q 12 (.q 13 .nil)))))))))))))) [1, 2, 3, 4, 5, 0, 6, 7, 8, 9, 10, 11, 12, 13] (fun w' => Below w4.heap.size w4 w') (by kernel_rfl) (by kernel_rfl) (by (repeat (with_reducible first | exact Below.refl _ _ | assumption | apply below_alloc | apply below_drewN | apply below_drew1 | (refine below_set ?_ (by simp only [alloc_size]; omega)) | (refine below_step ?_ (by assumption))))) ?_
          iterate 4 (apply Muf.quiet; (· (simp only [List.getElem?_toArray, List.getElem?_cons_succ, List.getElem?_cons_zero]) <;> rfl); (· intro w' hR V hV; go_simp; exact hV); intro K hK; simp only [Act.put, List.setIfInBounds_toArray, List.set_cons_zero, List.set_cons_succ]; refine hK _ ?_; clear hK K)
          apply Muf.quiet; (· (simp only [List.getElem?_toArray, List.getElem?_cons_succ, List.getElem?_cons_zero]) <;> rfl); (· intro w' hR V hV; go_simp; exact hV); intro K hK; simp only [Act.put, List.setIfInBounds_toArray, List.set_cons_zero, List.set_cons_succ]; refine hK _ ?_; clear hK K
          refine Muf.mover (Muf.chk rfl (by decide) ?_)
          go_wp2_with fail
          refine (TextsLt_calls _).mono ?_
          rintro e w5 ⟨At2, ct2, rfl, hCt, hb5⟩
          have HCt := Lib.hid hCt
          have B5 := Lib.hid (below_step (show Below w4.heap.size w4 w4.drew by (repeat (with_reducible first | exact Below.refl _ _ | assumption | apply below_alloc | apply below_drewN | apply below_drew1 | (refine below_set ?_ (by simp only [alloc_size]; omega)) | (refine below_step ?_ (by assumption))))) hb5)
          clear hCt hb5
          go_wp2_with fail
          refine ⟨B5.out, ?_⟩
          have HT5 := Lib.hid (HT.out.below B5.out)
          have hcall := Parked_calls textsLt At2 ct2 w5 HCt.out (by simp [textsLt]) lt_sizes.1 lt_sizes.2.1 lt_sizes.2.2 cd lb HA.out hcl 3 k false 8 0 0 0 false (by decide) (by decide) (by decide) (by decide) (List.replicate (k - 1) pcD) (some ⟨ad.block, ad.off + 6, none⟩) (c - 1) HT5.out (fun x hx => by rw [List.eq_of_mem_replicate hx]; decide) ns2 v2 false P2.out
          simp only [List.length_replicate] at hcall
          unfold opV at hcall
          clear HT5 HT P2 HCt
          refine Muf.mover (Muf.chk rfl (by decide) ?_)
          go_wp2_with fail
          (with_reducible refine hcall.mono ?_)
          rintro e w6 ⟨AN2, cN2, rfl, _, hb6⟩
          have B6 := Lib.hid (below_step B5.out hb6)
          clear hb6 hcall
          go_wp2_with fail
          refine ⟨B6.out, ?_⟩
          iterate 7 (apply Muf.quiet; (· (simp only [List.getElem?_toArray, List.getElem?_cons_succ, List.getElem?_cons_zero]) <;> rfl); (· intro w' hR V hV; go_simp; exact hV); intro K hK; simp only [Act.put, List.setIfInBounds_toArray, List.set_cons_zero, List.set_cons_succ]; refine hK _ ?_; clear hK K)
          refine Muf.done ?_
          have q0' := cell_below_of Q0.out B6.out
          have q1' := cell_below_of Q1.out B6.out
          go_wp2_with fail
          go_ret
          exact ⟨rfl, below_step B4.out B6.out⟩
  · have d0 : decide (many < 0) = false := decide_eq_false (by omega)
    go_upto_region 4 with fail
    obtain ⟨x, hx⟩ : ∃ x, x = many := ⟨_, rfl⟩
    rw [← hx]
    have hx0 : 0 ≤ x := by omega
    have hx1 : x ≤ 9223372036854775807 := by omega
    clear hx hneg d0
    go_upto_region 5 with fail
    obtain ⟨m, hm⟩ : ∃ m : Nat, 1 + x % 8 = (m : Int) := ⟨(1 + x % 8).toNat, by omega⟩
    rw [hm]
    have hm1 : 1 ≤ m := by omega
    have hm8 : m ≤ 8 := by omega
    clear hm hx0 hx1
    go_wp2_with fail
    go_loopw [4, 5] (fun v iv wr => ∃ k : Nat, iv = .int .i64 k ∧ k ≤ m ∧ Hid (wr.ownsRow w1.heap.size 35 6 v k ((List.replicate k pcD).flatMap PC.enc)) ∧ Hid (Below w1.heap.size w1 wr)) (fun _ iv _ => m - (intOf iv).toNat)
    case atStart => exact ⟨0, rfl, Nat.zero_le _, Lib.hid (World.ownsRow_nil _ _ _ _), Lib.hid (Below.refl _ _)⟩
    case round =>
      obtain ⟨k, rfl, hk, HO, HB⟩ := hrel
      by_cases hlt : k < m
      · have d1 : decide ((k : Int) < (m : Int)) = true := decide_eq_true (by omega)
        have hwz := HB.out.size
        go_wp2_with (first | (at_builtin; go_loud (refine wpList_append_uni rfl _ _ 24 rfl w1.heap.size 35 i1 _ 6 48 hu1 hi1 hz1' hs1 hbb1 rfl (by decide) _ _ _ rfl (by exact own_below HO.out (below_alloc (Below.refl _ _) _)) _ 1 (PC.enc pcD) rfl rfl (by exact pc_lit_src wr) (by unfold maxLen; omega) (by omega) (by simp only [alloc_size]; omega) ?_)) | fail)
        intro A3 c3 w3 o3 g3 h3'
        have HO3 := Lib.hid (show w3.ownsRow w1.heap.size 35 6 (.slice A3 (k + 1) c3) (k + 1) ((List.replicate (k + 1) pcD).flatMap PC.enc) from by rw [← rep_succ]; exact o3)
        have HB3 := Lib.hid (below_grown (below_alloc HB.out _) g3 (by rw [alloc_size]; omega) (fun j hj => own_base HO.out j hj))
        clear o3 g3 h3' HO HB
        go_wp2_with fail
        go_roundw
        case rel => exact ⟨k + 1, by go_num, by omega, HO3, HB3⟩
        case measure => simp [intOf]; omega
      · obtain rfl : k = m := by omega
        have d1 : decide ((k : Int) < (k : Int)) = false := decide_eq_false (by omega)
        obtain ⟨A, c, e, hc, hC⟩ := pc_own (w := wr) (B := w1.heap.size) (v := u4) (xs := List.replicate k pcD) (by rw [List.length_replicate]; exact HO.out)
        subst e
        have HC := Lib.hid hC.bound
        have BW := Lib.hid (below_step B1.out HB.out)
        clear hC HO HB
        obtain ⟨cd, lb, hA, hcl, hrun⟩ := ltW_code
        obtain ⟨hp1, ns2, v2, hp2⟩ := hrun k hm1 hm8
        unfold pkLt at hp1 hp2
        have HA := Lib.hid hA
        have P1 := Lib.hid hp1
        have P2 := Lib.hid hp2
        clear hA hrun hp1 hp2
        go_wp2_with fail
        refine (TextsLt_calls _).mono ?_
        rintro e w3 ⟨At, ct, rfl, hCt, hb3⟩
        have HCt := Lib.hid hCt
        have B3 := Lib.hid (below_step BW.out hb3)
        have HC3 := Lib.hid (HC.out.below hb3)
        clear hCt hb3 BW HC
        go_wp2_with fail
        have hcall := Parked_calls textsLt At ct w3 HCt.out (by simp [textsLt]) lt_sizes.1 lt_sizes.2.1 lt_sizes.2.2 cd lb HA.out hcl 3 k false 8 0 0 0 false (by decide) (by decide) (by decide) (by decide) (List.replicate k pcD) A c HC3.out (fun x hx => by rw [List.eq_of_mem_replicate hx]; decide) [(1, 0)] 0 true P1.out
        simp only [List.length_replicate] at hcall
        unfold opV at hcall
        refine hcall.mono ?_
        rintro e w4 ⟨AN, cN, rfl, hN, hb4⟩
        have B4 := Lib.hid (below_step B3.out hb4)
        have HC4 := Lib.hid (HC3.out.below hb4)
        have HN := Lib.hid hN
        clear hb4 hN B3 HC3 HCt P1 hcall
        go_wp2_with fail
        obtain ⟨ad, rfl⟩ : ∃ ad, A = some ad := by obtain ⟨ad, _, e, _⟩ := at_pc HC4.out 0 (by simp; omega); exact ⟨ad, e⟩
        have hk1' : (1 : Int) ≤ (k : Int) := by omega
        rw [List.length_replicate] at hc
        have hkc : (k : Int) ≤ (c : Int) := by omega
        have h1c : (1 : Int) ≤ (c : Int) := by omega
        by_cases e1 : c = 1
        · subst e1
          have HT := Lib.hid (show kPC.C (fun _ => True) w4 (some ad) (List.replicate (k - 1) pcD) from by
            rw [show k - 1 = 0 by omega]
            exact Kd.C.nil _ _ _ _)
          obtain ⟨adN, pn, rfl, hpn, q0, q1⟩ := at_nt HN.out 0 (by decide)
          obtain rfl := Option.some.inj hpn
          have Q0 := Lib.hid (show w4.cell? adN = some (.int .i64 1) from q0)
          have Q1 := Lib.hid (show w4.cell? ⟨adN.block, adN.off + 1, none⟩ = some (.int .i64 0) from q1)
          clear q0 q1 hpn HN HC4
          refine Muf.region (.q 1 (.q 2 (.q 3 (.q 4 (.q 5 (.m 0 (.m 6 (.q 7 (.q 8 (.q 9 (.q 10 (.q 11 (.q 12 (.q 13 .nil)))))))))))))) [1, 2, 3, 4, 5, 0, 6, 7, 8, 9, 10, 11, 12, 13] (fun w' => Below w4.heap.size w4 w') (by kernel_rfl) (by kernel_rfl) (by (repeat (with_reducible first | exact Below.refl _ _ | assumption | apply below_alloc | apply below_drewN | apply below_drew1 | (refine below_set ?_ (by simp only [alloc_size]; omega)) | (refine below_step ?_ (by assumption))))) ?_
          iterate 4 (apply Muf.quiet; (· (simp only [List.getElem?_toArray, List.getElem?_cons_succ, List.getElem?_cons_zero]) <;> rfl); (· intro w' hR V hV; go_simp; exact hV); intro K hK; simp only [Act.put, List.setIfInBounds_toArray, List.set_cons_zero, List.set_cons_succ]; refine hK _ ?_; clear hK K)
          apply Muf.quiet; (· (simp only [List.getElem?_toArray, List.getElem?_cons_succ, List.getElem?_cons_zero]) <;> rfl); (· intro w' hR V hV; go_simp; exact hV); intro K hK; simp only [Act.put, List.setIfInBounds_toArray, List.set_cons_zero, List.set_cons_succ]; refine hK _ ?_; clear hK K
          refine Muf.mover (Muf.chk rfl (by decide) ?_)
          go_wp2_with fail
          refine (TextsLt_calls _).mono ?_
          rintro e w5 ⟨At2, ct2, rfl, hCt, hb5⟩
          have HCt := Lib.hid hCt
          have B5 := Lib.hid (below_step (show Below w4.heap.size w4 w4.drew by (repeat (with_reducible first | exact Below.refl _ _ | assumption | apply below_alloc | apply below_drewN | apply below_drew1 | (refine below_set ?_ (by simp only [alloc_size]; omega)) | (refine below_step ?_ (by assumption))))) hb5)
          clear hCt hb5
          go_wp2_with fail
          refine ⟨B5.out, ?_⟩
          have HT5 := Lib.hid (HT.out.below B5.out)
          have hcall := Parked_calls textsLt At2 ct2 w5 HCt.out (by simp [textsLt]) lt_sizes.1 lt_sizes.2.1 lt_sizes.2.2 cd lb HA.out hcl 3 k false 8 0 0 0 false (by decide) (by decide) (by decide) (by decide) (List.replicate (k - 1) pcD) (some ad) 0 HT5.out (fun x hx => by rw [List.eq_of_mem_replicate hx]; decide) ns2 v2 false P2.out
          simp only [List.length_replicate] at hcall
          unfold opV at hcall
          rw [show k - 1 = 0 by omega] at hcall
          clear HT5 HT P2 HCt
          refine Muf.mover (Muf.chk rfl (by decide) ?_)
          go_wp2_with fail
          (with_reducible refine hcall.mono ?_)
          rintro e w6 ⟨AN2, cN2, rfl, _, hb6⟩
          have B6 := Lib.hid (below_step B5.out hb6)
          clear hb6 hcall
          go_wp2_with fail
          refine ⟨B6.out, ?_⟩
          iterate 7 (apply Muf.quiet; (· (simp only [List.getElem?_toArray, List.getElem?_cons_succ, List.getElem?_cons_zero]) <;> rfl); (· intro w' hR V hV; go_simp; exact hV); intro K hK; simp only [Act.put, List.setIfInBounds_toArray, List.set_cons_zero, List.set_cons_succ]; refine hK _ ?_; clear hK K)
          refine Muf.done ?_
          have q0' := cell_below_of Q0.out B6.out
          have q1' := cell_below_of Q1.out B6.out
          go_wp2_with fail
          go_ret
          exact ⟨rfl, below_step B4.out B6.out⟩

        · skip
          have HT := Lib.hid (show kPC.C (fun _ => True) w4 (some ⟨ad.block, ad.off + 6, none⟩) (List.replicate (k - 1) pcD) from by
            have h2 := HC4.out.mono (ok' := fun _ => True) (fun _ _ => trivial)
            rw [show k = (k - 1) + 1 by omega, List.replicate_succ] at h2
            exact C_tail h2)
          obtain ⟨adN, pn, rfl, hpn, q0, q1⟩ := at_nt HN.out 0 (by decide)
          obtain rfl := Option.some.inj hpn
          have Q0 := Lib.hid (show w4.cell? adN = some (.int .i64 1) from q0)
          have Q1 := Lib.hid (show w4.cell? ⟨adN.block, adN.off + 1, none⟩ = some (.int .i64 0) from q1)
          clear q0 q1 hpn HN HC4
          refine Muf.region (.q 1 (.q 2 (.q 3 (.q 4 (.q 5 (.m 0 (.m 6 (.q 7 (.q 8 (.q 9 (.q 10 (.q 11 (.q 12 (.q 13 .nil)))))))))))))) [1, 2, 3, 4, 5, 0, 6, 7, 8, 9, 10, 11, 12, 13] (fun w' => Below w4.heap.size w4 w') (by kernel_rfl) (by kernel_rfl) (by (repeat (with_reducible first | exact Below.refl _ _ | assumption | apply below_alloc | apply below_drewN | apply below_drew1 | (refine below_set ?_ (by simp only [alloc_size]; omega)) | (refine below_step ?_ (by assumption))))) ?_
          iterate 4 (apply Muf.quiet; (· (simp only [List.getElem?_toArray, List.getElem?_cons_succ, List.getElem?_cons_zero]) <;> rfl); (· intro w' hR V hV; go_simp; exact hV); intro K hK; simp only [Act.put, List.setIfInBounds_toArray, List.set_cons_zero, List.set_cons_succ]; refine hK _ ?_; clear hK K)
          apply Muf.quiet; (· (simp only [List.getElem?_toArray, List.getElem?_cons_succ, List.getElem?_cons_zero]) <;> rfl); (· intro w' hR V hV; go_simp; exact hV); intro K hK; simp only [Act.put, List.setIfInBounds_toArray, List.set_cons_zero, List.set_cons_succ]; refine hK _ ?_; clear hK K
          refine Muf.mover (Muf.chk rfl (by decide) ?_)
          go_wp2_with fail
          refine (TextsLt_calls _).mono ?_
          rintro e w5 ⟨At2, ct2, rfl, hCt, hb5⟩
          have HCt := Lib.hid hCt
          have B5 := Lib.hid (below_step (show Below w4.heap.size w4 w4.drew by (repeat (with_reducible first | exact Below.refl _ _ | assumption | apply below_alloc | apply below_drewN | apply below_drew1 | (refine below_set ?_ (by simp only [alloc_size]; omega)) | (refine below_step ?_ (by assumption))))) hb5)
          clear hCt hb5
          go_wp2_with fail
          refine ⟨B5.out, ?_⟩
          have HT5 := Lib.hid (HT.out.below B5.out)
          have hcall := Parked_calls textsLt At2 ct2 w5 HCt.out (by simp [textsLt]) lt_sizes.1 lt_sizes.2.1 lt_sizes.2.2 cd lb HA.out hcl 3 k false 8 0 0 0 false (by decide) (by decide) (by decide) (by decide) (List.replicate (k - 1) pcD) (some ⟨ad.block, ad.off + 6, none⟩) (c - 1) HT5.out (fun x hx => by rw [List.eq_of_mem_replicate hx]; decide) ns2 v2 false P2.out
          simp only [List.length_replicate] at hcall
          unfold opV at hcall
          clear HT5 HT P2 HCt
          refine Muf.mover (Muf.chk rfl (by decide) ?_)
          go_wp2_with fail
          (with_reducible refine hcall.mono ?_)
          rintro e w6 ⟨AN2, cN2, rfl, _, hb6⟩
          have B6 := Lib.hid (below_step B5.out hb6)
          clear hb6 hcall
          go_wp2_with fail
          refine ⟨B6.out, ?_⟩
          iterate 7 (apply Muf.quiet; (· (simp only [List.getElem?_toArray, List.getElem?_cons_succ, List.getElem?_cons_zero]) <;> rfl); (· intro w' hR V hV; go_simp; exact hV); intro K hK; simp only [Act.put, List.setIfInBounds_toArray, List.set_cons_zero, List.set_cons_succ]; refine hK _ ?_; clear hK K)
          refine Muf.done ?_
          have q0' := cell_below_of Q0.out B6.out
          have q1' := cell_below_of Q1.out B6.out
          go_wp2_with fail
          go_ret
          exact ⟨rfl, below_step B4.out B6.out⟩
theorem wf_bd {v : Int} (h : (Lit.int .i64 v).wf = true) : -9223372036854775808 ≤ v ∧ v ≤ 9223372036854775807 := by
  simpa [Lit.wf, IntKind.min, IntKind.max, IntKind.signed, IntKind.bits] using h
set_option maxHeartbeats 800000 in
theorem latchWaits_wf (many : Int) (W : World) (h : (Lit.int .i64 many).wf = true) : Calls Try.prog 6 #[.int .i64 many] W fun e W' => e = .returned (.bool true) ∧ Below W.heap.size W W' := latchWaits_row many W (wf_bd h).1 (wf_bd h).2
end Go.Proofs.Ytegjkheecbmioaa
