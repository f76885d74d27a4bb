/- The walk of the reference's Check of layer 5. -/
import Derived.Test.YtikfkkinhipfjaaRefB
import Derived.Test.YtikfkkinhipfjaaMix
namespace Go.Proofs.Ytikfkkinhipfjaa
open Go.RowKit
set_option linter.unusedVariables false
set_option linter.unusedSimpArgs false

def codeI : Option Int → Int
  | none => 0
  | some c => c
def okO (s : Scr) : Bool := s.objs.all objB
def okP (s : Scr) : Bool := s.progs.all (fun l => l.all (fun o => callB o s.objs.length))
def okK (s : Scr) : Bool := s.picks.all pickB
theorem check_eq (s : Scr) : checkE s = if largeB s = true then some 8 else if (s.objs.length : Int) = 0 ∨ (s.progs.length : Int) = 0 then some 1 else if (okO s && okP s && okK s) = true then none else some 1 := by
  unfold checkE okO okP okK
  split
  · rfl
  split
  · rfl
  cases h1 : s.objs.all objB <;> cases h2 : (s.progs.all (fun l => l.all (fun o => callB o s.objs.length))) <;> cases h3 : s.picks.all pickB <;> simp
theorem all_take {α : Type} {p : α → Bool} {l : List α} {k : Nat} {x : α} (h : l[k]? = some x) : (l.take (k + 1)).all p = ((l.take k).all p && p x) := by
  rw [List.take_add_one, h]
  simp
theorem large_hit {s : Scr} {k : Nat} {l : List Cl} (h : s.progs[k]? = some l) (hl : 16 < (l.length : Int)) : largeB s = true := by
  simp only [largeB, Bool.or_eq_true, List.any_eq_true, decide_eq_true_eq]
  exact .inl (.inl (.inl ⟨l, List.mem_of_getElem? h, hl⟩))
theorem large_len {s : Scr} (h : 6 < (s.objs.length : Int) ∨ 8 < (s.progs.length : Int) ∨ 4000 < (s.picks.length : Int)) : largeB s = true := by
  simp only [largeB, Bool.or_eq_true, List.any_eq_true, decide_eq_true_eq]
  rcases h with h | h | h
  · exact .inl (.inl (.inr h))
  · exact .inl (.inr h)
  · exact .inr h
theorem large_no {s : Scr} (h1 : (s.objs.length : Int) ≤ 6) (h2 : (s.progs.length : Int) ≤ 8) (h3 : (s.picks.length : Int) ≤ 4000) (h : ∀ (j : Nat) l, s.progs[j]? = some l → (l.length : Int) ≤ 16) : largeB s = false := by
  rw [Bool.eq_false_iff]
  simp only [largeB, ne_eq, Bool.or_eq_true, List.any_eq_true, decide_eq_true_eq, not_or, not_exists, not_and]
  refine ⟨⟨⟨fun l hl => ?_, by omega⟩, by omega⟩, by omega⟩
  obtain ⟨j, hj⟩ := List.mem_iff_getElem?.1 hl
  have := h j l hj
  omega
set_option maxRecDepth 100000 in
set_option maxHeartbeats 3200000 in
theorem rcheck_calls {ok : Nat → Prop} (s : Scr) (A0 A1 A2 : Option Addr) (c0 c1 c2 : Nat) (w : World) (h : ScrAt ok w s A0 A1 A2 c0 c1 c2) :
    Calls Try.prog 11 #[scrV s A0 A1 A2 c0 c1 c2] w fun e w' => e = .returned (.int .i64 (codeI (checkE s))) ∧ Below w.heap.size w w' := by
  have hS := Lib.hid h.bound
  have l0 := h.o.len
  have l1 := h.p.len
  have l2 := h.k.len
  clear h
  have hE := Lib.hid (check_eq s)
  obtain ⟨W0, hW0⟩ : ∃ W0, W0 = w.alloc (.cells #[.slice A0 s.objs.length c0, .slice A1 s.progs.length c1, .slice A2 s.picks.length c2] 26) := ⟨_, rfl⟩
  have a0 : W0.cell? ⟨w.heap.size, 0, none⟩ = some (.slice A0 s.objs.length c0) := by rw [hW0]; exact box_cell w [_, _, _] _ rfl
  have a1 : W0.cell? ⟨w.heap.size, 1, none⟩ = some (.slice A1 s.progs.length c1) := by rw [hW0]; exact box_cell w [_, _, _] _ rfl
  have a2 : W0.cell? ⟨w.heap.size, 2, none⟩ = some (.slice A2 s.picks.length c2) := by rw [hW0]; exact box_cell w [_, _, _] _ rfl
  have hb0 : Below w.heap.size w W0 := by rw [hW0]; (repeat (with_reducible first | exact Below.refl _ _ | assumption | apply below_alloc | apply below_drewN | apply below_drew1 | (refine below_set ?_ (by simp only [alloc_size]; omega)) | (refine below_step ?_ (by assumption))))
  have hz0 : W0.heap.size = w.heap.size + 1 := by rw [hW0, alloc_size]
  unfold scrV
  by_cases g1 : 6 < (s.objs.length : Int)
  · have g1' : decide (6 < (s.objs.length : Int)) = true := by simpa using g1
    have hC : Hid (checkE s = some 8) := Lib.hid (by rw [hE.out, if_pos (large_len (.inl g1))])
    go_enter Try.func11, Try.ntmps11
    go_wp2_with fail
    go_ret
    rw [hC.out]
    exact ⟨rfl, by (repeat (with_reducible first | exact Below.refl _ _ | assumption | apply below_alloc | apply below_drewN | apply below_drew1 | (refine below_set ?_ (by simp only [alloc_size]; omega)) | (refine below_step ?_ (by assumption))))⟩
  have g1' : decide (6 < (s.objs.length : Int)) = false := by simpa using g1
  by_cases g2 : 8 < (s.progs.length : Int)
  · have g2' : decide (8 < (s.progs.length : Int)) = true := by simpa using g2
    have hC : Hid (checkE s = some 8) := Lib.hid (by rw [hE.out, if_pos (large_len (.inr (.inl g2)))])
    go_enter Try.func11, Try.ntmps11
    go_wp2_with fail
    go_ret
    rw [hC.out]
    exact ⟨rfl, by (repeat (with_reducible first | exact Below.refl _ _ | assumption | apply below_alloc | apply below_drewN | apply below_drew1 | (refine below_set ?_ (by simp only [alloc_size]; omega)) | (refine below_step ?_ (by assumption))))⟩
  have g2' : decide (8 < (s.progs.length : Int)) = false := by simpa using g2
  by_cases g3 : 4000 < (s.picks.length : Int)
  · have g3' : decide (4000 < (s.picks.length : Int)) = true := by simpa using g3
    have hC : Hid (checkE s = some 8) := Lib.hid (by rw [hE.out, if_pos (large_len (.inr (.inr g3)))])
    go_enter Try.func11, Try.ntmps11
    go_wp2_with fail
    go_ret
    rw [hC.out]
    exact ⟨rfl, by (repeat (with_reducible first | exact Below.refl _ _ | assumption | apply below_alloc | apply below_drewN | apply below_drew1 | (refine below_set ?_ (by simp only [alloc_size]; omega)) | (refine below_step ?_ (by assumption))))⟩
  have g3' : decide (4000 < (s.picks.length : Int)) = false := by simpa using g3
  go_enter Try.func11, Try.ntmps11
  go_wp2_with fail
  rw [← hW0]
  clear hW0
  go_loopw [3] (fun i wr => ∃ k : Nat, k ≤ s.progs.length ∧ i = .int .i64 k ∧ W0 = wr ∧ ∀ (j : Nat) l, j < k → s.progs[j]? = some l → (l.length : Int) ≤ 16) (fun i _ => s.progs.length - (intOf i).toNat)
  case atStart => exact ⟨0, Nat.zero_le _, rfl, rfl, fun j l h => absurd h (Nat.not_lt_zero _)⟩
  case round =>
    obtain ⟨k, hk, rfl, rfl, hall0⟩ := hrel
    have hall := Lib.hid hall0
    clear hall0
    by_cases hlt : k < s.progs.length
    · obtain ⟨ad, A3, c3, l, hA, ho0, e0, e1, e2⟩ := at_sl (hS.out.below hb0).p k hlt
      have ho := Lib.hid ho0
      have hll := e2.len
      clear ho0 e2
      subst hA
      by_cases g4 : 16 < (l.length : Int)
      · have g4' : decide (16 < (l.length : Int)) = true := by simpa using g4
        have hC : Hid (checkE s = some 8) := Lib.hid (by rw [hE.out, if_pos (large_hit ho.out g4)])
        go_wp2_with fail
        go_ret
        rw [hC.out]
        exact ⟨rfl, by (repeat (with_reducible first | exact Below.refl _ _ | assumption | apply below_alloc | apply below_drewN | apply below_drew1 | (refine below_set ?_ (by simp only [alloc_size]; omega)) | (refine below_step ?_ (by assumption))))⟩
      · have g4' : decide (16 < (l.length : Int)) = false := by simpa using g4
        go_wp2_with fail
        go_roundw
        case rel => exact ⟨k + 1, by omega, by go_num, (by first | trivial | rfl), fun j l' hj hl' => by
          by_cases e : j = k
          · subst e; rw [ho.out] at hl'; obtain rfl := Option.some.inj hl'; omega
          · exact hall.out j l' (by omega) hl'⟩
        case measure => simp [intOf]; omega
    · obtain rfl : k = s.progs.length := by omega
      have hlg : largeB s = false := large_no (by omega) (by omega) (by omega) (fun j l hl => hall.out j l (by have := (List.getElem?_eq_some_iff.1 hl).1; omega) hl)
      have hE2 : Hid (checkE s = if (s.objs.length : Int) = 0 ∨ (s.progs.length : Int) = 0 then some 1 else if (okO s && okP s && okK s) = true then none else some 1) := Lib.hid (by rw [hE.out, if_neg (by simp [hlg])])
      clear hE hlg
      by_cases q1 : (s.objs.length : Int) = 0
      · have q1' : ((s.objs.length : Int) == 0) = true := by simpa using q1
        have hC : Hid (checkE s = some 1) := Lib.hid (by rw [hE2.out, if_pos (.inl q1)])
        clear q1
        go_wp2_with fail
        go_ret
        rw [hC.out]
        exact ⟨rfl, by (repeat (with_reducible first | exact Below.refl _ _ | assumption | apply below_alloc | apply below_drewN | apply below_drew1 | (refine below_set ?_ (by simp only [alloc_size]; omega)) | (refine below_step ?_ (by assumption))))⟩
      have q1' : ((s.objs.length : Int) == 0) = false := by simpa using q1
      by_cases q2 : (s.progs.length : Int) = 0
      · have q2' : ((s.progs.length : Int) == 0) = true := by simpa using q2
        have hC : Hid (checkE s = some 1) := Lib.hid (by rw [hE2.out, if_pos (.inr q2)])
        clear q2
        go_wp2_with fail
        go_ret
        rw [hC.out]
        exact ⟨rfl, by (repeat (with_reducible first | exact Below.refl _ _ | assumption | apply below_alloc | apply below_drewN | apply below_drew1 | (refine below_set ?_ (by simp only [alloc_size]; omega)) | (refine below_step ?_ (by assumption))))⟩
      have q2' : ((s.progs.length : Int) == 0) = false := by simpa using q2
      have hE3 : Hid (checkE s = if (okO s && okP s && okK s) = true then none else some 1) := Lib.hid (by rw [hE2.out, if_neg (by omega)])
      clear hE2 q1 q2
      go_wp2_with fail
      go_loopw [4, 5] (fun v i wr => ∃ k : Nat, k ≤ s.objs.length ∧ i = .int .i64 k ∧ v = .bool ((s.objs.take k).all objB) ∧ Below W0.heap.size W0 wr) (fun _ i _ => s.objs.length - (intOf i).toNat)
      case atStart => exact ⟨0, Nat.zero_le _, rfl, rfl, Below.refl _ _⟩
      case round =>
        obtain ⟨k, hk, rfl, hv, hbl⟩ := hrel
        have d0 := cell_below_of a0 hbl
        by_cases hlt : k < s.objs.length
        · obtain ⟨ad, o, hA, ho0, e0, e1, e2⟩ := at_ob (hS.out.below (below_step hb0 hbl)).o k hlt
          have ho := Lib.hid ho0
          clear ho0
          subst hA
          have hat := Lib.hid (all_take (p := objB) ho.out)
          generalize (s.objs.take k).all objB = b at hv hat
          subst hv
          cases b with
          | true =>
            go_wp2_with (go_at_call 21; refine (robj_calls o _).mono ?_; rintro e w' ⟨rfl, hb2⟩)
            go_roundw
            case rel => exact ⟨k + 1, by omega, by go_num, by rw [hat.out, Bool.true_and], by (repeat (with_reducible first | exact Below.refl _ _ | assumption | apply below_alloc | apply below_drewN | apply below_drew1 | (refine below_set ?_ (by simp only [alloc_size]; omega)) | (refine below_step ?_ (by assumption))))⟩
            case measure => simp [intOf]; omega
          | false =>
            go_wp2_with fail
            go_roundw
            case rel => exact ⟨k + 1, by omega, by go_num, by rw [hat.out, Bool.false_and], by (repeat (with_reducible first | exact Below.refl _ _ | assumption | apply below_alloc | apply below_drewN | apply below_drew1 | (refine below_set ?_ (by simp only [alloc_size]; omega)) | (refine below_step ?_ (by assumption))))⟩
            case measure => simp [intOf]; omega
        · obtain rfl : k = s.objs.length := by omega
          rw [List.take_length] at hv
          change _ = Value.bool (okO s) at hv
          subst hv
          have d1 := cell_below_of a1 hbl
          go_wp2_with fail
          clear d0
          go_loopw [4, 6] (fun v i wr => ∃ k : Nat, k ≤ s.progs.length ∧ i = .int .i64 k ∧ v = .bool (okO s && (s.progs.take k).all (fun l => l.all (fun o => callB o s.objs.length))) ∧ Below W0.heap.size W0 wr) (fun _ i _ => s.progs.length - (intOf i).toNat)
          case atStart => exact ⟨0, Nat.zero_le _, rfl, by simp, hbl⟩
          case round =>
            clear hbl d1
            obtain ⟨k, hk, rfl, hv, hbl⟩ := hrel
            have d1 := cell_below_of a1 hbl
            by_cases hlt : k < s.progs.length
            · obtain ⟨ad, A3, c3, l, hA, ho0, e0, e1, e2⟩ := at_sl hS.out.p k hlt
              have ho := Lib.hid ho0
              have hll := e2.len
              have e0' := Lib.hid e0
              have e2' := Lib.hid e2
              have hat := Lib.hid (all_take (p := fun l : List Cl => l.all (fun o => callB o s.objs.length)) ho.out)
              clear ho0 e2 e0
              subst hA
              obtain ⟨b0, hb0e⟩ : ∃ b0, b0 = (okO s && (s.progs.take k).all (fun l => l.all (fun o => callB o s.objs.length))) := ⟨_, rfl⟩
              rw [← hb0e] at hv
              have hB0 := Lib.hid hb0e
              clear hb0e
              subst hv
              obtain ⟨wo, rfl⟩ : ∃ wo : World, wo = wr := ⟨_, rfl⟩
              go_wp2_with fail
              go_loopw [4, 7] (fun v i wr => ∃ j : Nat, j ≤ l.length ∧ i = .int .i64 j ∧ v = .bool (b0 && (l.take j).all (fun o => callB o s.objs.length)) ∧ Below W0.heap.size W0 wr) (fun _ i _ => l.length - (intOf i).toNat)
              case atStart => exact ⟨0, Nat.zero_le _, rfl, by simp, hbl⟩
              case round =>
                clear hbl d1
                obtain ⟨j, hj, rfl, hv, hbl⟩ := hrel
                have d1 := cell_below_of a1 hbl
                have d0 := cell_below_of a0 hbl
                have f0 := cell_below_of e0'.out (below_step hb0 hbl)
                by_cases hjt : j < l.length
                · obtain ⟨ad2, o, hA, hj0, t0, t1, t2, t3, t4⟩ := at_cl (e2'.out.below (below_step hb0 hbl)) j hjt
                  have hjo := Lib.hid hj0
                  have hat2 := Lib.hid (all_take (p := fun o => callB o s.objs.length) hjo.out)
                  clear hj0
                  subst hA
                  generalize (l.take j).all (fun o => callB o s.objs.length) = b1 at hv hat2
                  obtain ⟨b, hb⟩ : ∃ b, b = (b0 && b1) := ⟨_, rfl⟩
                  rw [← hb] at hv
                  have hbb := Lib.hid hb
                  clear hb
                  subst hv
                  cases b with
                  | true =>
                    go_wp2_with fail
                    refine Mix.region [0, 1, 2, 3, 4, 5, 6, 7, 8, 9, 10, 11, 12] [13, 14, 15] 0 (fun w' => w' = wr.drew) (by kernel_rfl) (by kernel_rfl) rfl ?_
                    repeat (apply Mix.step; (· rfl); (· intro w' hR V hV; subst hR; go_simp; exact hV); intro K hK; go_simp; refine hK _ ?_; clear hK K)
                    refine Mix.nil ?_
                    simp only [Mix.Tail, Mix.pick, List.getElem?_cons_succ, List.getElem?_cons_zero]
                    go_wp2_with (go_at_call 22; refine (rcall_calls o _ _).mono ?_; rintro e w' ⟨rfl, hb2⟩)
                    refine Mix.calm_end ?_
                    go_wp2_with fail
                    go_roundw
                    case rel => exact ⟨j + 1, by omega, by go_num, by rw [hat2.out, ← Bool.and_assoc, ← hbb.out, Bool.true_and], by (repeat (with_reducible first | exact Below.refl _ _ | assumption | apply below_alloc | apply below_drewN | apply below_drew1 | (refine below_set ?_ (by simp only [alloc_size]; omega)) | (refine below_step ?_ (by assumption))))⟩
                    case measure => simp [intOf]; omega
                  | false =>
                    go_wp2_with fail
                    refine Mix.region [0, 1, 2, 3, 4, 5, 6, 7, 8, 9, 10, 11, 12] [13, 14, 15] 0 (fun w' => w' = wr.drew) (by kernel_rfl) (by kernel_rfl) rfl ?_
                    repeat (apply Mix.step; (· rfl); (· intro w' hR V hV; subst hR; go_simp; exact hV); intro K hK; go_simp; refine hK _ ?_; clear hK K)
                    refine Mix.nil ?_
                    simp only [Mix.Tail, Mix.pick, List.getElem?_cons_succ, List.getElem?_cons_zero]
                    go_wp2_with fail
                    refine Mix.calm_end ?_
                    go_wp2_with fail
                    go_roundw
                    case rel => exact ⟨j + 1, by omega, by go_num, by rw [hat2.out, ← Bool.and_assoc, ← hbb.out, Bool.false_and], by (repeat (with_reducible first | exact Below.refl _ _ | assumption | apply below_alloc | apply below_drewN | apply below_drew1 | (refine below_set ?_ (by simp only [alloc_size]; omega)) | (refine below_step ?_ (by assumption))))⟩
                    case measure => simp [intOf]; omega
                · obtain rfl : j = l.length := by omega
                  rw [List.take_length] at hv
                  subst hv
                  go_wp2_with fail
                  go_roundw
                  case rel => exact ⟨k + 1, by omega, by go_num, by rw [hat.out, hB0.out, Bool.and_assoc], by (repeat (with_reducible first | exact Below.refl _ _ | assumption | apply below_alloc | apply below_drewN | apply below_drew1 | (refine below_set ?_ (by simp only [alloc_size]; omega)) | (refine below_step ?_ (by assumption))))⟩
                  case measure => simp [intOf]; omega
            · obtain rfl : k = s.progs.length := by omega
              rw [List.take_length] at hv
              change _ = Value.bool (okO s && okP s) at hv
              subst hv
              have d2 := cell_below_of a2 hbl
              go_wp2_with fail
              clear d1
              go_loopw [4, 8] (fun v i wr => ∃ k : Nat, k ≤ s.picks.length ∧ i = .int .i64 k ∧ v = .bool (okO s && okP s && (s.picks.take k).all pickB) ∧ Below W0.heap.size W0 wr) (fun _ i _ => s.picks.length - (intOf i).toNat)
              case atStart => exact ⟨0, Nat.zero_le _, rfl, by simp, hbl⟩
              case round =>
                clear hbl d2
                obtain ⟨k, hk, rfl, hv, hbl⟩ := hrel
                have d2 := cell_below_of a2 hbl
                by_cases hlt : k < s.picks.length
                · obtain ⟨ad, o, hA, ho0, e0, e1⟩ := at_pk (hS.out.below (below_step hb0 hbl)).k k hlt
                  have ho := Lib.hid ho0
                  clear ho0
                  subst hA
                  have hat := Lib.hid (all_take (p := pickB) ho.out)
                  obtain ⟨b, hb⟩ : ∃ b, b = (okO s && okP s && (s.picks.take k).all pickB) := ⟨_, rfl⟩
                  rw [← hb] at hv
                  have hbb := Lib.hid hb
                  clear hb
                  subst hv
                  cases b with
                  | true =>
                    go_wp2_with (go_at_call 23; refine (rpick_calls o _).mono ?_; rintro e w' ⟨rfl, hb2⟩)
                    go_roundw
                    case rel => exact ⟨k + 1, by omega, by go_num, by rw [hat.out, ← Bool.and_assoc, ← hbb.out, Bool.true_and], by (repeat (with_reducible first | exact Below.refl _ _ | assumption | apply below_alloc | apply below_drewN | apply below_drew1 | (refine below_set ?_ (by simp only [alloc_size]; omega)) | (refine below_step ?_ (by assumption))))⟩
                    case measure => simp [intOf]; omega
                  | false =>
                    go_wp2_with fail
                    go_roundw
                    case rel => exact ⟨k + 1, by omega, by go_num, by rw [hat.out, ← Bool.and_assoc, ← hbb.out, Bool.false_and], by (repeat (with_reducible first | exact Below.refl _ _ | assumption | apply below_alloc | apply below_drewN | apply below_drew1 | (refine below_set ?_ (by simp only [alloc_size]; omega)) | (refine below_step ?_ (by assumption))))⟩
                    case measure => simp [intOf]; omega
                · obtain rfl : k = s.picks.length := by omega
                  rw [List.take_length] at hv
                  change _ = Value.bool (okO s && okP s && okK s) at hv
                  generalize (okO s && okP s && okK s) = b at hv hE3
                  subst hv
                  cases b with
                  | true =>
                    have hC : Hid (checkE s = none) := Lib.hid (by rw [hE3.out, if_pos rfl])
                    go_wp2_with fail
                    go_ret
                    rw [hC.out]
                    exact ⟨rfl, by (repeat (with_reducible first | exact Below.refl _ _ | assumption | apply below_alloc | apply below_drewN | apply below_drew1 | (refine below_set ?_ (by simp only [alloc_size]; omega)) | (refine below_step ?_ (by assumption))))⟩
                  | false =>
                    have hC : Hid (checkE s = some 1) := Lib.hid (by rw [hE3.out, if_neg (by decide)])
                    go_wp2_with fail
                    go_ret
                    rw [hC.out]
                    exact ⟨rfl, by (repeat (with_reducible first | exact Below.refl _ _ | assumption | apply below_alloc | apply below_drewN | apply below_drew1 | (refine below_set ?_ (by simp only [alloc_size]; omega)) | (refine below_step ?_ (by assumption))))⟩
end Go.Proofs.Ytikfkkinhipfjaa
