/- The walk of prog.Check. -/
import Derived.Test.YtikfkkinhipfjaaScrB
namespace Go.Proofs.Ytikfkkinhipfjaa
open Go.RowKit
set_option linter.unusedVariables false
set_option linter.unusedSimpArgs false
variable {ok : Nat → Prop}

theorem check_objs {s : Scr} (h1 : largeB s = false) (h2 : ¬ ((s.objs.length : Int) = 0 ∨ (s.progs.length : Int) = 0)) {k : Nat} {o : Ob} (ho : s.objs[k]? = some o) (hb : objB o = false) : checkE s = some 1 := by
  have : s.objs.all objB = false := by
    rw [List.all_eq_false]
    exact ⟨o, List.mem_of_getElem? ho, by simp [hb]⟩
  simp [checkE, h1, h2, this]
theorem check_progs {s : Scr} (h1 : largeB s = false) (h2 : ¬ ((s.objs.length : Int) = 0 ∨ (s.progs.length : Int) = 0)) {k : Nat} {l : List Cl} (ho : s.progs[k]? = some l) (hb : anyB (fun o => !callB o s.objs.length) l = true) : checkE s = some 1 := by
  have : s.progs.all (fun l => l.all (fun o => callB o s.objs.length)) = false := by
    rw [List.all_eq_false]
    refine ⟨l, List.mem_of_getElem? ho, ?_⟩
    simpa [anyB] using hb
  simp only [checkE, h1, Bool.false_eq_true, if_false, if_neg h2, this, if_true]
  split <;> rfl
theorem all_of {α : Type} {p : α → Bool} {l : List α} (h : ∀ (j : Nat) y, l[j]? = some y → p y = true) : l.all p = true := by
  rw [List.all_eq_true]
  intro x hx
  obtain ⟨j, hj, rfl⟩ := List.mem_iff_getElem.1 hx
  exact h j _ (List.getElem?_eq_getElem hj)
theorem check_picks {s : Scr} (h1 : largeB s = false) (h2 : ¬ ((s.objs.length : Int) = 0 ∨ (s.progs.length : Int) = 0)) (h3 : ∀ (j : Nat) y, s.objs[j]? = some y → objB y = true)
    (h4 : ∀ (j : Nat) y, s.progs[j]? = some y → anyB (fun o => !callB o s.objs.length) y = false) : checkE s = if anyB (fun o => !pickB o) s.picks = true then some 1 else none := by
  have e3 := all_of h3
  have e4 : s.progs.all (fun l => l.all (fun o => callB o s.objs.length)) = true := all_of (fun j y hy => by simpa [anyB] using h4 j y hy)
  have e5 : anyB (fun o => !pickB o) s.picks = !s.picks.all pickB := by
    rw [anyB, List.not_all_eq_any_not]
  rw [e5]
  simp only [checkE, h1, Bool.false_eq_true, if_false, if_neg h2, e3, e4, Bool.true_eq_false, Bool.not_eq_true', ]

set_option maxHeartbeats 1600000 in
theorem check_calls (s : Scr) (A0 A1 A2 : Option Addr) (c0 c1 c2 : Nat) (w : World) (h : ScrAt ok w s A0 A1 A2 c0 c1 c2) :
    Calls Try.prog 18 #[scrV s A0 A1 A2 c0 c1 c2] w fun e w' => e = .returned (errV (checkE s)) ∧ Below w.heap.size w w' := by
  have l0 := h.o.len
  have l1 := h.p.len
  have l2 := h.k.len
  have hL := Lib.hid (fun w1 hw => large_calls s A0 A1 A2 c0 c1 c2 w1 (h.below (w1 := w1) hw))
  by_cases g0 : largeB s = true
  · have hE : errV (checkE s) = .iface 43 (.int .i64 8) := by simp [checkE, g0, errV]
    have HE := Lib.hid hE
    have G := Lib.hid g0
    clear hE g0
    unfold scrV at hL ⊢
    go_enter Try.func18, Try.ntmps18
    go_wp2_with (go_at_call 35; refine (hL.out _ (by (repeat (with_reducible first | exact Below.refl _ _ | assumption | apply below_alloc | apply below_drewN | apply below_drew1 | (refine below_set ?_ (by simp only [alloc_size]; omega)) | (refine below_step ?_ (by assumption)))))).mono ?_; rw [G.out]; rintro e w' ⟨rfl, hb⟩)
    go_ret
    exact ⟨by rw [HE.out]; rfl, by (repeat (with_reducible first | exact Below.refl _ _ | assumption | apply below_alloc | apply below_drewN | apply below_drew1 | (refine below_set ?_ (by simp only [alloc_size]; omega)) | (refine below_step ?_ (by assumption))))⟩
  have g0' : largeB s = false := by simpa using g0
  have G := Lib.hid g0'
  by_cases g1 : (s.objs.length : Int) = 0
  · have hE : errV (checkE s) = .iface 43 (.int .i64 1) := by simp only [checkE, g0', Bool.false_eq_true, if_false, if_pos (Or.inl g1)]; rfl
    have HE := Lib.hid hE
    have g1' : ((s.objs.length : Int) == 0) = true := by simpa using g1
    clear hE g0 g0' g1
    unfold scrV at hL ⊢
    go_enter Try.func18, Try.ntmps18
    go_wp2_with (go_at_call 35; refine (hL.out _ (by (repeat (with_reducible first | exact Below.refl _ _ | assumption | apply below_alloc | apply below_drewN | apply below_drew1 | (refine below_set ?_ (by simp only [alloc_size]; omega)) | (refine below_step ?_ (by assumption)))))).mono ?_; rw [G.out]; rintro e w' ⟨rfl, hb⟩; have d0 := box_later hb (i := 0) rfl; have d1 := box_later hb (i := 1) rfl; have d2 := box_later hb (i := 2) rfl)
    go_ret
    exact ⟨by rw [HE.out]; rfl, by (repeat (with_reducible first | exact Below.refl _ _ | assumption | apply below_alloc | apply below_drewN | apply below_drew1 | (refine below_set ?_ (by simp only [alloc_size]; omega)) | (refine below_step ?_ (by assumption))))⟩
  have g1' : ((s.objs.length : Int) == 0) = false := by simpa using g1
  by_cases g2 : (s.progs.length : Int) = 0
  · have hE : errV (checkE s) = .iface 43 (.int .i64 1) := by simp only [checkE, g0', Bool.false_eq_true, if_false, if_pos (Or.inr g2)]; rfl
    have HE := Lib.hid hE
    have g2' : ((s.progs.length : Int) == 0) = true := by simpa using g2
    clear hE g0 g0' g1 g2
    unfold scrV at hL ⊢
    go_enter Try.func18, Try.ntmps18
    go_wp2_with (go_at_call 35; refine (hL.out _ (by (repeat (with_reducible first | exact Below.refl _ _ | assumption | apply below_alloc | apply below_drewN | apply below_drew1 | (refine below_set ?_ (by simp only [alloc_size]; omega)) | (refine below_step ?_ (by assumption)))))).mono ?_; rw [G.out]; rintro e w' ⟨rfl, hb⟩; have d0 := box_later hb (i := 0) rfl; have d1 := box_later hb (i := 1) rfl; have d2 := box_later hb (i := 2) rfl)
    go_ret
    exact ⟨by rw [HE.out]; rfl, by (repeat (with_reducible first | exact Below.refl _ _ | assumption | apply below_alloc | apply below_drewN | apply below_drew1 | (refine below_set ?_ (by simp only [alloc_size]; omega)) | (refine below_step ?_ (by assumption))))⟩
  have g2' : ((s.progs.length : Int) == 0) = false := by simpa using g2
  have g12 : ¬ ((s.objs.length : Int) = 0 ∨ (s.progs.length : Int) = 0) := by simp only [not_or]; exact ⟨g1, g2⟩
  have hO := Lib.hid (fun (k : Nat) o (ho : s.objs[k]? = some o) hb => check_objs (s := s) g0' g12 ho hb)
  have hP := Lib.hid (fun (k : Nat) l (ho : s.progs[k]? = some l) hb => check_progs (s := s) g0' g12 ho hb)
  have hQ := Lib.hid (fun h3 h4 => check_picks (s := s) g0' g12 h3 h4)
  clear g0 g0' g1 g2 g12
  have hS := Lib.hid h
  clear h
  unfold scrV at hL ⊢
  go_enter Try.func18, Try.ntmps18
  go_wp2_with (go_at_call 35; refine (hL.out _ (by (repeat (with_reducible first | exact Below.refl _ _ | assumption | apply below_alloc | apply below_drewN | apply below_drew1 | (refine below_set ?_ (by simp only [alloc_size]; omega)) | (refine below_step ?_ (by assumption)))))).mono ?_; rw [G.out]; rintro e w1 ⟨rfl, hb⟩; have d0 := box_later hb (i := 0) rfl; have d1 := box_later hb (i := 1) rfl; have d2 := box_later hb (i := 2) rfl)
  go_loopw [24] (fun i wr => ∃ k : Nat, k ≤ s.objs.length ∧ i = .int .i64 k ∧ Below w1.heap.size w1 wr ∧ Hid (∀ (j : Nat) y, j < k → s.objs[j]? = some y → objB y = true)) (fun i _ => s.objs.length - (intOf i).toNat)
  case atStart => exact ⟨0, Nat.zero_le _, rfl, Below.refl _ _, fun j y h => absurd h (Nat.not_lt_zero _)⟩
  case round =>
    obtain ⟨k, hk, rfl, hbl, hall⟩ := hrel
    have hbw : Below w.heap.size w wr := below_step (box_below hb) hbl
    by_cases hlt : k < s.objs.length
    · obtain ⟨ad, o, hA0, ho0, e0, e1, e2⟩ := at_ob (hS.out.below hbw).o k hlt
      subst hA0
      have ho := Lib.hid ho0
      clear ho0
      go_wp2_with (go_at_call 36; refine (object_calls o _).mono ?_; rintro e w2 ⟨rfl, hb2⟩)
      · have h : objB o = false := by first | assumption | (rw [Bool.eq_false_iff]; assumption) | (simp_all; done)
        have hE := Lib.hid (hO.out _ _ ho.out h)
        go_ret
        exact ⟨by rw [hE.out]; rfl, by (repeat (with_reducible first | exact Below.refl _ _ | assumption | apply below_alloc | apply below_drewN | apply below_drew1 | (refine below_set ?_ (by simp only [alloc_size]; omega)) | (refine below_step ?_ (by assumption))))⟩
      · have h : objB o = true := by first | assumption | (simp_all; done)
        go_roundw
        case rel => exact ⟨k + 1, by omega, by go_num, by (repeat (with_reducible first | exact Below.refl _ _ | assumption | apply below_alloc | apply below_drewN | apply below_drew1 | (refine below_set ?_ (by simp only [alloc_size]; omega)) | (refine below_step ?_ (by assumption)))), fun j y hj hy => by
          by_cases e : j = k
          · subst e; rw [ho.out] at hy; rw [← Option.some.inj hy]; exact h
          · exact hall.out j y (by omega) hy⟩
        case measure => simp [intOf]; omega
    · have hobs : Hid (∀ (j : Nat) y, s.objs[j]? = some y → objB y = true) := fun j y hy => hall.out j y (by have := (List.getElem?_eq_some_iff.1 hy).1; omega) hy
      clear hall
      have d1 := (hbl.cell (p := ⟨w.heap.size, 1, none⟩) (box_lt hb)).trans d1
      have d2 := (hbl.cell (p := ⟨w.heap.size, 2, none⟩) (box_lt hb)).trans d2
      have d0 := (hbl.cell (p := ⟨w.heap.size, 0, none⟩) (box_lt hb)).trans d0
      obtain ⟨wo, rfl⟩ : ∃ wo : World, wo = wr := ⟨_, rfl⟩
      have hlo : w.heap.size < wo.heap.size := Nat.lt_of_lt_of_le (box_lt hb) hbl.size
      go_wp2_with fail
      go_loopw [36] (fun i wq => ∃ k : Nat, k ≤ s.progs.length ∧ i = .int .i64 k ∧ Below wo.heap.size wo wq ∧ Hid (∀ (j : Nat) y, j < k → s.progs[j]? = some y → anyB (fun o => !callB o s.objs.length) y = false)) (fun i _ => s.progs.length - (intOf i).toNat)
      case atStart => exact ⟨0, Nat.zero_le _, rfl, Below.refl _ _, fun j y h => absurd h (Nat.not_lt_zero _)⟩
      case round =>
        obtain ⟨k2, hk2, rfl, hbl2, hall⟩ := hrel
        have hbw2 : Below w.heap.size w wr := below_step hbw hbl2
        have hlr : w.heap.size < wr.heap.size := Nat.lt_of_lt_of_le hlo hbl2.size
        by_cases hlt2 : k2 < s.progs.length
        · obtain ⟨ad, A3, c3, l, hA1, ho0, e0, e1, e2⟩ := at_sl (hS.out.below hbw2).p k2 hlt2
          subst hA1
          have ho := Lib.hid ho0
          clear ho0
          have e0' := (hbl2.cell (p := ⟨w.heap.size, 0, none⟩) hlo).trans d0
          go_wp2_with (go_at_call 37; refine (has_cl l w.heap.size A3 A0 s.objs.length c0 c3 _ e2 (by omega) e0' hlr).mono ?_; rintro e w2 ⟨rfl, hb2⟩)
          · have h : anyB (fun o => !callB o s.objs.length) l = true := by assumption
            have hE := Lib.hid (hP.out _ _ ho.out h)
            go_ret
            exact ⟨by rw [hE.out]; rfl, below_step hbw2 hb2⟩
          · have h : anyB (fun o => !callB o s.objs.length) l = false := by first | assumption | (rw [Bool.eq_false_iff]; assumption)
            go_roundw
            case rel => exact ⟨k2 + 1, by omega, by go_num, below_step hbl2 hb2, fun j y hj hy => by
              by_cases e : j = k2
              · subst e; rw [ho.out] at hy; rw [← Option.some.inj hy]; exact h
              · exact hall.out j y (by omega) hy⟩
            case measure => simp [intOf]; omega
        · have hpr : Hid (∀ (j : Nat) y, s.progs[j]? = some y → anyB (fun o => !callB o s.objs.length) y = false) := fun j y hy => hall.out j y (by have := (List.getElem?_eq_some_iff.1 hy).1; omega) hy
          clear hall
          have d2' := (hbl2.cell (p := ⟨w.heap.size, 2, none⟩) hlo).trans d2
          have hE := Lib.hid (hQ.out hobs.out hpr.out)
          go_wp2_with (go_at_call 40; refine (has_pk s.picks A2 c2 _ (hS.out.below hbw2).k).mono ?_; rintro e w2 ⟨rfl, hb2⟩)
          · have h : anyB (fun o => !pickB o) s.picks = true := by assumption
            go_ret
            exact ⟨by rw [hE.out, if_pos h]; rfl, below_step hbw2 hb2⟩
          · have h : ¬ anyB (fun o => !pickB o) s.picks = true := by first | assumption | (rw [Bool.not_eq_true]; assumption)
            go_ret
            exact ⟨by rw [hE.out, if_neg h]; rfl, below_step hbw2 hb2⟩
end Go.Proofs.Ytikfkkinhipfjaa
