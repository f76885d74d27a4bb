/- The walks of prog.Check and of what it goes through. -/
import Derived.Test.YtikfkkinhipfjaaScrA
namespace Go.Proofs.Ytikfkkinhipfjaa
open Go.RowKit
set_option linter.unusedVariables false
set_option linter.unusedSimpArgs false
variable {ok : Nat → Prop}

set_option maxHeartbeats 800000 in
theorem check1_calls (o : Cl) (b : Nat) (A0 : Option Addr) (m c : Nat) (w : World) (hm : (m : Int) ≤ 9223372036854775807) (hc : w.cell? ⟨b, 0, none⟩ = some (.slice A0 m c)) (hb : b < w.heap.size) :
    Calls Try.prog 38 #[.agg #[.int .i64 o.kind, .int .i64 o.obj, .int .i64 o.n, .int .i64 o.wait, .bool o.breaks], .pointer (some ⟨b, 0, none⟩)] w
      fun e w' => e = .returned (.bool (!callB o m)) ∧ Below w.heap.size w w' := by
  go_enter Try.func38, Try.ntmps38
  go_wp2_with (go_at_call 39; refine (call_calls _ _ _).mono ?_; rintro e w' ⟨rfl, hb⟩)
  go_ret
  exact ⟨rfl, by (repeat (with_reducible first | exact Below.refl _ _ | assumption | apply below_alloc | apply below_drewN | apply below_drew1 | (refine below_set ?_ (by simp only [alloc_size]; omega)) | (refine below_step ?_ (by assumption))))⟩
set_option maxHeartbeats 800000 in
theorem check2_calls (p : Pk) (w : World) :
    Calls Try.prog 41 #[.agg #[.int .i64 p.kind, .int .i64 p.n]] w
      fun e w' => e = .returned (.bool (!pickB p)) ∧ Below w.heap.size w w' := by
  go_enter Try.func41, Try.ntmps41
  go_wp2_with (go_at_call 42; refine (pick_calls _ _).mono ?_; rintro e w' ⟨rfl, hb⟩)
  go_ret
  exact ⟨rfl, by (repeat (with_reducible first | exact Below.refl _ _ | assumption | apply below_alloc | apply below_drewN | apply below_drew1 | (refine below_set ?_ (by simp only [alloc_size]; omega)) | (refine below_step ?_ (by assumption))))⟩
set_option maxHeartbeats 800000 in
theorem large1_calls (A0 : Option Addr) (m c : Nat) (w : World) (hm : (m : Int) ≤ 9223372036854775807) :
    Calls Try.prog 48 #[.slice A0 m c] w fun e w' => e = .returned (.bool (decide (16 < (m : Int)))) ∧ w = w' := by
  go_enter Try.func48, Try.ntmps48
  go_wp2
  all_goals
    go_ret
    exact ⟨by simp, rfl⟩

set_option maxHeartbeats 800000 in
theorem idx_cl (l : List Cl) (b : Nat) (A A0 : Option Addr) (m c c1 : Nat) (w : World) (hl : kCl.C ok w A l) (hm : (m : Int) ≤ 9223372036854775807) (hc : w.cell? ⟨b, 0, none⟩ = some (.slice A0 m c)) (hb : b < w.heap.size) :
    Calls Try.prog 50 #[.slice A l.length c1, .func (.func 38) #[] #[.pointer (some ⟨b, 0, none⟩)]] w
      fun e w' => e = .returned (.int .i64 (idxI (fun o => !callB o m) l)) ∧ Below w.heap.size w w' := by
  have hlen := hl.len
  go_enter Try.func50, Try.ntmps50
  go_wp2_with fail
  go_loopw [8] (fun i wr => ∃ k : Nat, k ≤ l.length ∧ i = .int .i64 k ∧ Below w.heap.size w wr ∧ ∀ (j : Nat) y, j < k → l[j]? = some y → (!callB y m) = false) (fun i _ => l.length - (intOf i).toNat)
  case atStart => exact ⟨0, Nat.zero_le _, rfl, Below.refl _ _, fun j y h => absurd h (Nat.not_lt_zero _)⟩
  case round =>
    obtain ⟨k, hk, rfl, hbl, hall0⟩ := hrel
    have hall := Lib.hid hall0
    clear hall0
    by_cases hlt : k < l.length
    · obtain ⟨ad, o, rfl, ho0, h0, h1, h2, h3, h4⟩ := at_cl (hl.below hbl) k hlt
      have ho := Lib.hid ho0
      clear ho0
      have hcw := (hbl.cell (p := ⟨b, 0, none⟩) hb).trans hc
      have hbw : b < wr.heap.size := Nat.lt_of_lt_of_le hb hbl.size
      go_wp2_with (go_at_call 38; refine (check1_calls o b A0 m c _ hm hcw hbw).mono ?_; rintro e w' ⟨rfl, hb2⟩)
      · go_ret
        have h : (!callB o m) = true := by assumption
        exact ⟨by rw [idxI_hit hall.out ho.out h]; rfl, by (repeat (with_reducible first | exact Below.refl _ _ | assumption | apply below_alloc | apply below_drewN | apply below_drew1 | (refine below_set ?_ (by simp only [alloc_size]; omega)) | (refine below_step ?_ (by assumption))))⟩
      · have h : (!callB o m) = false := by assumption
        go_roundw
        case rel => exact ⟨k + 1, by omega, by go_num, by (repeat (with_reducible first | exact Below.refl _ _ | assumption | apply below_alloc | apply below_drewN | apply below_drew1 | (refine below_set ?_ (by simp only [alloc_size]; omega)) | (refine below_step ?_ (by assumption)))), fun j y hj hy => by
          by_cases e : j = k
          · subst e; rw [ho.out] at hy; rw [← Option.some.inj hy]; exact h
          · exact hall.out j y (by omega) hy⟩
        case measure => simp [intOf]; omega
    · go_wp2_with fail
      go_ret
      exact ⟨by rw [idxI_none (fun j y h => hall.out j y (by have := (List.getElem?_eq_some_iff.1 h).1; omega) h)]; rfl, by (repeat (with_reducible first | exact Below.refl _ _ | assumption | apply below_alloc | apply below_drewN | apply below_drew1 | (refine below_set ?_ (by simp only [alloc_size]; omega)) | (refine below_step ?_ (by assumption))))⟩

set_option maxHeartbeats 800000 in
theorem idx_pk (l : List Pk) (A : Option Addr) (c1 : Nat) (w : World) (hl : kPk.C ok w A l) :
    Calls Try.prog 53 #[.slice A l.length c1, .func (.func 41) #[] #[]] w
      fun e w' => e = .returned (.int .i64 (idxI (fun o => !pickB o) l)) ∧ Below w.heap.size w w' := by
  have hlen := hl.len
  go_enter Try.func53, Try.ntmps53
  go_wp2_with fail
  go_loopw [8] (fun i wr => ∃ k : Nat, k ≤ l.length ∧ i = .int .i64 k ∧ Below w.heap.size w wr ∧ ∀ (j : Nat) y, j < k → l[j]? = some y → (!pickB y) = false) (fun i _ => l.length - (intOf i).toNat)
  case atStart => exact ⟨0, Nat.zero_le _, rfl, Below.refl _ _, fun j y h => absurd h (Nat.not_lt_zero _)⟩
  case round =>
    obtain ⟨k, hk, rfl, hbl, hall0⟩ := hrel
    have hall := Lib.hid hall0
    clear hall0
    by_cases hlt : k < l.length
    · obtain ⟨ad, o, rfl, ho0, h0, h1⟩ := at_pk (hl.below hbl) k hlt
      have ho := Lib.hid ho0
      clear ho0
      go_wp2_with (go_at_call 41; refine (check2_calls o _).mono ?_; rintro e w' ⟨rfl, hb2⟩)
      · go_ret
        have h : (!pickB o) = true := by assumption
        exact ⟨by rw [idxI_hit hall.out ho.out h]; rfl, by (repeat (with_reducible first | exact Below.refl _ _ | assumption | apply below_alloc | apply below_drewN | apply below_drew1 | (refine below_set ?_ (by simp only [alloc_size]; omega)) | (refine below_step ?_ (by assumption))))⟩
      · have h : (!pickB o) = false := by assumption
        go_roundw
        case rel => exact ⟨k + 1, by omega, by go_num, by (repeat (with_reducible first | exact Below.refl _ _ | assumption | apply below_alloc | apply below_drewN | apply below_drew1 | (refine below_set ?_ (by simp only [alloc_size]; omega)) | (refine below_step ?_ (by assumption)))), fun j y hj hy => by
          by_cases e : j = k
          · subst e; rw [ho.out] at hy; rw [← Option.some.inj hy]; exact h
          · exact hall.out j y (by omega) hy⟩
        case measure => simp [intOf]; omega
    · go_wp2_with fail
      go_ret
      exact ⟨by rw [idxI_none (fun j y h => hall.out j y (by have := (List.getElem?_eq_some_iff.1 h).1; omega) h)]; rfl, by (repeat (with_reducible first | exact Below.refl _ _ | assumption | apply below_alloc | apply below_drewN | apply below_drew1 | (refine below_set ?_ (by simp only [alloc_size]; omega)) | (refine below_step ?_ (by assumption))))⟩
def longB (l : List Cl) : Bool := decide (16 < (l.length : Int))
set_option maxHeartbeats 800000 in
theorem idx_ls (l : List (List Cl)) (A : Option Addr) (c1 : Nat) (w : World) (hl : (Kd.slice kCl).C ok w A l) :
    Calls Try.prog 54 #[.slice A l.length c1, .func (.func 48) #[] #[]] w
      fun e w' => e = .returned (.int .i64 (idxI longB l)) ∧ w = w' := by
  have hlen := hl.len
  go_enter Try.func54, Try.ntmps54
  go_wp2_with fail
  go_loop [8] (fun i => ∃ k : Nat, k ≤ l.length ∧ i = .int .i64 k ∧ ∀ (j : Nat) y, j < k → l[j]? = some y → longB y = false) (fun i => l.length - (intOf i).toNat)
  case atStart => exact ⟨0, Nat.zero_le _, rfl, fun j y h => absurd h (Nat.not_lt_zero _)⟩
  case round =>
    obtain ⟨k, hk, rfl, hall0⟩ := hrel
    have hall := Lib.hid hall0
    clear hall0
    by_cases hlt : k < l.length
    · obtain ⟨ad, A0, c0, o, rfl, ho0, h0, h1, h2⟩ := at_sl hl k hlt
      have ho := Lib.hid ho0
      clear ho0
      have hlo := h2.len
      have e0 : decide (16 < (o.length : Int)) = longB o := rfl
      go_wp2_with (go_at_call 48; refine (large1_calls A0 o.length c0 _ (by omega)).mono ?_; rw [e0]; clear e0; rintro e w' ⟨rfl, rfl⟩)
      · go_ret
        have h : longB o = true := by assumption
        exact ⟨by rw [idxI_hit hall.out ho.out h]; rfl, rfl⟩
      · have h : longB o = false := by first | assumption | (rw [Bool.eq_false_iff]; assumption)
        go_round
        case rel => exact ⟨k + 1, by omega, by go_num, fun j y hj hy => by
          by_cases e : j = k
          · subst e; rw [ho.out] at hy; rw [← Option.some.inj hy]; exact h
          · exact hall.out j y (by omega) hy⟩
        case measure => simp [intOf]; omega
    · go_wp2_with fail
      go_ret
      exact ⟨by rw [idxI_none (fun j y h => hall.out j y (by have := (List.getElem?_eq_some_iff.1 h).1; omega) h)]; rfl, rfl⟩

theorem has_cl (l : List Cl) (b : Nat) (A A0 : Option Addr) (m c c1 : Nat) (w : World) (hl : kCl.C ok w A l) (hm : (m : Int) ≤ 9223372036854775807) (hc : w.cell? ⟨b, 0, none⟩ = some (.slice A0 m c)) (hb : b < w.heap.size) :
    Calls Try.prog 37 #[.slice A l.length c1, .func (.func 38) #[] #[.pointer (some ⟨b, 0, none⟩)]] w
      fun e w' => e = .returned (.bool (anyB (fun o => !callB o m) l)) ∧ Below w.heap.size w w' := by
  go_enter Try.func37, Try.ntmps37
  go_wp2_with (go_at_call 50; refine (idx_cl l b A A0 m c c1 _ hl hm hc hb).mono ?_; rintro e w' ⟨rfl, hb2⟩)
  go_ret
  exact ⟨by rw [anyB, ← idxI_any]; rfl, hb2⟩
theorem has_pk (l : List Pk) (A : Option Addr) (c1 : Nat) (w : World) (hl : kPk.C ok w A l) :
    Calls Try.prog 40 #[.slice A l.length c1, .func (.func 41) #[] #[]] w
      fun e w' => e = .returned (.bool (anyB (fun o => !pickB o) l)) ∧ Below w.heap.size w w' := by
  go_enter Try.func40, Try.ntmps40
  go_wp2_with (go_at_call 53; refine (idx_pk l A c1 _ hl).mono ?_; rintro e w' ⟨rfl, hb2⟩)
  go_ret
  exact ⟨by rw [anyB, ← idxI_any]; rfl, hb2⟩
theorem has_ls (l : List (List Cl)) (A : Option Addr) (c1 : Nat) (w : World) (hl : (Kd.slice kCl).C ok w A l) :
    Calls Try.prog 47 #[.slice A l.length c1, .func (.func 48) #[] #[]] w
      fun e w' => e = .returned (.bool (anyB longB l)) ∧ w = w' := by
  go_enter Try.func47, Try.ntmps47
  go_wp2_with (go_at_call 54; refine (idx_ls l A c1 _ hl).mono ?_; rintro e w' ⟨rfl, rfl⟩)
  go_ret
  exact ⟨by rw [anyB, ← idxI_any]; rfl, rfl⟩

theorem longs_eq (s : Scr) : largeB s = (anyB longB s.progs || decide (6 < (s.objs.length : Int)) || decide (8 < (s.progs.length : Int)) || decide (4000 < (s.picks.length : Int))) := rfl
set_option maxHeartbeats 800000 in
theorem large_calls (s : Scr) (A0 A1 A2 : Option Addr) (c0 c1 c2 : Nat) (w : World) (h : ScrAt ok w s A0 A1 A2 c0 c1 c2) :
    Calls Try.prog 35 #[scrV s A0 A1 A2 c0 c1 c2] w fun e w' => e = .returned (.bool (largeB s)) ∧ Below w.heap.size w w' := by
  have l0 := h.o.len
  have l1 := h.p.len
  have l2 := h.k.len
  have hE := Lib.hid (longs_eq s)
  unfold scrV
  have hp : (Kd.slice kCl).C ok (w.alloc (.cells #[.slice A0 s.objs.length c0, .slice A1 s.progs.length c1, .slice A2 s.picks.length c2] 26)) A1 s.progs := (h.below (by (repeat (with_reducible first | exact Below.refl _ _ | assumption | apply below_alloc | apply below_drewN | apply below_drew1 | (refine below_set ?_ (by simp only [alloc_size]; omega)) | (refine below_step ?_ (by assumption)))))).p
  have hc : ∀ b, anyB longB s.progs = b → Calls Try.prog 47 #[.slice A1 s.progs.length c1, .func (.func 48) #[] #[]] (w.alloc (.cells #[.slice A0 s.objs.length c0, .slice A1 s.progs.length c1, .slice A2 s.picks.length c2] 26))
      fun e w' => e = .returned (.bool b) ∧ (w.alloc (.cells #[.slice A0 s.objs.length c0, .slice A1 s.progs.length c1, .slice A2 s.picks.length c2] 26)) = w' := by
    rintro b rfl
    exact has_ls s.progs A1 c1 _ hp
  have hC := Lib.hid hc
  clear hc hp
  generalize anyB longB s.progs = b at hE hC
  cases b with
  | true =>
    go_enter Try.func35, Try.ntmps35
    go_wp2_with (go_at_call 47; refine (hC.out true rfl).mono ?_; rintro e w' ⟨rfl, rfl⟩)
    go_ret
    exact ⟨by rw [hE.out]; rfl, by (repeat (with_reducible first | exact Below.refl _ _ | assumption | apply below_alloc | apply below_drewN | apply below_drew1 | (refine below_set ?_ (by simp only [alloc_size]; omega)) | (refine below_step ?_ (by assumption))))⟩
  | false =>
    by_cases g1 : 6 < (s.objs.length : Int)
    · have g1' : decide (6 < (s.objs.length : Int)) = true := by simpa using g1
      go_enter Try.func35, Try.ntmps35
      go_wp2_with (go_at_call 47; refine (hC.out false rfl).mono ?_; rintro e w' ⟨rfl, rfl⟩)
      go_ret
      exact ⟨by rw [hE.out]; simp [g1], by (repeat (with_reducible first | exact Below.refl _ _ | assumption | apply below_alloc | apply below_drewN | apply below_drew1 | (refine below_set ?_ (by simp only [alloc_size]; omega)) | (refine below_step ?_ (by assumption))))⟩
    · have g1' : decide (6 < (s.objs.length : Int)) = false := by simpa using g1
      by_cases g2 : 8 < (s.progs.length : Int)
      · have g2' : decide (8 < (s.progs.length : Int)) = true := by simpa using g2
        go_enter Try.func35, Try.ntmps35
        go_wp2_with (go_at_call 47; refine (hC.out false rfl).mono ?_; rintro e w' ⟨rfl, rfl⟩)
        go_ret
        exact ⟨by rw [hE.out]; simp [g1, g2], by (repeat (with_reducible first | exact Below.refl _ _ | assumption | apply below_alloc | apply below_drewN | apply below_drew1 | (refine below_set ?_ (by simp only [alloc_size]; omega)) | (refine below_step ?_ (by assumption))))⟩
      · have g2' : decide (8 < (s.progs.length : Int)) = false := by simpa using g2
        go_enter Try.func35, Try.ntmps35
        go_wp2_with (go_at_call 47; refine (hC.out false rfl).mono ?_; rintro e w' ⟨rfl, rfl⟩)
        go_ret
        exact ⟨by rw [hE.out, g1', g2']; simp, by (repeat (with_reducible first | exact Below.refl _ _ | assumption | apply below_alloc | apply below_drewN | apply below_drew1 | (refine below_set ?_ (by simp only [alloc_size]; omega)) | (refine below_step ?_ (by assumption))))⟩
end Go.Proofs.Ytikfkkinhipfjaa
