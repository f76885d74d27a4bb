/- The walks of the reference's Few and Same. -/
import Derived.Test.YtikfkkinhipfjaaRefA
namespace Go.Proofs.Ytikfkkinhipfjaa
open Go.RowKit
set_option linter.unusedVariables false
set_option linter.unusedSimpArgs false
variable {ok ok' : Nat → Prop}

theorem few_long {s : Scr} {k : Nat} {l : List Cl} (ho : s.progs[k]? = some l) (hb : 100 < (l.length : Int)) : fewB s = false := by
  have : s.progs.all (fun l => decide (l.length ≤ 100)) = false := by
    rw [List.all_eq_false]
    exact ⟨l, List.mem_of_getElem? ho, by simp; omega⟩
  simp [fewB, this]
theorem few_all {s : Scr} (h : (s.objs.length : Int) ≤ 100 ∧ (s.progs.length : Int) ≤ 100 ∧ (s.picks.length : Int) ≤ 8000) (hb : ∀ (j : Nat) l, s.progs[j]? = some l → (l.length : Int) ≤ 100) : fewB s = true := by
  have : s.progs.all (fun l => decide (l.length ≤ 100)) = true := all_of (fun j y hy => by have := hb j y hy; simp; omega)
  simp only [fewB, this, Bool.and_true, decide_eq_true_eq]
  omega
set_option maxHeartbeats 1600000 in
theorem few_calls (s : Scr) (A0 A1 A2 : Option Addr) (c0 c1 c2 : Nat) (w : World) (h : ScrAt ok w s A0 A1 A2 c0 c1 c2) :
    Calls Try.prog 9 #[scrV s A0 A1 A2 c0 c1 c2] w fun e w' => e = .returned (.bool (fewB s)) ∧ Below w.heap.size w w' := by
  have l0 := h.o.len
  have l1 := h.p.len
  have l2 := h.k.len
  have hS := Lib.hid h
  clear h
  unfold scrV
  rcases (show 100 < (s.objs.length : Int) ∨ ((s.objs.length : Int) ≤ 100 ∧ 100 < (s.progs.length : Int)) ∨ ((s.objs.length : Int) ≤ 100 ∧ (s.progs.length : Int) ≤ 100 ∧ 8000 < (s.picks.length : Int)) ∨ ((s.objs.length : Int) ≤ 100 ∧ (s.progs.length : Int) ≤ 100 ∧ (s.picks.length : Int) ≤ 8000) by omega) with g1 | ⟨g1, g2⟩ | ⟨g1, g2, g3⟩ | ⟨g1, g2, g3⟩
  · have hE := Lib.hid (show fewB s = false by simp only [fewB, Bool.and_eq_false_iff, decide_eq_false_iff_not]; left; omega)
    go_enter Try.func9, Try.ntmps9
    go_wp2
    go_ret
    exact ⟨by rw [hE.out]; rfl, by (repeat (with_reducible first | exact Below.refl _ _ | assumption | apply below_alloc | apply below_drewN | apply below_drew1 | (refine below_set ?_ (by simp only [alloc_size]; omega)) | (refine below_step ?_ (by assumption))))⟩
  · have hE := Lib.hid (show fewB s = false by simp only [fewB, Bool.and_eq_false_iff, decide_eq_false_iff_not]; left; omega)
    go_enter Try.func9, Try.ntmps9
    go_wp2
    go_ret
    exact ⟨by rw [hE.out]; rfl, by (repeat (with_reducible first | exact Below.refl _ _ | assumption | apply below_alloc | apply below_drewN | apply below_drew1 | (refine below_set ?_ (by simp only [alloc_size]; omega)) | (refine below_step ?_ (by assumption))))⟩
  · have hE := Lib.hid (show fewB s = false by simp only [fewB, Bool.and_eq_false_iff, decide_eq_false_iff_not]; left; omega)
    go_enter Try.func9, Try.ntmps9
    go_wp2
    go_ret
    exact ⟨by rw [hE.out]; rfl, by (repeat (with_reducible first | exact Below.refl _ _ | assumption | apply below_alloc | apply below_drewN | apply below_drew1 | (refine below_set ?_ (by simp only [alloc_size]; omega)) | (refine below_step ?_ (by assumption))))⟩
  · have hA := Lib.hid (fun hb => few_all (s := s) ⟨g1, g2, g3⟩ hb)
    go_enter Try.func9, Try.ntmps9
    go_wp2_with fail
    go_loop [3] (fun i => ∃ k : Nat, k ≤ s.progs.length ∧ i = .int .i64 k ∧ Hid (∀ (j : Nat) l, j < k → s.progs[j]? = some l → (l.length : Int) ≤ 100)) (fun i => s.progs.length - (intOf i).toNat)
    case atStart => exact ⟨0, Nat.zero_le _, rfl, fun j l h => absurd h (Nat.not_lt_zero _)⟩
    case round =>
      obtain ⟨k, hk, rfl, hall⟩ := hrel
      by_cases hlt : k < s.progs.length
      · obtain ⟨ad, A3, c3, l, hA1, ho0, e0, e1, e2⟩ := at_sl (hS.out.below (w1 := w.alloc (.cells #[.slice A0 s.objs.length c0, .slice A1 s.progs.length c1, .slice A2 s.picks.length c2] 26)) (by (repeat (with_reducible first | exact Below.refl _ _ | assumption | apply below_alloc | apply below_drewN | apply below_drew1 | (refine below_set ?_ (by simp only [alloc_size]; omega)) | (refine below_step ?_ (by assumption)))))).p k hlt
        subst hA1
        have hll := e2.len
        have ho := Lib.hid ho0
        clear ho0 e2
        go_wp2
        · have h : 100 < (l.length : Int) := by assumption
          have hE := Lib.hid (few_long ho.out h)
          go_ret
          exact ⟨by rw [hE.out]; rfl, by (repeat (with_reducible first | exact Below.refl _ _ | assumption | apply below_alloc | apply below_drewN | apply below_drew1 | (refine below_set ?_ (by simp only [alloc_size]; omega)) | (refine below_step ?_ (by assumption))))⟩
        · have h : (l.length : Int) ≤ 100 := by assumption
          go_round
          case rel => exact ⟨k + 1, by omega, by go_num, fun j y hj hy => by
            by_cases e : j = k
            · subst e; rw [ho.out] at hy; rw [← Option.some.inj hy]; exact h
            · exact hall.out j y (by omega) hy⟩
          case measure => simp [intOf]; omega
      · have hE := Lib.hid (hA.out (fun j l h => hall.out j l (by have := (List.getElem?_eq_some_iff.1 h).1; omega) h))
        go_wp2_with fail
        go_ret
        exact ⟨by rw [hE.out]; rfl, by (repeat (with_reducible first | exact Below.refl _ _ | assumption | apply below_alloc | apply below_drewN | apply below_drew1 | (refine below_set ?_ (by simp only [alloc_size]; omega)) | (refine below_step ?_ (by assumption))))⟩

def sameB (a b : Scr) : Bool := decide (a = b)
theorem ext_list {α : Type} {a b : List α} (hl : a.length = b.length) (h : ∀ (j : Nat) x y, a[j]? = some x → b[j]? = some y → x = y) : a = b := by
  apply List.ext_getElem hl
  intro j h1 h2
  exact h j _ _ (List.getElem?_eq_getElem h1) (List.getElem?_eq_getElem h2)
theorem same_yes {a b : Scr} (l0 : a.objs.length = b.objs.length) (l1 : a.progs.length = b.progs.length) (l2 : a.picks.length = b.picks.length)
    (h0 : ∀ (j : Nat) x y, a.objs[j]? = some x → b.objs[j]? = some y → x = y) (h1 : ∀ (j : Nat) x y, a.progs[j]? = some x → b.progs[j]? = some y → x = y) (h2 : ∀ (j : Nat) x y, a.picks[j]? = some x → b.picks[j]? = some y → x = y) : sameB a b = true := by
  obtain ⟨a0, a1, a2⟩ := a
  obtain ⟨b0, b1, b2⟩ := b
  simp only [sameB, decide_eq_true_eq, Scr.mk.injEq]
  exact ⟨ext_list l0 h0, ext_list l1 h1, ext_list l2 h2⟩
theorem same_len {a b : Scr} (h : a.objs.length ≠ b.objs.length ∨ a.progs.length ≠ b.progs.length ∨ a.picks.length ≠ b.picks.length) : sameB a b = false := by
  simp only [sameB, decide_eq_false_iff_not]
  rintro rfl
  rcases h with h | h | h <;> exact h rfl
theorem same_no0 {a b : Scr} {j : Nat} {x y : Ob} (hx : a.objs[j]? = some x) (hy : b.objs[j]? = some y) (h : x ≠ y) : sameB a b = false := by
  simp only [sameB, decide_eq_false_iff_not]
  rintro rfl
  rw [hx] at hy
  exact h (Option.some.inj hy)
theorem same_no1 {a b : Scr} {j : Nat} {x y : List Cl} (hx : a.progs[j]? = some x) (hy : b.progs[j]? = some y) (h : x ≠ y) : sameB a b = false := by
  simp only [sameB, decide_eq_false_iff_not]
  rintro rfl
  rw [hx] at hy
  exact h (Option.some.inj hy)
theorem same_no2 {a b : Scr} {j : Nat} {x y : Pk} (hx : a.picks[j]? = some x) (hy : b.picks[j]? = some y) (h : x ≠ y) : sameB a b = false := by
  simp only [sameB, decide_eq_false_iff_not]
  rintro rfl
  rw [hx] at hy
  exact h (Option.some.inj hy)
theorem ob_neq (x y : Ob) (w : World) : (binOp .neq 48 (.agg #[.int .i64 x.kind, .bool x.fair, .int .i64 x.n]) (.agg #[.int .i64 y.kind, .bool y.fair, .int .i64 y.n])).run Try.prog w = .ok (.bool (!decide (x = y))) w := by
  rw [run_neq_struct, run_equalIn_struct w 9999 48 _ _ (by kernel_rfl) (by kernel_rfl)]
  go_simp
  obtain ⟨x0, x1, x2⟩ := x
  obtain ⟨y0, y1, y2⟩ := y
  (repeat' split) <;> simp_all
theorem cl_neq (x y : Cl) (w : World) : (binOp .neq 54 (.agg #[.int .i64 x.kind, .int .i64 x.obj, .int .i64 x.n, .int .i64 x.wait, .bool x.breaks]) (.agg #[.int .i64 y.kind, .int .i64 y.obj, .int .i64 y.n, .int .i64 y.wait, .bool y.breaks])).run Try.prog w = .ok (.bool (!decide (x = y))) w := by
  rw [run_neq_struct, run_equalIn_struct w 9999 54 _ _ (by kernel_rfl) (by kernel_rfl)]
  go_simp
  obtain ⟨x0, x1, x2, x3, x4⟩ := x
  obtain ⟨y0, y1, y2, y3, y4⟩ := y
  (repeat' split) <;> simp_all
theorem pk_neq (x y : Pk) (w : World) : (binOp .neq 56 (.agg #[.int .i64 x.kind, .int .i64 x.n]) (.agg #[.int .i64 y.kind, .int .i64 y.n])).run Try.prog w = .ok (.bool (!decide (x = y))) w := by
  rw [run_neq_struct, run_equalIn_struct w 9999 56 _ _ (by kernel_rfl) (by kernel_rfl)]
  go_simp
  obtain ⟨x0, x1⟩ := x
  obtain ⟨y0, y1⟩ := y
  (repeat' split) <;> simp_all
theorem two_boxes (w : World) (cs ds : List Value) (T U : Nat) : (∀ (i : Nat) v, cs[i]? = some v → ((w.alloc (.cells cs.toArray T)).alloc (.cells ds.toArray U)).cell? ⟨w.heap.size, i, none⟩ = some v) ∧
    (∀ (i : Nat) v, ds[i]? = some v → ((w.alloc (.cells cs.toArray T)).alloc (.cells ds.toArray U)).cell? ⟨w.heap.size + 1, i, none⟩ = some v) :=
  ⟨fun i v h => box_later ((Below.refl _ _).alloc (Nat.le_refl _) _) h, fun i v h => by have := box_cell (w.alloc (.cells cs.toArray T)) ds U h; rwa [alloc_size] at this⟩
theorem pre_succ {α : Type} {a b : List α} {k : Nat} {x y : α} (h : ∀ (j : Nat) x y, j < k → a[j]? = some x → b[j]? = some y → x = y) (hx : a[k]? = some x) (hy : b[k]? = some y) (e : x = y) : Hid (∀ (j : Nat) x y, j < k + 1 → a[j]? = some x → b[j]? = some y → x = y) := by
  intro j u v hj hu hv
  by_cases e2 : j = k
  · subst e2; rw [hx] at hu; rw [hy] at hv; rw [← Option.some.inj hu, ← Option.some.inj hv, e]
  · exact h j u v (by omega) hu hv
def neB {α : Type} [DecidableEq α] (x y : α) : Bool := !decide (x = y)
theorem ne_of_neB {α : Type} [DecidableEq α] {x y : α} (h : neB x y = true) : x ≠ y := by simpa [neB] using h
theorem eq_of_neB {α : Type} [DecidableEq α] {x y : α} (h : neB x y = false) : x = y := by simpa [neB] using h
set_option maxRecDepth 100000 in
set_option maxHeartbeats 1600000 in
theorem same_calls (s t : Scr) (A0 A1 A2 B0 B1 B2 : Option Addr) (c0 c1 c2 d0 d1 d2 : Nat) (w : World) (hs : ScrAt ok w s A0 A1 A2 c0 c1 c2) (ht : ScrAt ok' w t B0 B1 B2 d0 d1 d2) :
    Calls Try.prog 16 #[scrV s A0 A1 A2 c0 c1 c2, scrV t B0 B1 B2 d0 d1 d2] w fun e w' => e = .returned (.bool (sameB s t)) ∧ Below w.heap.size w w' := by
  have l0 := hs.o.len
  have l1 := hs.p.len
  have l2 := hs.k.len
  have k0 := ht.o.len
  have k1 := ht.p.len
  have k2 := ht.k.len
  have hS := Lib.hid hs
  have hT := Lib.hid ht
  clear hs ht
  unfold scrV
  have hno := Lib.hid (@same_len s t)
  by_cases g0 : (s.objs.length : Int) = t.objs.length
  · by_cases g1 : (s.progs.length : Int) = t.progs.length
    · by_cases g2 : (s.picks.length : Int) = t.picks.length
      · have e0 : ((s.objs.length : Int) != t.objs.length) = false := by simpa using g0
        have e1 : ((s.progs.length : Int) != t.progs.length) = false := by simpa using g1
        have e2 : ((s.picks.length : Int) != t.picks.length) = false := by simpa using g2
        have G0 := Lib.hid g0; have G1 := Lib.hid g1; have G2 := Lib.hid g2
        clear g0 g1 g2
        go_enter Try.func16, Try.ntmps16
        go_wp2_with fail
        have b0 := two_boxes w [.slice A0 s.objs.length c0, .slice A1 s.progs.length c1, .slice A2 s.picks.length c2] [.slice B0 t.objs.length d0, .slice B1 t.progs.length d1, .slice B2 t.picks.length d2] 26 26
        have hbW : Below w.heap.size w ((w.alloc (.cells #[.slice A0 s.objs.length c0, .slice A1 s.progs.length c1, .slice A2 s.picks.length c2] 26)).alloc (.cells #[.slice B0 t.objs.length d0, .slice B1 t.progs.length d1, .slice B2 t.picks.length d2] 26)) := by (repeat (with_reducible first | exact Below.refl _ _ | assumption | apply below_alloc | apply below_drewN | apply below_drew1 | (refine below_set ?_ (by simp only [alloc_size]; omega)) | (refine below_step ?_ (by assumption))))
        have a0 : ((w.alloc (.cells #[.slice A0 s.objs.length c0, .slice A1 s.progs.length c1, .slice A2 s.picks.length c2] 26)).alloc (.cells #[.slice B0 t.objs.length d0, .slice B1 t.progs.length d1, .slice B2 t.picks.length d2] 26)).cell? ⟨w.heap.size, 0, none⟩ = some (.slice A0 s.objs.length c0) := b0.1 0 _ rfl
        have a1 : ((w.alloc (.cells #[.slice A0 s.objs.length c0, .slice A1 s.progs.length c1, .slice A2 s.picks.length c2] 26)).alloc (.cells #[.slice B0 t.objs.length d0, .slice B1 t.progs.length d1, .slice B2 t.picks.length d2] 26)).cell? ⟨w.heap.size, 1, none⟩ = some (.slice A1 s.progs.length c1) := b0.1 1 _ rfl
        have a2 : ((w.alloc (.cells #[.slice A0 s.objs.length c0, .slice A1 s.progs.length c1, .slice A2 s.picks.length c2] 26)).alloc (.cells #[.slice B0 t.objs.length d0, .slice B1 t.progs.length d1, .slice B2 t.picks.length d2] 26)).cell? ⟨w.heap.size, 2, none⟩ = some (.slice A2 s.picks.length c2) := b0.1 2 _ rfl
        have a3 : ((w.alloc (.cells #[.slice A0 s.objs.length c0, .slice A1 s.progs.length c1, .slice A2 s.picks.length c2] 26)).alloc (.cells #[.slice B0 t.objs.length d0, .slice B1 t.progs.length d1, .slice B2 t.picks.length d2] 26)).cell? ⟨w.heap.size + 1, 0, none⟩ = some (.slice B0 t.objs.length d0) := b0.2 0 _ rfl
        have a4 : ((w.alloc (.cells #[.slice A0 s.objs.length c0, .slice A1 s.progs.length c1, .slice A2 s.picks.length c2] 26)).alloc (.cells #[.slice B0 t.objs.length d0, .slice B1 t.progs.length d1, .slice B2 t.picks.length d2] 26)).cell? ⟨w.heap.size + 1, 1, none⟩ = some (.slice B1 t.progs.length d1) := b0.2 1 _ rfl
        have a5 : ((w.alloc (.cells #[.slice A0 s.objs.length c0, .slice A1 s.progs.length c1, .slice A2 s.picks.length c2] 26)).alloc (.cells #[.slice B0 t.objs.length d0, .slice B1 t.progs.length d1, .slice B2 t.picks.length d2] 26)).cell? ⟨w.heap.size + 1, 2, none⟩ = some (.slice B2 t.picks.length d2) := b0.2 2 _ rfl
        clear b0
        generalize ((w.alloc (.cells #[.slice A0 s.objs.length c0, .slice A1 s.progs.length c1, .slice A2 s.picks.length c2] 26)).alloc (.cells #[.slice B0 t.objs.length d0, .slice B1 t.progs.length d1, .slice B2 t.picks.length d2] 26)) = W0 at hbW a0 a1 a2 a3 a4 a5 ⊢
        have hS := Lib.hid (hS.out.below hbW)
        have hT := Lib.hid (hT.out.below hbW)
        go_loopw [5] (fun i wr => ∃ k n : Nat, k ≤ s.objs.length ∧ i = .int .i64 k ∧ wr = W0.drewN n ∧ Hid (∀ (j : Nat) x y, j < k → s.objs[j]? = some x → t.objs[j]? = some y → x = y)) (fun i _ => s.objs.length - (intOf i).toNat)
        case atStart => exact ⟨0, 0, Nat.zero_le _, rfl, rfl, fun j x y h => absurd h (Nat.not_lt_zero _)⟩
        case round =>
          obtain ⟨k, n, hk, rfl, rfl, hall⟩ := hrel
          by_cases hlt : k < s.objs.length
          · have hlt2 : k < t.objs.length := by have := G0.out; omega
            obtain ⟨ad, o, hA, ho0, x0, x1, x2⟩ := at_ob hS.out.o k hlt
            obtain ⟨bd, q, hB, hq0, y0, y1, y2⟩ := at_ob hT.out.o k hlt2
            subst hA hB
            have ho := Lib.hid ho0
            have hq := Lib.hid hq0
            clear ho0 hq0
            have hneq : ∀ w, (binOp .neq 48 (.agg #[.int .i64 o.kind, .bool o.fair, .int .i64 o.n]) (.agg #[.int .i64 q.kind, .bool q.fair, .int .i64 q.n])).run Try.prog w = .ok (.bool (neB o q)) w := ob_neq o q
            have i0 : (0 : Int) ≤ (k : Int) := by omega
            have i1 : (k : Int) < s.objs.length := by omega
            have i2 : (k : Int) < t.objs.length := by omega
            go_wp2_with fail
            go_quiet (fail)
            go_wp2_with fail
            · have h : neB o q = true := by assumption
              have hE := Lib.hid (same_no0 ho.out hq.out (ne_of_neB h))
              go_ret
              exact ⟨by rw [hE.out]; rfl, by (repeat (with_reducible first | exact Below.refl _ _ | assumption | apply below_alloc | apply below_drewN | apply below_drew1 | (refine below_set ?_ (by simp only [alloc_size]; omega)) | (refine below_step ?_ (by assumption))))⟩
            · have h : neB o q = false := by assumption
              go_roundw
              case rel => exact ⟨k + 1, _, by omega, by go_num, rfl, pre_succ hall.out ho.out hq.out (eq_of_neB h)⟩
              case measure => simp [intOf]; omega
          · have h0 : Hid (∀ (j : Nat) x y, s.objs[j]? = some x → t.objs[j]? = some y → x = y) := fun j x y hx hy => hall.out j x y (by have := (List.getElem?_eq_some_iff.1 hx).1; omega) hx hy
            clear hall
            go_wp2_with fail
            go_loopw [6] (fun i wr => ∃ k n : Nat, k ≤ s.progs.length ∧ i = .int .i64 k ∧ wr = W0.drewN n ∧ Hid (∀ (j : Nat) x y, j < k → s.progs[j]? = some x → t.progs[j]? = some y → x = y)) (fun i _ => s.progs.length - (intOf i).toNat)
            case atStart => exact ⟨0, n, Nat.zero_le _, rfl, rfl, fun j x y h => absurd h (Nat.not_lt_zero _)⟩
            case round =>
              clear hlt hk
              obtain ⟨k, n, hk, rfl, rfl, hall⟩ := hrel
              by_cases hlt : k < s.progs.length
              · have hlt2 : k < t.progs.length := by have := G1.out; omega
                obtain ⟨ad, A3, c3, o, hA, ho0, x0, x1, x2⟩ := at_sl hS.out.p k hlt
                obtain ⟨bd, B3, d3, q, hB, hq0, y0, y1, y2⟩ := at_sl hT.out.p k hlt2
                subst hA hB
                have ho := Lib.hid ho0
                have hq := Lib.hid hq0
                have X2 := Lib.hid x2
                have Y2 := Lib.hid y2
                have lo := x2.len
                have lq := y2.len
                clear ho0 hq0 x2 y2
                have i0 : (0 : Int) ≤ (k : Int) := by omega
                have i1 : (k : Int) < s.progs.length := by omega
                have i2 : (k : Int) < t.progs.length := by omega
                by_cases hl : (o.length : Int) = q.length
                · have hl' : ((o.length : Int) != q.length) = false := by simpa using hl
                  have HL := Lib.hid hl
                  clear hl
                  go_wp2_with fail
                  go_quiet (fail)
                  go_wp2_with fail
                  go_loopw [7] (fun i wr => ∃ m n : Nat, m ≤ o.length ∧ i = .int .i64 m ∧ wr = W0.drewN n ∧ Hid (∀ (j : Nat) x y, j < m → o[j]? = some x → q[j]? = some y → x = y)) (fun i _ => o.length - (intOf i).toNat)
                  case atStart => exact ⟨0, _, Nat.zero_le _, rfl, by first | rfl | exact World.drewN_drewN _ _ _, fun j x y h => absurd h (Nat.not_lt_zero _)⟩
                  case round =>
                    obtain ⟨m, n2, hm, rfl, rfl, hin⟩ := hrel
                    by_cases hlm : m < o.length
                    · have hlm2 : m < q.length := by have := HL.out; omega
                      obtain ⟨ae, u, hA, hu0, u0, u1, u2, u3, u4'⟩ := at_cl X2.out m hlm
                      obtain ⟨be, v, hB, hv0, v0, v1, v2, v3, v4⟩ := at_cl Y2.out m hlm2
                      subst hA hB
                      have hu := Lib.hid hu0
                      have hv := Lib.hid hv0
                      clear hu0 hv0
                      have hneq : ∀ w, (binOp .neq 54 (.agg #[.int .i64 u.kind, .int .i64 u.obj, .int .i64 u.n, .int .i64 u.wait, .bool u.breaks]) (.agg #[.int .i64 v.kind, .int .i64 v.obj, .int .i64 v.n, .int .i64 v.wait, .bool v.breaks])).run Try.prog w = .ok (.bool (neB u v)) w := cl_neq u v
                      have j0 : (0 : Int) ≤ (m : Int) := by omega
                      have j1 : (m : Int) < o.length := by omega
                      have j2 : (m : Int) < q.length := by omega
                      go_wp2_with fail
                      go_quiet (fail)
                      go_wp2_with fail
                      · have h : neB u v = true := by assumption
                        have hE := Lib.hid (same_no1 ho.out hq.out (fun e => ne_of_neB h (by subst e; have := hu.out.symm.trans hv.out; exact Option.some.inj this)))
                        go_ret
                        exact ⟨by rw [hE.out]; rfl, by (repeat (with_reducible first | exact Below.refl _ _ | assumption | apply below_alloc | apply below_drewN | apply below_drew1 | (refine below_set ?_ (by simp only [alloc_size]; omega)) | (refine below_step ?_ (by assumption))))⟩
                      · have h : neB u v = false := by assumption
                        go_roundw
                        case rel => exact ⟨m + 1, _, by omega, by go_num, rfl, pre_succ hin.out hu.out hv.out (eq_of_neB h)⟩
                        case measure => simp [intOf]; omega
                    · have he : o = q := ext_list (by have := HL.out; omega) (fun j x y hx hy => hin.out j x y (by have := (List.getElem?_eq_some_iff.1 hx).1; omega) hx hy)
                      have HE := Lib.hid he
                      clear he
                      go_wp2_with fail
                      go_roundw
                      case rel => exact ⟨k + 1, _, by omega, by go_num, rfl, pre_succ hall.out ho.out hq.out HE.out⟩
                      case measure => simp [intOf]; omega
                · have hl' : ((o.length : Int) != q.length) = true := by simpa using hl
                  have hE := Lib.hid (same_no1 ho.out hq.out (fun e => hl (by rw [e])))
                  clear hl
                  go_wp2_with fail
                  go_quiet (fail)
                  go_wp2_with fail
                  go_ret
                  exact ⟨by rw [hE.out]; rfl, by (repeat (with_reducible first | exact Below.refl _ _ | assumption | apply below_alloc | apply below_drewN | apply below_drew1 | (refine below_set ?_ (by simp only [alloc_size]; omega)) | (refine below_step ?_ (by assumption))))⟩
              · have h1 : Hid (∀ (j : Nat) x y, s.progs[j]? = some x → t.progs[j]? = some y → x = y) := fun j x y hx hy => hall.out j x y (by have := (List.getElem?_eq_some_iff.1 hx).1; omega) hx hy
                clear hall
                go_wp2_with fail
                go_loopw [8] (fun i wr => ∃ k n : Nat, k ≤ s.picks.length ∧ i = .int .i64 k ∧ wr = W0.drewN n ∧ Hid (∀ (j : Nat) x y, j < k → s.picks[j]? = some x → t.picks[j]? = some y → x = y)) (fun i _ => s.picks.length - (intOf i).toNat)
                case atStart => exact ⟨0, n, Nat.zero_le _, rfl, rfl, fun j x y h => absurd h (Nat.not_lt_zero _)⟩
                case round =>
                  clear hlt hk
                  obtain ⟨k, n, hk, rfl, rfl, hall⟩ := hrel
                  by_cases hlt : k < s.picks.length
                  · have hlt2 : k < t.picks.length := by have := G2.out; omega
                    obtain ⟨ad, o, hA, ho0, x0, x1⟩ := at_pk hS.out.k k hlt
                    obtain ⟨bd, q, hB, hq0, y0, y1⟩ := at_pk hT.out.k k hlt2
                    subst hA hB
                    have ho := Lib.hid ho0
                    have hq := Lib.hid hq0
                    clear ho0 hq0
                    have hneq : ∀ w, (binOp .neq 56 (.agg #[.int .i64 o.kind, .int .i64 o.n]) (.agg #[.int .i64 q.kind, .int .i64 q.n])).run Try.prog w = .ok (.bool (neB o q)) w := pk_neq o q
                    have i0 : (0 : Int) ≤ (k : Int) := by omega
                    have i1 : (k : Int) < s.picks.length := by omega
                    have i2 : (k : Int) < t.picks.length := by omega
                    go_wp2_with fail
                    go_quiet (fail)
                    go_wp2_with fail
                    · have h : neB o q = true := by assumption
                      have hE := Lib.hid (same_no2 ho.out hq.out (ne_of_neB h))
                      go_ret
                      exact ⟨by rw [hE.out]; rfl, by (repeat (with_reducible first | exact Below.refl _ _ | assumption | apply below_alloc | apply below_drewN | apply below_drew1 | (refine below_set ?_ (by simp only [alloc_size]; omega)) | (refine below_step ?_ (by assumption))))⟩
                    · have h : neB o q = false := by assumption
                      go_roundw
                      case rel => exact ⟨k + 1, _, by omega, by go_num, rfl, pre_succ hall.out ho.out hq.out (eq_of_neB h)⟩
                      case measure => simp [intOf]; omega
                  · have hE := Lib.hid (same_yes (by have := G0.out; omega) (by have := G1.out; omega) (by have := G2.out; omega) h0.out h1.out (fun j x y hx hy => hall.out j x y (by have := (List.getElem?_eq_some_iff.1 hx).1; omega) hx hy))
                    go_wp2_with fail
                    go_ret
                    exact ⟨by rw [hE.out]; rfl, by (repeat (with_reducible first | exact Below.refl _ _ | assumption | apply below_alloc | apply below_drewN | apply below_drew1 | (refine below_set ?_ (by simp only [alloc_size]; omega)) | (refine below_step ?_ (by assumption))))⟩
      · have hE := Lib.hid (hno.out (.inr (.inr (fun e => g2 (by rw [e])))))
        have e0 : ((s.objs.length : Int) != t.objs.length) = false := by simpa using g0
        have e1 : ((s.progs.length : Int) != t.progs.length) = false := by simpa using g1
        have e2 : ((s.picks.length : Int) != t.picks.length) = true := by simpa using g2
        clear g0 g1 g2
        go_enter Try.func16, Try.ntmps16
        go_wp2_with fail
        go_ret
        exact ⟨by rw [hE.out]; rfl, by (repeat (with_reducible first | exact Below.refl _ _ | assumption | apply below_alloc | apply below_drewN | apply below_drew1 | (refine below_set ?_ (by simp only [alloc_size]; omega)) | (refine below_step ?_ (by assumption))))⟩
    · have hE := Lib.hid (hno.out (.inr (.inl (fun e => g1 (by rw [e])))))
      have e0 : ((s.objs.length : Int) != t.objs.length) = false := by simpa using g0
      have e1 : ((s.progs.length : Int) != t.progs.length) = true := by simpa using g1
      clear g0 g1
      go_enter Try.func16, Try.ntmps16
      go_wp2_with fail
      go_ret
      exact ⟨by rw [hE.out]; rfl, by (repeat (with_reducible first | exact Below.refl _ _ | assumption | apply below_alloc | apply below_drewN | apply below_drew1 | (refine below_set ?_ (by simp only [alloc_size]; omega)) | (refine below_step ?_ (by assumption))))⟩
  · have hE := Lib.hid (hno.out (.inl (fun e => g0 (by rw [e]))))
    have e0 : ((s.objs.length : Int) != t.objs.length) = true := by simpa using g0
    clear g0
    go_enter Try.func16, Try.ntmps16
    go_wp2_with fail
    go_ret
    exact ⟨by rw [hE.out]; rfl, by (repeat (with_reducible first | exact Below.refl _ _ | assumption | apply below_alloc | apply below_drewN | apply below_drew1 | (refine below_set ?_ (by simp only [alloc_size]; omega)) | (refine below_step ?_ (by assumption))))⟩
end Go.Proofs.Ytikfkkinhipfjaa
