/- The walks of the statements of layer 4. -/
import Derived.Test.YtjpllpebnjbgjaaWordA
namespace Go.Proofs.Ytjpllpebnjbgjaa
open Go.RowKit
set_option linter.unusedVariables false
set_option linter.unusedSimpArgs false

theorem wf_bd {v : Int} (h : (Lit.int .i64 v).wf = true) : -9223372036854775808 ≤ v ∧ v ≤ 9223372036854775807 := by
  simpa [Lit.wf, IntKind.min, IntKind.max, IntKind.signed, IntKind.bits] using h
set_option maxHeartbeats 800000 in
theorem lcount_calls (n : Int) (w : World) : Calls Try.prog 9 #[.int .i64 n] w fun e w' => e = .returned (.bool (cntB n)) ∧ w = w' := by
  go_enter Try.func9, Try.ntmps9
  go_wp2
  all_goals
    go_ret
    exact ⟨by congr 2; simp only [cntB]; simp_all; try omega, rfl⟩
set_option maxHeartbeats 800000 in
theorem lmay_calls (v : Int) (w : World) (hv : v ≤ 9223372036854775807) : Calls Try.prog 10 #[.int .i64 v] w fun e w' => e = .returned (.bool (mayB v)) ∧ w = w' := by
  by_cases h0 : 0 ≤ v
  all_goals
    go_enter Try.func10, Try.ntmps10
    go_wp2
    all_goals
      go_ret
      exact ⟨by congr 2; simp only [mayB]; simp_all; try omega, rfl⟩
set_option maxHeartbeats 800000 in
theorem up_calls (w : World) : Calls Try.prog 7 #[] w fun e w' => e = .returned (.bool true) ∧ w = w' := by
  have e1 := Lib.hid (show packV 2 3 = 131075 by decide)
  have e2 := Lib.hid (show packE 2 3 = .nilIface from if_pos (by decide))
  have e3 := Lib.hid (show moreE (-1) 0 0 = .iface 28 (.int .i64 1) from if_neg (by decide))
  have e4 := Lib.hid (show mayB 131075 = true by decide)
  go_enter Try.func7, Try.ntmps7
  go_wp2_with fail
  refine (pack_calls _ _ _).mono ?_
  rw [e1.out, e2.out]
  rintro e w' ⟨rfl, rfl⟩
  go_wp2_with fail
  refine (more_calls _ _ _ _ (by decide)).mono ?_
  rw [e3.out]
  rintro e w' ⟨rfl, rfl⟩
  go_wp2_with (go_at_call 11; refine (may_calls _ _ (by decide)).mono ?_; rw [e4.out]; rintro e w' ⟨rfl, rfl⟩)
  go_ret
  exact ⟨rfl, rfl⟩
set_option maxHeartbeats 1600000 in
theorem packs_calls (r m v : Int) (w : World) (_ : (Lit.int .i64 r).wf = true) (_ : (Lit.int .i64 m).wf = true) (hv : (Lit.int .i64 v).wf = true) :
    Calls Try.prog 3 #[.int .i64 r, .int .i64 m, .int .i64 v] w fun e w' => e = .returned (.bool true) ∧ Below w.heap.size w w' := by
  have hv := (wf_bd hv).2
  have hk : (cntB r = true ∧ cntB m = true ∧ 0 ≤ r ∧ r ≤ 1000 ∧ 0 ≤ m ∧ m ≤ 1000 ∧ Hid (packV r m = r * 65536 + m) ∧ Hid (packE r m = .nilIface)) ∨
      (cntB r = true ∧ cntB m = false ∧ Hid (packV r m = 0) ∧ Hid (packE r m = .iface 28 (.int .i64 1))) ∨ (cntB r = false ∧ Hid (packV r m = 0) ∧ Hid (packE r m = .iface 28 (.int .i64 1))) := by
    by_cases hr : cntB r = true
    · by_cases hm : cntB m = true
      · left
        have hrb : 0 ≤ r ∧ r ≤ 1000 ∧ 0 ≤ m ∧ m ≤ 1000 := by simp only [cntB, decide_eq_true_eq] at hr hm; omega
        exact ⟨hr, hm, hrb.1, hrb.2.1, hrb.2.2.1, hrb.2.2.2, if_pos ⟨hr, hm⟩, if_pos ⟨hr, hm⟩⟩
      · right; left
        exact ⟨hr, by simpa using hm, if_neg (fun h => hm h.2), if_neg (fun h => hm h.2)⟩
    · right; right
      exact ⟨by simpa using hr, if_neg (fun h => hr h.1), if_neg (fun h => hr h.1)⟩
  have hg : (mayB v = true ∧ 0 ≤ v ∧ v / 65536 ≤ 1000 ∧ Hid (readI v = v / 65536) ∧ Hid (writeI v = v % 65536)) ∨ (mayB v = false ∧ Hid (readI v = 0) ∧ Hid (writeI v = 0)) := by
    by_cases gv : mayB v = true
    · left
      have hb : 0 ≤ v ∧ v / 65536 ≤ 1000 := by simp only [mayB, decide_eq_true_eq] at gv; omega
      exact ⟨gv, hb.1, hb.2, if_pos gv, if_pos gv⟩
    · right
      exact ⟨by simpa using gv, if_neg gv, if_neg gv⟩
  rcases hg with ⟨gv, hb1, hb2, f1, f2⟩ | ⟨gv, f1, f2⟩
  all_goals
    rcases hk with ⟨hr, hm, r0, r1, m0, m1, e1, e2⟩ | ⟨hr, hm, e1, e2⟩ | ⟨hr, e1, e2⟩
    all_goals
      go_enter Try.func3, Try.ntmps3
      go_wp2_with (first | (go_at_call 7; refine (up_calls _).mono ?_; rintro e w' ⟨rfl, rfl⟩) | (go_at_call 10; refine (lmay_calls _ _ hv).mono ?_; rintro e w' ⟨rfl, rfl⟩) | (go_at_call 9; refine (lcount_calls _ _).mono ?_; rintro e w' ⟨rfl, rfl⟩) | (go_at_call 8; refine (pack_calls _ _ _).mono ?_; rw [e1.out, e2.out]; rintro e w' ⟨rfl, rfl⟩) | (go_at_call 11; refine (may_calls _ _ hv).mono ?_; rintro e w' ⟨rfl, rfl⟩) | (go_at_call 12; refine (readers_calls _ _ hv).mono ?_; rw [f1.out]; rintro e w' ⟨rfl, rfl⟩) | (go_at_call 13; refine (writes_calls _ _ hv).mono ?_; rw [f2.out]; rintro e w' ⟨rfl, rfl⟩))
      go_ret
      exact ⟨rfl, by (repeat (first | exact Below.refl _ _ | assumption | apply below_alloc | apply pw_below_drewN | apply below_drew1 | (refine below_step ?_ (by assumption))))⟩
set_option maxHeartbeats 1600000 in
theorem lmore_calls (v r m : Int) (w : World) (hv : (Lit.int .i64 v).wf = true) (hr : (Lit.int .i64 r).wf = true) (hm : (Lit.int .i64 m).wf = true) :
    Calls Try.prog 4 #[.int .i64 v, .int .i64 r, .int .i64 m] w fun e w' => e = .returned (.bool true) ∧ Below w.heap.size w w' := by
  have hv := (wf_bd hv).2
  obtain ⟨hr1, hr2⟩ := wf_bd hr
  obtain ⟨hm1, hm2⟩ := wf_bd hm
  by_cases gv : mayB v = true
  · have hb : 0 ≤ v ∧ v / 65536 ≤ 1000 ∧ v % 65536 ≤ 1000 := by simp only [mayB, decide_eq_true_eq] at gv; omega
    obtain ⟨hb1, hb2, hb3⟩ := hb
    have f1 : readI v = v / 65536 := if_pos gv
    have f2 : writeI v = v % 65536 := if_pos gv
    have hc : moreOk v r m = true ↔ (-(v / 65536) ≤ r ∧ r ≤ 1000 - v / 65536 ∧ -(v % 65536) ≤ m ∧ m ≤ 1000 - v % 65536) := by
      unfold moreOk cntB
      rw [f1, f2]
      simp only [Bool.and_eq_true, decide_eq_true_eq]
      omega
    by_cases ho : moreOk v r m = true
    · have e1 := Lib.hid (show moreV v r m = (v / 65536 + r) * 65536 + (v % 65536 + m) by unfold moreV; rw [if_pos ⟨gv, ho⟩, f1, f2])
      have e2 := Lib.hid (show moreE v r m = .nilIface by unfold moreE; rw [if_pos gv, if_pos ho])
      obtain ⟨c1, c2, c3, c4⟩ := hc.1 ho
      clear hc ho f1 f2
      go_enter Try.func4, Try.ntmps4
      go_wp2_with (first | (go_at_call 7; refine (up_calls _).mono ?_; rintro e w' ⟨rfl, rfl⟩) | (go_at_call 10; refine (lmay_calls _ _ hv).mono ?_; rintro e w' ⟨rfl, rfl⟩) | (go_at_call 14; refine (more_calls _ _ _ _ hv).mono ?_; rw [e1.out, e2.out]; rintro e w' ⟨rfl, rfl⟩))
      go_ret
      exact ⟨rfl, by (repeat (first | exact Below.refl _ _ | assumption | apply below_alloc | apply pw_below_drewN | apply below_drew1 | (refine below_step ?_ (by assumption))))⟩
    · have e1 := Lib.hid (show moreV v r m = 0 from if_neg (fun h => ho h.2))
      have e2 := Lib.hid (show moreE v r m = .iface 28 (.int .i64 8) by unfold moreE; rw [if_pos gv, if_neg ho])
      have hn : ¬ (-(v / 65536) ≤ r ∧ r ≤ 1000 - v / 65536 ∧ -(v % 65536) ≤ m ∧ m ≤ 1000 - v % 65536) := fun h => ho (hc.2 h)
      clear hc ho f1 f2
      rcases (show r < -(v / 65536) ∨ (-(v / 65536) ≤ r ∧ 1000 - v / 65536 < r) ∨ (-(v / 65536) ≤ r ∧ r ≤ 1000 - v / 65536 ∧ m < -(v % 65536)) ∨ (-(v / 65536) ≤ r ∧ r ≤ 1000 - v / 65536 ∧ -(v % 65536) ≤ m ∧ 1000 - v % 65536 < m) by omega) with g | g | g | g
      all_goals
        clear hn
        first | obtain ⟨g1, g2, g3, g4⟩ := g | obtain ⟨g1, g2, g3⟩ := g | obtain ⟨g1, g2⟩ := g | skip
        go_enter Try.func4, Try.ntmps4
        go_wp2_with (first | (go_at_call 7; refine (up_calls _).mono ?_; rintro e w' ⟨rfl, rfl⟩) | (go_at_call 10; refine (lmay_calls _ _ hv).mono ?_; rintro e w' ⟨rfl, rfl⟩) | (go_at_call 14; refine (more_calls _ _ _ _ hv).mono ?_; rw [e1.out, e2.out]; rintro e w' ⟨rfl, rfl⟩))
        go_ret
        exact ⟨rfl, by (repeat (first | exact Below.refl _ _ | assumption | apply below_alloc | apply pw_below_drewN | apply below_drew1 | (refine below_step ?_ (by assumption))))⟩
  · have gv' : mayB v = false := by simpa using gv
    have e1 := Lib.hid (show moreV v r m = 0 from if_neg (fun h => gv h.1))
    have e2 := Lib.hid (show moreE v r m = .iface 28 (.int .i64 1) from if_neg gv)
    clear gv
    go_enter Try.func4, Try.ntmps4
    go_wp2_with (first | (go_at_call 7; refine (up_calls _).mono ?_; rintro e w' ⟨rfl, rfl⟩) | (go_at_call 10; refine (lmay_calls _ _ hv).mono ?_; rintro e w' ⟨rfl, rfl⟩) | (go_at_call 14; refine (more_calls _ _ _ _ hv).mono ?_; rw [e1.out, e2.out]; rintro e w' ⟨rfl, rfl⟩))
    go_ret
    exact ⟨rfl, by (repeat (first | exact Below.refl _ _ | assumption | apply below_alloc | apply pw_below_drewN | apply below_drew1 | (refine below_step ?_ (by assumption))))⟩

theorem word_ok {a b : Int} (h0 : 0 ≤ a) (h1 : a ≤ 1000) (h2 : 0 ≤ b) (h3 : b ≤ 1000) : mayB (a * 65536 + b) = true ∧ readI (a * 65536 + b) = a ∧ writeI (a * 65536 + b) = b := by
  have hm : mayB (a * 65536 + b) = true := by simp only [mayB, decide_eq_true_eq]; omega
  refine ⟨hm, ?_, ?_⟩
  · unfold readI; rw [if_pos hm]; omega
  · unfold writeI; rw [if_pos hm]; omega
theorem cnt_iff {n : Int} : cntB n = true ↔ 0 ≤ n ∧ n ≤ 1000 := by simp [cntB]
theorem ok_iff {v r m : Int} : moreOk v r m = true ↔ (0 ≤ readI v + r ∧ readI v + r ≤ 1000 ∧ 0 ≤ writeI v + m ∧ writeI v + m ≤ 1000) := by
  have := read_bd v
  unfold moreOk
  simp only [Bool.and_eq_true, decide_eq_true_eq, cnt_iff]
  omega
set_option maxHeartbeats 1600000 in
theorem back_calls (r m a b : Int) (w : World) (_ : (Lit.int .i64 r).wf = true) (_ : (Lit.int .i64 m).wf = true) (ha : (Lit.int .i64 a).wf = true) (hb : (Lit.int .i64 b).wf = true) :
    Calls Try.prog 5 #[.int .i64 r, .int .i64 m, .int .i64 a, .int .i64 b] w fun e w' => e = .returned (.bool true) ∧ Below w.heap.size w w' := by
  obtain ⟨ha1, ha2⟩ := wf_bd ha
  obtain ⟨hb1, hb2⟩ := wf_bd hb
  clear ha hb
  by_cases hk : cntB r = true ∧ cntB m = true
  · have e1 := Lib.hid (show packV r m = r * 65536 + m from if_pos hk)
    have e2 := Lib.hid (show packE r m = .nilIface from if_pos hk)
    obtain ⟨r0, r1⟩ := cnt_iff.1 hk.1
    obtain ⟨m0, m1⟩ := cnt_iff.1 hk.2
    obtain ⟨w1, w2, w3⟩ := word_ok r0 r1 m0 m1
    have f1 := Lib.hid w2
    have f2 := Lib.hid w3
    have hv : r * 65536 + m ≤ 9223372036854775807 := by omega
    by_cases ho : moreOk (r * 65536 + m) a b = true
    · have g1 := Lib.hid (show moreV (r * 65536 + m) a b = (r + a) * 65536 + (m + b) by unfold moreV; rw [if_pos ⟨w1, ho⟩, w2, w3])
      have g2 := Lib.hid (show moreE (r * 65536 + m) a b = .nilIface by unfold moreE; rw [if_pos w1, if_pos ho])
      have ho' := ok_iff.1 ho
      rw [w2, w3] at ho'
      obtain ⟨c0, c1, c2, c3⟩ := ho'
      obtain ⟨x1, x2, x3⟩ := word_ok c0 c1 c2 c3
      have hv2 : (r + a) * 65536 + (m + b) ≤ 9223372036854775807 := by omega
      have hq : moreOk ((r + a) * 65536 + (m + b)) (-a) (-b) = true := ok_iff.2 (by rw [x2, x3]; omega)
      have k1 := Lib.hid (show moreV ((r + a) * 65536 + (m + b)) (-a) (-b) = r * 65536 + m by unfold moreV; rw [if_pos ⟨x1, hq⟩, x2, x3]; omega)
      have k2 := Lib.hid (show moreE ((r + a) * 65536 + (m + b)) (-a) (-b) = .nilIface by unfold moreE; rw [if_pos x1, if_pos hq])
      have a1 : -1000 ≤ a ∧ a ≤ 1000 ∧ -1000 ≤ b ∧ b ≤ 1000 := by omega
      obtain ⟨a2, a3, b2, b3⟩ := a1
      clear hk w1 w2 w3 ho hq x1 x2 x3
      go_enter Try.func5, Try.ntmps5
      go_wp2_with (first | (go_at_call 7; refine (up_calls _).mono ?_; rintro e w' ⟨rfl, rfl⟩) | (go_at_call 8; refine (pack_calls _ _ _).mono ?_; rw [e1.out, e2.out]; rintro e w' ⟨rfl, rfl⟩) | (go_at_call 12; refine (readers_calls _ _ hv).mono ?_; rw [f1.out]; rintro e w' ⟨rfl, rfl⟩) | (go_at_call 13; refine (writes_calls _ _ hv).mono ?_; rw [f2.out]; rintro e w' ⟨rfl, rfl⟩))
      refine (more_calls _ _ _ _ hv).mono ?_
      rw [g1.out, g2.out]
      rintro e w' ⟨rfl, rfl⟩
      go_wp2_with fail
      refine (more_calls _ _ _ _ hv2).mono ?_
      rw [k1.out, k2.out]
      rintro e w' ⟨rfl, rfl⟩
      go_wp2_with fail
      go_ret
      exact ⟨rfl, by (repeat (first | exact Below.refl _ _ | assumption | apply below_alloc | apply pw_below_drewN | apply below_drew1 | (refine below_step ?_ (by assumption))))⟩
    · have g1 := Lib.hid (show moreV (r * 65536 + m) a b = 0 from if_neg (fun h => ho h.2))
      have g2 := Lib.hid (show moreE (r * 65536 + m) a b = .iface 28 (.int .i64 8) by unfold moreE; rw [if_pos w1, if_neg ho])
      clear hk w1 w2 w3 ho
      go_enter Try.func5, Try.ntmps5
      go_wp2_with (first | (go_at_call 7; refine (up_calls _).mono ?_; rintro e w' ⟨rfl, rfl⟩) | (go_at_call 8; refine (pack_calls _ _ _).mono ?_; rw [e1.out, e2.out]; rintro e w' ⟨rfl, rfl⟩) | (go_at_call 12; refine (readers_calls _ _ hv).mono ?_; rw [f1.out]; rintro e w' ⟨rfl, rfl⟩) | (go_at_call 13; refine (writes_calls _ _ hv).mono ?_; rw [f2.out]; rintro e w' ⟨rfl, rfl⟩))
      refine (more_calls _ _ _ _ hv).mono ?_
      rw [g1.out, g2.out]
      rintro e w' ⟨rfl, rfl⟩
      go_wp2_with fail
      go_ret
      exact ⟨rfl, by (repeat (first | exact Below.refl _ _ | assumption | apply below_alloc | apply pw_below_drewN | apply below_drew1 | (refine below_step ?_ (by assumption))))⟩
  · have e1 := Lib.hid (show packV r m = 0 from if_neg hk)
    have e2 := Lib.hid (show packE r m = .iface 28 (.int .i64 1) from if_neg hk)
    clear hk
    go_enter Try.func5, Try.ntmps5
    go_wp2_with (first | (go_at_call 7; refine (up_calls _).mono ?_; rintro e w' ⟨rfl, rfl⟩) | (go_at_call 8; refine (pack_calls _ _ _).mono ?_; rw [e1.out, e2.out]; rintro e w' ⟨rfl, rfl⟩))
    go_ret
    exact ⟨rfl, by (repeat (first | exact Below.refl _ _ | assumption | apply below_alloc | apply pw_below_drewN | apply below_drew1 | (refine below_step ?_ (by assumption))))⟩
def eqE (b : Bool) (c : Int) : Value := if b = true then .nilIface else .iface 28 (.int .i64 c)
/-- What More comes to, in one of three ways. -/
theorem more_any (v r m : Int) (hv : v ≤ 9223372036854775807) : (mayB v = true ∧ moreOk v r m = true ∧ moreV v r m = (readI v + r) * 65536 + (writeI v + m) ∧ moreE v r m = .nilIface) ∨ ((mayB v = false ∨ moreOk v r m = false) ∧ moreV v r m = 0 ∧ ∃ c, moreE v r m = .iface 28 (.int .i64 c)) := by
  by_cases g : mayB v = true
  · by_cases o : moreOk v r m = true
    · left; exact ⟨g, o, if_pos ⟨g, o⟩, by unfold moreE; rw [if_pos g, if_pos o]⟩
    · right; exact ⟨.inr (by simpa using o), if_neg (fun h => o h.2), 8, by unfold moreE; rw [if_pos g, if_neg o]⟩
  · right; exact ⟨.inl (by simpa using g), if_neg (fun h => g h.1), 1, if_neg g⟩
set_option maxHeartbeats 1600000 in
theorem apart_calls (v r m : Int) (w : World) (hv : (Lit.int .i64 v).wf = true) (hr : (Lit.int .i64 r).wf = true) (hm : (Lit.int .i64 m).wf = true) :
    Calls Try.prog 6 #[.int .i64 v, .int .i64 r, .int .i64 m] w fun e w' => e = .returned (.bool true) ∧ Below w.heap.size w w' := by
  have hv := (wf_bd hv).2
  have bd := read_bd v
  have A := more_any v r 0 hv
  have B := more_any v 0 m hv
  have C := more_any v r m hv
  rcases A with ⟨gv, oa, va, ea⟩ | ⟨na, va, ca, ea⟩
  · rcases B with ⟨_, ob, vb, eb⟩ | ⟨nb, vb, cb, eb⟩
    · have hc : moreOk v r m = true := by
        have h1 := ok_iff.1 oa
        have h2 := ok_iff.1 ob
        exact ok_iff.2 (by omega)
      rcases C with ⟨_, _, vc, ec⟩ | ⟨nc, _⟩
      · have h1 := ok_iff.1 hc
        have h2 := ok_iff.1 oa
        have h3 := ok_iff.1 ob
        obtain ⟨c0, c1, c2, c3⟩ := h1
        have wa := word_ok (a := readI v + r) (b := writeI v) (by omega) (by omega) (by omega) (by omega)
        have wb := word_ok (a := readI v) (b := writeI v + m) (by omega) (by omega) (by omega) (by omega)
        have wc := word_ok (a := readI v + r) (b := writeI v + m) c0 c1 c2 c3
        have va' : moreV v r 0 = (readI v + r) * 65536 + writeI v := by rw [va]; omega
        have vb' : moreV v 0 m = readI v * 65536 + (writeI v + m) := by rw [vb]; omega
        have od : moreOk ((readI v + r) * 65536 + writeI v) 0 m = true := ok_iff.2 (by rw [wa.2.1, wa.2.2]; omega)
        have vd : moreV ((readI v + r) * 65536 + writeI v) 0 m = (readI v + r) * 65536 + (writeI v + m) := by unfold moreV; rw [if_pos ⟨wa.1, od⟩, wa.2.1, wa.2.2]; omega
        have ed : moreE ((readI v + r) * 65536 + writeI v) 0 m = .nilIface := by unfold moreE; rw [if_pos wa.1, if_pos od]
        have q1 : (readI v + r) * 65536 + writeI v ≤ 9223372036854775807 := by omega
        have q2 : readI v * 65536 + (writeI v + m) ≤ 9223372036854775807 := by omega
        have q3 : (readI v + r) * 65536 + (writeI v + m) ≤ 9223372036854775807 := by omega
        have a2 : -1000 ≤ r ∧ r ≤ 1000 := by omega
        obtain ⟨a2, a3⟩ := a2
        obtain ⟨b0, b1, b2, b3⟩ := bd
        have VA := Lib.hid va'; have EA := Lib.hid ea; have VB := Lib.hid vb'; have EB := Lib.hid eb; have VC := Lib.hid vc; have EC := Lib.hid ec; have VD := Lib.hid vd; have ED := Lib.hid ed
        have W1 := Lib.hid wa.2.2; have W2 := Lib.hid wb.2.1; have W3 := Lib.hid wc.2.1
        clear va' ea vb' eb vc ec vd ed wa wb wc va vb oa ob hc h2 h3 od gv
        go_enter Try.func6, Try.ntmps6
        go_wp2_with (go_at_call 7; refine (up_calls _).mono ?_; rintro e w' ⟨rfl, rfl⟩)
        refine (more_calls _ _ _ _ hv).mono ?_
        rw [VA.out, EA.out]
        rintro e w' ⟨rfl, rfl⟩
        go_wp2_with fail
        refine (more_calls _ _ _ _ hv).mono ?_
        rw [VB.out, EB.out]
        rintro e w' ⟨rfl, rfl⟩
        go_wp2_with fail
        refine (more_calls _ _ _ _ hv).mono ?_
        rw [VC.out, EC.out]
        rintro e w' ⟨rfl, rfl⟩
        go_wp2_with fail
        refine (more_calls _ _ _ _ q1).mono ?_
        rw [VD.out, ED.out]
        rintro e w' ⟨rfl, rfl⟩
        go_wp2_with fail
        refine (writes_calls _ _ q1).mono ?_
        rw [W1.out]
        rintro e w' ⟨rfl, rfl⟩
        go_wp2_with fail
        refine (writes_calls _ _ hv).mono ?_
        rintro e w' ⟨rfl, rfl⟩
        go_wp2_with fail
        refine (readers_calls _ _ q2).mono ?_
        rw [W2.out]
        rintro e w' ⟨rfl, rfl⟩
        go_wp2_with fail
        refine (readers_calls _ _ hv).mono ?_
        rintro e w' ⟨rfl, rfl⟩
        go_wp2_with fail
        refine (readers_calls _ _ q3).mono ?_
        rw [W3.out]
        rintro e w' ⟨rfl, rfl⟩
        go_wp2_with fail
        refine (readers_calls _ _ hv).mono ?_
        rintro e w' ⟨rfl, rfl⟩
        go_wp2_with fail
        go_ret
        exact ⟨rfl, by (repeat (first | exact Below.refl _ _ | assumption | apply below_alloc | apply pw_below_drewN | apply below_drew1 | (refine below_step ?_ (by assumption))))⟩
      · exfalso
        rcases nc with h | h
        · rw [gv] at h; cases h
        · rw [hc] at h; cases h
    · have hc : ∃ c, moreE v r m = .iface 28 (.int .i64 c) := by
        rcases C with ⟨gv, oc, _, _⟩ | ⟨_, _, h⟩
        · exfalso
          have h1 := ok_iff.1 oc
          rcases nb with h | h
          · rw [gv] at h; cases h
          · rw [ok_iff.2 (by omega)] at h; cases h
        · exact h
      obtain ⟨c, ec⟩ := hc
      clear oa va vb C nb bd
      have EA := Lib.hid ea; have EB := Lib.hid eb; have EC := Lib.hid ec
      clear ea eb ec
      go_enter Try.func6, Try.ntmps6
      go_wp2_with (go_at_call 7; refine (up_calls _).mono ?_; rintro e w' ⟨rfl, rfl⟩)
      refine (more_calls _ _ _ _ hv).mono ?_
      rw [EA.out]
      rintro e w' ⟨rfl, rfl⟩
      go_wp2_with fail
      refine (more_calls _ _ _ _ hv).mono ?_
      rw [EB.out]
      rintro e w' ⟨rfl, rfl⟩
      go_wp2_with fail
      refine (more_calls _ _ _ _ hv).mono ?_
      rw [EC.out]
      rintro e w' ⟨rfl, rfl⟩
      go_wp2_with fail
      go_ret
      exact ⟨rfl, by (repeat (first | exact Below.refl _ _ | assumption | apply below_alloc | apply pw_below_drewN | apply below_drew1 | (refine below_step ?_ (by assumption))))⟩
  · have hB : moreE v 0 m = .nilIface ∨ ∃ c, moreE v 0 m = .iface 28 (.int .i64 c) := by
      rcases B with ⟨_, _, _, h⟩ | ⟨_, _, h⟩
      · exact .inl h
      · exact .inr h
    clear B
    rcases hB with eb | ⟨cb, eb⟩
    all_goals
      have hc : ∃ c, moreE v r m = .iface 28 (.int .i64 c) := by
        rcases C with ⟨gv, oc, _, _⟩ | ⟨_, _, h⟩
        · exfalso
          have h1 := ok_iff.1 oc
          rcases na with h | h
          · rw [gv] at h; cases h
          · rw [ok_iff.2 (by omega)] at h; cases h
        · exact h
      obtain ⟨c, ec⟩ := hc
      clear C na bd va
      have EA := Lib.hid ea; have EB := Lib.hid eb; have EC := Lib.hid ec
      clear ea eb ec
      go_enter Try.func6, Try.ntmps6
      go_wp2_with (go_at_call 7; refine (up_calls _).mono ?_; rintro e w' ⟨rfl, rfl⟩)
      refine (more_calls _ _ _ _ hv).mono ?_
      rw [EA.out]
      rintro e w' ⟨rfl, rfl⟩
      go_wp2_with fail
      refine (more_calls _ _ _ _ hv).mono ?_
      rw [EB.out]
      rintro e w' ⟨rfl, rfl⟩
      go_wp2_with fail
      refine (more_calls _ _ _ _ hv).mono ?_
      rw [EC.out]
      rintro e w' ⟨rfl, rfl⟩
      go_wp2_with fail
      go_ret
      exact ⟨rfl, by (repeat (first | exact Below.refl _ _ | assumption | apply below_alloc | apply pw_below_drewN | apply below_drew1 | (refine below_step ?_ (by assumption))))⟩
end Go.Proofs.Ytjpllpebnjbgjaa
