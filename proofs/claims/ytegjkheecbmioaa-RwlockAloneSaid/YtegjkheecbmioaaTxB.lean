/- Walks of the reference's split, Digits, register and number. -/
import Derived.Test.YtegjkheecbmioaaTxA
import Derived.Laws.BytesArg
import Derived.Laws.BytesString
import Derived.Deep.RegionHeld3
import Derived.BigRegion
namespace Go.Proofs.Ytegjkheecbmioaa
open Go.RowKit
set_option linter.unusedVariables false
set_option linter.unusedSimpArgs false

theorem ext_bs (s : ByteArray) (a b : Nat) : s.extract a b = bs (((nb s).take b).drop a) := by rw [← nb_ext, bs_nb]
/-! ### split -/
def splitB (l : List Nat) : List Nat × List Nat := (l.takeWhile (· != 32), (l.dropWhile (· != 32)).drop 1)
theorem split_at {l : List Nat} {k : Nat} (h : ∀ (j : Nat) y, j < k → l[j]? = some y → y ≠ 32) (hk : l[k]? = some 32) : splitB l = (l.take k, l.drop (k + 1)) := by
  induction k generalizing l with
  | zero =>
    cases l with
    | nil => cases hk
    | cons x l => obtain rfl : x = 32 := by simpa using hk
                  simp [splitB]
  | succ k ih =>
    cases l with
    | nil => cases hk
    | cons x l =>
      have hx : x ≠ 32 := h 0 x (by omega) rfl
      have := ih (l := l) (fun j y hj hy => h (j + 1) y (by omega) (by simpa using hy)) (by simpa using hk)
      simp only [splitB, Prod.mk.injEq] at this ⊢
      simp [hx, this.1, this.2]
set_option maxHeartbeats 800000 in
theorem split_calls (s : ByteArray) (w : World) (hs : s.size ≤ maxLen) (h : 32 ∈ nb s) : Calls Try.prog 52 #[.string s] w
    fun e w' => e = .returned (.tuple #[.string (bs (splitB (nb s)).1), .string (bs (splitB (nb s)).2)]) ∧ Below w.heap.size w w' := by
  unfold maxLen at hs
  have hl := nb_len s
  go_enter Try.func52, Try.ntmps52
  go_wp2
  go_loop [4] (fun i => ∃ k : Nat, k < s.size ∧ i = .int .i64 k ∧ (∀ (j : Nat) y, j < k → (nb s)[j]? = some y → y ≠ 32)) (fun i => s.size - (intOf i).toNat)
  case atStart => exact ⟨0, by have := List.length_pos_of_mem h; omega, rfl, fun j y h => absurd h (Nat.not_lt_zero _)⟩
  case round =>
    obtain ⟨k, hk, rfl, ha⟩ := hrel
    have HA := Lib.hid ha
    have H := Lib.hid h
    clear ha h
    have hg := Lib.hid (nb_get s k hk)
    by_cases hc : s[k].toNat = 32
    · have hc' : ((s[k].toNat : Int) != 32) = false := by simp; omega
      have hsp := Lib.hid (split_at HA.out (by rw [hg.out, hc]))
      have e1 := Lib.hid (ext_bs s 0 k)
      have e2 := Lib.hid (ext_bs s (k + 1) s.size)
      have w1 : IntKind.i64.wrap ((k : Int) + 1) = (k : Int) + 1 := by rw [IntKind.wrap_i64]; omega
      have w2 : (0 : Int) ≤ (k : Int) + 1 := by omega
      have w3 : ((k : Int) + 1).toNat = k + 1 := by omega
      clear hc hl
      go_wp2
      go_quiet (fail)
      go_wp2
      go_ret2
      refine ⟨?_, by (repeat (with_reducible first | exact Below.refl _ _ | assumption | apply below_alloc | apply below_drewN | apply below_drew1 | (refine below_set ?_ (by simp only [alloc_size]; omega)) | (refine below_step ?_ (by assumption))))⟩
      show Ending.returned (.tuple #[.string (s.extract 0 k), .string (s.extract (k + 1) s.size)]) = _
      rw [e1.out, e2.out, hsp.out, List.drop_zero, List.take_of_length_le (l := nb s) (i := s.size) (by rw [nb_len]; exact Nat.le_refl _)]
    · have hc' : ((s[k].toNat : Int) != 32) = true := by simp; omega
      go_wp2
      go_round
      case rel => exact ⟨k + 1, by
        rcases Nat.lt_or_ge (k + 1) s.size with h1 | h1
        · exact h1
        · obtain ⟨i, hi, e⟩ := List.mem_iff_getElem.1 H.out
          have hi2 : i < s.size := by omega
          by_cases hik : i = k
          · subst hik
            have := hg.out
            rw [List.getElem?_eq_getElem hi, e] at this
            have := Option.some.inj this
            omega
          · exact absurd rfl (HA.out i 32 (by omega) (by rw [List.getElem?_eq_getElem hi, e])), by go_num, fun j y hj hy => by
        by_cases hjk : j = k
        · subst hjk; rw [hg.out] at hy; rw [← Option.some.inj hy]; exact hc
        · exact HA.out j y (by omega) hy⟩
      case measure => simp [intOf]; omega
/-! ### Digits -/
theorem conv_one {w : World} {b c : Nat} {n : Nat} (h : w.cell? ⟨b, 0, none⟩ = some (.int .u8 (n : Int))) :
    (convert 126 9 (.slice (some ⟨b, 0, none⟩) 1 c)).run Try.prog w = .ok (.string (bs [n])) w := by
  have hs : Try.prog.underlying 126 = some (.slice 5) := Try.underlying126
  have he : Try.prog.underlying 5 = some (.int .u8) := by kernel_rfl
  have hd : Try.prog.underlying 9 = some .string := by kernel_rfl
  have hld : (loadCells ⟨b, 0, none⟩ 1).run Try.prog w = .ok (([(n : Int)]).map (Value.int .u8)).toArray w := by
    have := run_loadCells_list (P := Try.prog) w ⟨b, 0, none⟩ (([(n : Int)]).map (Value.int .u8)) (fun j v hj => by
      cases j with
      | zero => obtain rfl : Value.int .u8 n = v := by simpa using hj
                exact h
      | succ j => simp at hj)
    simpa using this
  rw [run_convert_bytes_string w _ _ _ _ _ _ hs he hd, run_bytesToString w _ _ _ _ hld, foldl_push_bytes]
  simp [bs, ByteArray.empty, ByteArray.emptyWithCapacity]
  rfl
def digs (v : Nat) : List Nat := if v < 10 then [48 + v] else [48 + v / 10, 48 + v % 10]
set_option maxRecDepth 100000 in
set_option maxHeartbeats 1600000 in
theorem digits_one (v : Nat) (w : World) (h : v < 10) : Calls Try.prog 69 #[.int .i64 v] w fun e w' => e = .returned (.string (bs [48 + v])) ∧ Below w.heap.size w w' := by
  have h1 : decide ((v : Int) < 0) = false := decide_eq_false (by omega)
  have h2 : decide ((v : Int) < 10) = true := decide_eq_true (by omega)
  have hc := conv_one (w := w.alloc (.cells #[.int .u8 (48 + (v : Int))] 5)) (b := w.heap.size) (c := 1) (n := 48 + v) (by
    exact box_cell w [.int .u8 (48 + (v : Int))] 5 (i := 0) rfl)
  go_enter Try.func69, Try.ntmps69
  go_wp2
  go_ret
  exact ⟨rfl, by (repeat (with_reducible first | exact Below.refl _ _ | assumption | apply below_alloc | apply below_drewN | apply below_drew1 | (refine below_set ?_ (by simp only [alloc_size]; omega)) | (refine below_step ?_ (by assumption))))⟩
set_option maxRecDepth 100000 in
set_option maxHeartbeats 1600000 in
theorem digits_10 (w : World) : Calls Try.prog 69 #[.int .i64 10] w fun e w' => e = .returned (.string (bs [49, 48])) ∧ Below w.heap.size w w' := by
  have h1 : decide ((10 : Int) < 0) = false := decide_eq_false (by omega)
  have h2 : decide ((10 : Int) < 10) = false := decide_eq_false (by omega)
  have h3 : IntKind.i64.wrap 48 = 48 := by decide
  have h4 : IntKind.u8.wrap 48 = 48 := by decide
  have h5 : IntKind.i64.wrap 1 = 1 := by decide
  have h6 : ¬ 9223372036854775807 < (bs [49]).size + (bs [48]).size := by decide
  have hcv : ∀ w' : World, (convert 126 9 (.slice (some ⟨w'.heap.size, 0, none⟩) 1 1)).run Try.prog (w'.alloc (.cells #[.int .u8 48] 5)) = .ok (.string (bs [48])) (w'.alloc (.cells #[.int .u8 48] 5)) :=
    fun w' => conv_one (n := 48) (box_cell w' [.int .u8 48] 5 (i := 0) rfl)
  have hcd : ∀ w' : World, (convert 126 9 (.slice (some ⟨w'.heap.size, 0, none⟩) 1 1)).run Try.prog (w'.alloc (.cells #[.int .u8 48] 5)).drew = .ok (.string (bs [48])) (w'.alloc (.cells #[.int .u8 48] 5)).drew :=
    fun w' => conv_one (w := (w'.alloc (.cells #[.int .u8 48] 5)).drew) (n := 48) (by exact box_cell w' [.int .u8 48] 5 (i := 0) rfl)
  go_enter Try.func69, Try.ntmps69
  go_wp2_with fail
  go_region_with (first | (go_at_call 69; refine (digits_one 1 _ (by omega)).mono ?_; rintro e w' ⟨rfl, hb⟩; try have hcv2 := conv_one (b := w.heap.size) (c := 1) (n := 48) (cell_below_of (by exact box_cell w [.int .u8 48] 5 (i := 0) rfl) hb)))
  all_goals
    go_wp2_with fail
    go_ret
    exact ⟨by kernel_rfl, by (repeat (with_reducible first | exact Below.refl _ _ | assumption | apply below_alloc | apply below_drewN | apply below_drew1 | (refine below_set ?_ (by simp only [alloc_size]; omega)) | (refine below_step ?_ (by assumption))))⟩
set_option maxRecDepth 100000 in
set_option maxHeartbeats 1600000 in
theorem digits_11 (w : World) : Calls Try.prog 69 #[.int .i64 11] w fun e w' => e = .returned (.string (bs [49, 49])) ∧ Below w.heap.size w w' := by
  have h1 : decide ((11 : Int) < 0) = false := decide_eq_false (by omega)
  have h2 : decide ((11 : Int) < 10) = false := decide_eq_false (by omega)
  have h3 : IntKind.i64.wrap 49 = 49 := by decide
  have h4 : IntKind.u8.wrap 49 = 49 := by decide
  have h5 : IntKind.i64.wrap 1 = 1 := by decide
  have h6 : ¬ 9223372036854775807 < (bs [49]).size + (bs [49]).size := by decide
  have hcv : ∀ w' : World, (convert 126 9 (.slice (some ⟨w'.heap.size, 0, none⟩) 1 1)).run Try.prog (w'.alloc (.cells #[.int .u8 49] 5)) = .ok (.string (bs [49])) (w'.alloc (.cells #[.int .u8 49] 5)) :=
    fun w' => conv_one (n := 49) (box_cell w' [.int .u8 49] 5 (i := 0) rfl)
  have hcd : ∀ w' : World, (convert 126 9 (.slice (some ⟨w'.heap.size, 0, none⟩) 1 1)).run Try.prog (w'.alloc (.cells #[.int .u8 49] 5)).drew = .ok (.string (bs [49])) (w'.alloc (.cells #[.int .u8 49] 5)).drew :=
    fun w' => conv_one (w := (w'.alloc (.cells #[.int .u8 49] 5)).drew) (n := 49) (by exact box_cell w' [.int .u8 49] 5 (i := 0) rfl)
  go_enter Try.func69, Try.ntmps69
  go_wp2_with fail
  go_region_with (first | (go_at_call 69; refine (digits_one 1 _ (by omega)).mono ?_; rintro e w' ⟨rfl, hb⟩; try have hcv2 := conv_one (b := w.heap.size) (c := 1) (n := 49) (cell_below_of (by exact box_cell w [.int .u8 49] 5 (i := 0) rfl) hb)))
  all_goals
    go_wp2_with fail
    go_ret
    exact ⟨by kernel_rfl, by (repeat (with_reducible first | exact Below.refl _ _ | assumption | apply below_alloc | apply below_drewN | apply below_drew1 | (refine below_set ?_ (by simp only [alloc_size]; omega)) | (refine below_step ?_ (by assumption))))⟩
set_option maxRecDepth 100000 in
set_option maxHeartbeats 1600000 in
theorem digits_12 (w : World) : Calls Try.prog 69 #[.int .i64 12] w fun e w' => e = .returned (.string (bs [49, 50])) ∧ Below w.heap.size w w' := by
  have h1 : decide ((12 : Int) < 0) = false := decide_eq_false (by omega)
  have h2 : decide ((12 : Int) < 10) = false := decide_eq_false (by omega)
  have h3 : IntKind.i64.wrap 50 = 50 := by decide
  have h4 : IntKind.u8.wrap 50 = 50 := by decide
  have h5 : IntKind.i64.wrap 1 = 1 := by decide
  have h6 : ¬ 9223372036854775807 < (bs [49]).size + (bs [50]).size := by decide
  have hcv : ∀ w' : World, (convert 126 9 (.slice (some ⟨w'.heap.size, 0, none⟩) 1 1)).run Try.prog (w'.alloc (.cells #[.int .u8 50] 5)) = .ok (.string (bs [50])) (w'.alloc (.cells #[.int .u8 50] 5)) :=
    fun w' => conv_one (n := 50) (box_cell w' [.int .u8 50] 5 (i := 0) rfl)
  have hcd : ∀ w' : World, (convert 126 9 (.slice (some ⟨w'.heap.size, 0, none⟩) 1 1)).run Try.prog (w'.alloc (.cells #[.int .u8 50] 5)).drew = .ok (.string (bs [50])) (w'.alloc (.cells #[.int .u8 50] 5)).drew :=
    fun w' => conv_one (w := (w'.alloc (.cells #[.int .u8 50] 5)).drew) (n := 50) (by exact box_cell w' [.int .u8 50] 5 (i := 0) rfl)
  go_enter Try.func69, Try.ntmps69
  go_wp2_with fail
  go_region_with (first | (go_at_call 69; refine (digits_one 1 _ (by omega)).mono ?_; rintro e w' ⟨rfl, hb⟩; try have hcv2 := conv_one (b := w.heap.size) (c := 1) (n := 50) (cell_below_of (by exact box_cell w [.int .u8 50] 5 (i := 0) rfl) hb)))
  all_goals
    go_wp2_with fail
    go_ret
    exact ⟨by kernel_rfl, by (repeat (with_reducible first | exact Below.refl _ _ | assumption | apply below_alloc | apply below_drewN | apply below_drew1 | (refine below_set ?_ (by simp only [alloc_size]; omega)) | (refine below_step ?_ (by assumption))))⟩
set_option maxRecDepth 100000 in
set_option maxHeartbeats 1600000 in
theorem digits_13 (w : World) : Calls Try.prog 69 #[.int .i64 13] w fun e w' => e = .returned (.string (bs [49, 51])) ∧ Below w.heap.size w w' := by
  have h1 : decide ((13 : Int) < 0) = false := decide_eq_false (by omega)
  have h2 : decide ((13 : Int) < 10) = false := decide_eq_false (by omega)
  have h3 : IntKind.i64.wrap 51 = 51 := by decide
  have h4 : IntKind.u8.wrap 51 = 51 := by decide
  have h5 : IntKind.i64.wrap 1 = 1 := by decide
  have h6 : ¬ 9223372036854775807 < (bs [49]).size + (bs [51]).size := by decide
  have hcv : ∀ w' : World, (convert 126 9 (.slice (some ⟨w'.heap.size, 0, none⟩) 1 1)).run Try.prog (w'.alloc (.cells #[.int .u8 51] 5)) = .ok (.string (bs [51])) (w'.alloc (.cells #[.int .u8 51] 5)) :=
    fun w' => conv_one (n := 51) (box_cell w' [.int .u8 51] 5 (i := 0) rfl)
  have hcd : ∀ w' : World, (convert 126 9 (.slice (some ⟨w'.heap.size, 0, none⟩) 1 1)).run Try.prog (w'.alloc (.cells #[.int .u8 51] 5)).drew = .ok (.string (bs [51])) (w'.alloc (.cells #[.int .u8 51] 5)).drew :=
    fun w' => conv_one (w := (w'.alloc (.cells #[.int .u8 51] 5)).drew) (n := 51) (by exact box_cell w' [.int .u8 51] 5 (i := 0) rfl)
  go_enter Try.func69, Try.ntmps69
  go_wp2_with fail
  go_region_with (first | (go_at_call 69; refine (digits_one 1 _ (by omega)).mono ?_; rintro e w' ⟨rfl, hb⟩; try have hcv2 := conv_one (b := w.heap.size) (c := 1) (n := 51) (cell_below_of (by exact box_cell w [.int .u8 51] 5 (i := 0) rfl) hb)))
  all_goals
    go_wp2_with fail
    go_ret
    exact ⟨by kernel_rfl, by (repeat (with_reducible first | exact Below.refl _ _ | assumption | apply below_alloc | apply below_drewN | apply below_drew1 | (refine below_set ?_ (by simp only [alloc_size]; omega)) | (refine below_step ?_ (by assumption))))⟩
set_option maxRecDepth 100000 in
set_option maxHeartbeats 1600000 in
theorem digits_14 (w : World) : Calls Try.prog 69 #[.int .i64 14] w fun e w' => e = .returned (.string (bs [49, 52])) ∧ Below w.heap.size w w' := by
  have h1 : decide ((14 : Int) < 0) = false := decide_eq_false (by omega)
  have h2 : decide ((14 : Int) < 10) = false := decide_eq_false (by omega)
  have h3 : IntKind.i64.wrap 52 = 52 := by decide
  have h4 : IntKind.u8.wrap 52 = 52 := by decide
  have h5 : IntKind.i64.wrap 1 = 1 := by decide
  have h6 : ¬ 9223372036854775807 < (bs [49]).size + (bs [52]).size := by decide
  have hcv : ∀ w' : World, (convert 126 9 (.slice (some ⟨w'.heap.size, 0, none⟩) 1 1)).run Try.prog (w'.alloc (.cells #[.int .u8 52] 5)) = .ok (.string (bs [52])) (w'.alloc (.cells #[.int .u8 52] 5)) :=
    fun w' => conv_one (n := 52) (box_cell w' [.int .u8 52] 5 (i := 0) rfl)
  have hcd : ∀ w' : World, (convert 126 9 (.slice (some ⟨w'.heap.size, 0, none⟩) 1 1)).run Try.prog (w'.alloc (.cells #[.int .u8 52] 5)).drew = .ok (.string (bs [52])) (w'.alloc (.cells #[.int .u8 52] 5)).drew :=
    fun w' => conv_one (w := (w'.alloc (.cells #[.int .u8 52] 5)).drew) (n := 52) (by exact box_cell w' [.int .u8 52] 5 (i := 0) rfl)
  go_enter Try.func69, Try.ntmps69
  go_wp2_with fail
  go_region_with (first | (go_at_call 69; refine (digits_one 1 _ (by omega)).mono ?_; rintro e w' ⟨rfl, hb⟩; try have hcv2 := conv_one (b := w.heap.size) (c := 1) (n := 52) (cell_below_of (by exact box_cell w [.int .u8 52] 5 (i := 0) rfl) hb)))
  all_goals
    go_wp2_with fail
    go_ret
    exact ⟨by kernel_rfl, by (repeat (with_reducible first | exact Below.refl _ _ | assumption | apply below_alloc | apply below_drewN | apply below_drew1 | (refine below_set ?_ (by simp only [alloc_size]; omega)) | (refine below_step ?_ (by assumption))))⟩
set_option maxRecDepth 100000 in
set_option maxHeartbeats 1600000 in
theorem digits_15 (w : World) : Calls Try.prog 69 #[.int .i64 15] w fun e w' => e = .returned (.string (bs [49, 53])) ∧ Below w.heap.size w w' := by
  have h1 : decide ((15 : Int) < 0) = false := decide_eq_false (by omega)
  have h2 : decide ((15 : Int) < 10) = false := decide_eq_false (by omega)
  have h3 : IntKind.i64.wrap 53 = 53 := by decide
  have h4 : IntKind.u8.wrap 53 = 53 := by decide
  have h5 : IntKind.i64.wrap 1 = 1 := by decide
  have h6 : ¬ 9223372036854775807 < (bs [49]).size + (bs [53]).size := by decide
  have hcv : ∀ w' : World, (convert 126 9 (.slice (some ⟨w'.heap.size, 0, none⟩) 1 1)).run Try.prog (w'.alloc (.cells #[.int .u8 53] 5)) = .ok (.string (bs [53])) (w'.alloc (.cells #[.int .u8 53] 5)) :=
    fun w' => conv_one (n := 53) (box_cell w' [.int .u8 53] 5 (i := 0) rfl)
  have hcd : ∀ w' : World, (convert 126 9 (.slice (some ⟨w'.heap.size, 0, none⟩) 1 1)).run Try.prog (w'.alloc (.cells #[.int .u8 53] 5)).drew = .ok (.string (bs [53])) (w'.alloc (.cells #[.int .u8 53] 5)).drew :=
    fun w' => conv_one (w := (w'.alloc (.cells #[.int .u8 53] 5)).drew) (n := 53) (by exact box_cell w' [.int .u8 53] 5 (i := 0) rfl)
  go_enter Try.func69, Try.ntmps69
  go_wp2_with fail
  go_region_with (first | (go_at_call 69; refine (digits_one 1 _ (by omega)).mono ?_; rintro e w' ⟨rfl, hb⟩; try have hcv2 := conv_one (b := w.heap.size) (c := 1) (n := 53) (cell_below_of (by exact box_cell w [.int .u8 53] 5 (i := 0) rfl) hb)))
  all_goals
    go_wp2_with fail
    go_ret
    exact ⟨by kernel_rfl, by (repeat (with_reducible first | exact Below.refl _ _ | assumption | apply below_alloc | apply below_drewN | apply below_drew1 | (refine below_set ?_ (by simp only [alloc_size]; omega)) | (refine below_step ?_ (by assumption))))⟩
theorem digits_calls (v : Nat) (w : World) (h : v < 16) : Calls Try.prog 69 #[.int .i64 v] w fun e w' => e = .returned (.string (bs (digs v))) ∧ Below w.heap.size w w' := by
  by_cases h1 : v < 10
  · have := digits_one v w h1
    simpa [digs, h1] using this
  · obtain rfl | rfl | rfl | rfl | rfl | rfl : v = 10 ∨ v = 11 ∨ v = 12 ∨ v = 13 ∨ v = 14 ∨ v = 15 := by omega
    · exact digits_10 w
    · exact digits_11 w
    · exact digits_12 w
    · exact digits_13 w
    · exact digits_14 w
    · exact digits_15 w
/-! ### register -/
def regB (l : List Nat) : Int := match (List.range 16).find? (fun i => decide (l = 114 :: digs i)) with | some i => i | none => -1
theorem reg_hit {l : List Nat} {k : Nat} (hk : k < 16) (h : ∀ j, j < k → l ≠ 114 :: digs j) (e : l = 114 :: digs k) : regB l = k := by
  have : (List.range 16).find? (fun i => decide (l = 114 :: digs i)) = some k := by
    rw [List.find?_eq_some_iff_getElem]
    refine ⟨by simpa using e, k, by simpa using hk, by simp, fun j hj => ?_⟩
    have := h j hj
    simpa using this
  simp [regB, this]
theorem reg_none {l : List Nat} (h : ∀ j, j < 16 → l ≠ 114 :: digs j) : regB l = -1 := by
  have : (List.range 16).find? (fun i => decide (l = 114 :: digs i)) = none := by
    rw [List.find?_eq_none]
    intro j hj
    have := h j (by simpa using hj)
    simpa using this
  simp [regB, this]
theorem str_eq (a b : ByteArray) : (a.toList == b.toList) = decide (nb a = nb b) := by
  rw [Bool.eq_iff_iff, beq_iff_eq, decide_eq_true_iff]
  constructor
  · intro h; rw [ByteArray.toList_eq, ByteArray.toList_eq] at h; simp only [nb, h]
  · intro h; rw [nb_inj h]
set_option maxHeartbeats 800000 in
theorem register_calls (s : ByteArray) (w : World) (hs : s.size ≤ maxLen) : Calls Try.prog 61 #[.string s] w fun e w' => e = .returned (.int .i64 (regB (nb s))) ∧ Below w.heap.size w w' := by
  unfold maxLen at hs
  go_enter Try.func61, Try.ntmps61
  go_wp2
  go_loopw [3] (fun i wr => ∃ k : Nat, k ≤ 16 ∧ i = .int .i64 k ∧ Below w.heap.size w wr ∧ ∀ j, j < k → nb s ≠ 114 :: digs j) (fun i _ => 16 - (intOf i).toNat)
  case atStart => exact ⟨0, Nat.zero_le _, rfl, Below.refl _ _, fun j h => absurd h (Nat.not_lt_zero _)⟩
  case round =>
    obtain ⟨k, hk, rfl, hbl, ha⟩ := hrel
    have HA := Lib.hid ha
    clear ha
    by_cases hlt : k < 16
    · have h1 : decide ((k : Int) < 16) = true := decide_eq_true (by omega)
      have hdl : digs k ≠ [] ∧ (digs k).length ≤ 2 ∧ ∀ x ∈ digs k, x < 256 := by
        unfold digs
        split
        · simp; omega
        · simp; omega
      have hsz : (bs (digs k)).size = (digs k).length := by simp [bs, ByteArray.size]
      have hz : ¬ 9223372036854775807 < 1 + (bs (digs k)).size := by omega
      have hcat : nb ({ data := #[114] } ++ bs (digs k)) = 114 :: digs k := by rw [nb_app, nb_bs hdl.2.2]; rfl
      have HC := Lib.hid hcat
      clear hdl hsz hcat
      by_cases he : nb s = 114 :: digs k
      · have hq : (s.toList == ({ data := #[114] } ++ bs (digs k)).toList) = true := by rw [str_eq, HC.out]; exact decide_eq_true he
        have HR := Lib.hid (reg_hit hlt HA.out he)
        clear he
        go_wp2_with (go_at_call 69; refine (digits_calls k _ hlt).mono ?_; rintro e w' ⟨rfl, hb⟩)
        go_ret
        exact ⟨ret_int HR.out.symm, by (repeat (with_reducible first | exact Below.refl _ _ | assumption | apply below_alloc | apply below_drewN | apply below_drew1 | (refine below_set ?_ (by simp only [alloc_size]; omega)) | (refine below_step ?_ (by assumption))))⟩
      · have hq : (s.toList == ({ data := #[114] } ++ bs (digs k)).toList) = false := by rw [str_eq, HC.out]; exact decide_eq_false he
        have HE := Lib.hid he
        clear he
        go_wp2_with (go_at_call 69; refine (digits_calls k _ hlt).mono ?_; rintro e w' ⟨rfl, hb⟩)
        go_roundw
        case rel => exact ⟨k + 1, by omega, by go_num, by (repeat (with_reducible first | exact Below.refl _ _ | assumption | apply below_alloc | apply below_drewN | apply below_drew1 | (refine below_set ?_ (by simp only [alloc_size]; omega)) | (refine below_step ?_ (by assumption)))), fun j hj => by
          by_cases e : j = k
          · subst e; exact HE.out
          · exact HA.out j (by omega)⟩
        case measure => simp [intOf]; omega
    · have h1 : decide ((k : Int) < 16) = false := decide_eq_false (by omega)
      go_wp2
      go_ret
      exact ⟨ret_int (reg_none (fun j hj => HA.out j (by omega))).symm, hbl⟩
end Go.Proofs.Ytegjkheecbmioaa
