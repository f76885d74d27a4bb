/- The walks of the texts: what else is missing; the texts of each law; their code. -/
import Derived.Test.YtegjkheecbmioaaFnC
namespace Go.Proofs.Ytegjkheecbmioaa
open Go.RowKit
set_option linter.unusedVariables false
set_option linter.unusedSimpArgs false

theorem tr_bd (k : Int) : (trB k).length ≤ 4 ∧ ∀ t ∈ trB k, t.size ≤ 100 := by
  unfold trB
  (repeat' split) <;> decide
def othL (kind : Int) : Nat → List ByteArray
  | 0 => []
  | k + 1 => if ((k + 1 : Nat) : Int) = kind then othL kind k else othL kind k ++ trB ((k + 1 : Nat) : Int)
theorem oth_bd (kind : Int) : ∀ k, (othL kind k).length ≤ 4 * k ∧ ∀ t ∈ othL kind k, t.size ≤ 100
  | 0 => by simp [othL]
  | k + 1 => by
    have h := oth_bd kind k
    have h2 := tr_bd ((k + 1 : Nat) : Int)
    rw [othL]
    split
    · exact ⟨by omega, h.2⟩
    · refine ⟨by rw [List.length_append]; omega, fun t ht => ?_⟩
      rcases List.mem_append.1 ht with h3 | h3
      · exact h.2 t h3
      · exact h2.2 t h3
set_option maxRecDepth 100000 in
set_option maxHeartbeats 1600000 in
theorem Others_calls (kind : Int) (w : World) : Calls Try.prog 32 #[.int .i64 kind] w fun e w' => e = .returned (.string (missB (othL kind 4))) ∧ Below w.heap.size w w' := by
  obtain ⟨i0, hi0, hz0, hs0, hb0⟩ := info_parts info_str
  have hu : Try.prog.underlying 28 = some (.slice 9) := Try.underlying28
  go_enter Try.func32, Try.ntmps32
  go_wp2
  go_loopw [3, 4] (fun v iv wr => ∃ (k : Nat), iv = .int .i64 ((k + 1 : Nat) : Int) ∧ k ≤ 4 ∧ Hid (StrInv w v (othL kind k) wr)) (fun _ iv _ => 6 - (intOf iv).toNat)
  case atStart => exact ⟨0, rfl, by omega, Lib.hid ⟨World.ownsRow_nil _ _ _ _, Below.refl _ _⟩⟩
  case round =>
    obtain ⟨k, rfl, hk, HI⟩ := hrel
    by_cases hlt : k < 4
    · have d0 : decide (((k + 1 : Nat) : Int) ≤ 4) = true := decide_eq_true (by omega)
      by_cases hne : ((k + 1 : Nat) : Int) = kind
      · have d1 : (((k + 1 : Nat) : Int) != kind) = false := by simp [hne]
        have HJ : Hid (StrInv w u3 (othL kind (k + 1)) wr) := Lib.hid (by rw [othL, if_pos hne]; exact HI.out)
        clear hne HI
        go_wp2_with fail
        go_roundw
        case rel => exact ⟨k + 1, by go_num, by omega, HJ⟩
        case measure => simp [intOf]; omega
      · have d1 : (((k + 1 : Nat) : Int) != kind) = true := by rw [bne_iff_ne]; exact hne
        have HE := Lib.hid (show othL kind (k + 1) = othL kind k ++ trB ((k + 1 : Nat) : Int) by rw [othL, if_neg hne])
        have hbl := (oth_bd kind k).1
        have htl := (tr_bd ((k + 1 : Nat) : Int)).1
        clear hne
        go_wp2_with fail
        refine (Tries_calls _ _).mono ?_
        rintro e w2 ⟨rfl, hw2⟩
        have hw2' := Lib.hid hw2
        have HO2 := Lib.hid (show w2.ownsRow w.heap.size 9 1 u3 (othL kind k).length ((othL kind k).map (.string ·)) by rw [hw2]; exact HI.out.own.alloc _)
        have hbb : Below w.heap.size w w2 := by rw [hw2]; exact below_alloc HI.out.bl _
        have hsz2 : w.heap.size ≤ w2.heap.size := hbb.size
        have HS := Lib.hid (show Src w2 (.slice (some ⟨wr.heap.size, 0, none⟩) (trB ((k + 1 : Nat) : Int)).length (trB ((k + 1 : Nat) : Int)).length) (trB ((k + 1 : Nat) : Int)).length ((trB ((k + 1 : Nat) : Int)).map .string) by rw [hw2]; exact Src.of_block (alloc_heap_at _ _) (by intro u hu; obtain ⟨x, _, rfl⟩ := List.mem_map.1 hu; rfl))
        have HBB := Lib.hid hbb
        clear hw2 hbb hw2'
        go_wp2_with (first | (at_builtin; go_loud (refine wpList_append_uni rfl _ _ 28 rfl w.heap.size 9 i0 _ 1 16 hu hi0 hz0 hs0 hb0 rfl (by decide) _ _ _ rfl (by exact HO2.out) _ (trB ((k + 1 : Nat) : Int)).length ((trB ((k + 1 : Nat) : Int)).map .string) rfl (by simp) (by exact HS.out) (by unfold maxLen; omega) (by omega) (by omega) ?_)) | fail)
        intro A3 c3 w3 o3 g3 h3'
        have HJ : Hid (StrInv w (.slice A3 ((othL kind k).length + (trB ((k + 1 : Nat) : Int)).length) c3) (othL kind (k + 1)) w3) := Lib.hid (by
          rw [HE.out]
          refine ⟨by simpa using o3, below_grown HBB.out g3 hsz2 (fun k hk => own_base HO2.out k hk)⟩)
        clear o3 g3 h3' HE
        go_wp2_with fail
        go_roundw
        case rel => exact ⟨k + 1, by go_num, by omega, HJ⟩
        case measure => simp [intOf]; omega
    · have hk4 : k = 4 := by omega
      have d0 : decide (((k + 1 : Nat) : Int) ≤ 4) = false := decide_eq_false (by omega)
      subst hk4
      obtain ⟨A, c, rfl, hc, hC⟩ := HI.out.out
      have HC := Lib.hid hC
      have hbd := oth_bd kind 4
      have hb1 := hbd.1
      have HB2 := Lib.hid (fun t ht => Nat.le_trans (hbd.2 t ht) (show 100 ≤ 1000 by decide))
      have HBL := Lib.hid HI.out.bl
      clear hC hbd HI
      go_wp2_with fail
      refine (Missing_calls (othL kind 4) A c wr HC.out (by omega) HB2.out).mono ?_
      rintro e w2 ⟨rfl, rfl⟩
      go_wp2_with fail
      go_ret
      exact ⟨rfl, HBL.out⟩
noncomputable def textsSm : List ByteArray := [codeQ, codeSm, missB (othL 2 4)]
set_option maxRecDepth 100000 in
set_option maxHeartbeats 1600000 in
theorem TextsSm_calls (w : World) : Calls Try.prog 11 #[] w fun e w' => ∃ A c, e = .returned (.slice A textsSm.length c) ∧ kStr.C (w.heap.size ≤ ·) w' A textsSm ∧ Below w.heap.size w w' := by
  go_enter Try.func11, Try.ntmps11
  go_wp2_with fail
  refine (CodeQ_calls _).mono ?_
  rintro e w1 ⟨rfl, rfl⟩
  generalize hq : codeQ = q
  have HQ := Lib.hid hq
  clear hq
  go_wp2_with fail
  refine (CodeSm_calls _).mono ?_
  rintro e w1 ⟨rfl, rfl⟩
  generalize hq2 : codeSm = q2
  have HQ2 := Lib.hid hq2
  clear hq2
  go_wp2_with fail
  refine (Others_calls _ _).mono ?_
  rintro e w1 ⟨rfl, hb⟩
  have HB := Lib.hid hb
  clear hb
  generalize hq3 : missB (othL 2 4) = q3
  have HQ3 := Lib.hid hq3
  clear hq3
  go_wp2_with fail
  go_ret
  have hI : StrInv w (.slice (some ⟨w1.heap.size, 0, none⟩) 3 3) [q, q2, q3] (w1.alloc (.cells #[.string q, .string q2, .string q3] 9)) := ⟨World.ownsRow_lit w1 #[.string q, .string q2, .string q3] 3 HB.out.size (by decide) rfl, below_alloc HB.out _⟩
  obtain ⟨A, c, e, hc, hC⟩ := hI.out
  have hT : textsSm = [q, q2, q3] := by rw [textsSm, HQ.out, HQ2.out, HQ3.out]
  rw [hT]
  exact ⟨A, c, congrArg Ending.returned e, hC, hI.bl⟩
noncomputable def textsSw : List ByteArray := [codeQ, codeSw, missB (othL 0 4)]
set_option maxRecDepth 100000 in
set_option maxHeartbeats 1600000 in
theorem TextsSw_calls (w : World) : Calls Try.prog 13 #[] w fun e w' => ∃ A c, e = .returned (.slice A textsSw.length c) ∧ kStr.C (w.heap.size ≤ ·) w' A textsSw ∧ Below w.heap.size w w' := by
  go_enter Try.func13, Try.ntmps13
  go_wp2_with fail
  refine (CodeQ_calls _).mono ?_
  rintro e w1 ⟨rfl, rfl⟩
  generalize hq : codeQ = q
  have HQ := Lib.hid hq
  clear hq
  go_wp2_with fail
  refine (CodeSw_calls _).mono ?_
  rintro e w1 ⟨rfl, rfl⟩
  generalize hq2 : codeSw = q2
  have HQ2 := Lib.hid hq2
  clear hq2
  go_wp2_with fail
  refine (Others_calls _ _).mono ?_
  rintro e w1 ⟨rfl, hb⟩
  have HB := Lib.hid hb
  clear hb
  generalize hq3 : missB (othL 0 4) = q3
  have HQ3 := Lib.hid hq3
  clear hq3
  go_wp2_with fail
  go_ret
  have hI : StrInv w (.slice (some ⟨w1.heap.size, 0, none⟩) 3 3) [q, q2, q3] (w1.alloc (.cells #[.string q, .string q2, .string q3] 9)) := ⟨World.ownsRow_lit w1 #[.string q, .string q2, .string q3] 3 HB.out.size (by decide) rfl, below_alloc HB.out _⟩
  obtain ⟨A, c, e, hc, hC⟩ := hI.out
  have hT : textsSw = [q, q2, q3] := by rw [textsSw, HQ.out, HQ2.out, HQ3.out]
  rw [hT]
  exact ⟨A, c, congrArg Ending.returned e, hC, hI.bl⟩
noncomputable def textsLt : List ByteArray := [codeQ, codeLt, missB (othL 3 4)]
set_option maxRecDepth 100000 in
set_option maxHeartbeats 1600000 in
theorem TextsLt_calls (w : World) : Calls Try.prog 15 #[] w fun e w' => ∃ A c, e = .returned (.slice A textsLt.length c) ∧ kStr.C (w.heap.size ≤ ·) w' A textsLt ∧ Below w.heap.size w w' := by
  go_enter Try.func15, Try.ntmps15
  go_wp2_with fail
  refine (CodeQ_calls _).mono ?_
  rintro e w1 ⟨rfl, rfl⟩
  generalize hq : codeQ = q
  have HQ := Lib.hid hq
  clear hq
  go_wp2_with fail
  refine (CodeLt_calls _).mono ?_
  rintro e w1 ⟨rfl, rfl⟩
  generalize hq2 : codeLt = q2
  have HQ2 := Lib.hid hq2
  clear hq2
  go_wp2_with fail
  refine (Others_calls _ _).mono ?_
  rintro e w1 ⟨rfl, hb⟩
  have HB := Lib.hid hb
  clear hb
  generalize hq3 : missB (othL 3 4) = q3
  have HQ3 := Lib.hid hq3
  clear hq3
  go_wp2_with fail
  go_ret
  have hI : StrInv w (.slice (some ⟨w1.heap.size, 0, none⟩) 3 3) [q, q2, q3] (w1.alloc (.cells #[.string q, .string q2, .string q3] 9)) := ⟨World.ownsRow_lit w1 #[.string q, .string q2, .string q3] 3 HB.out.size (by decide) rfl, below_alloc HB.out _⟩
  obtain ⟨A, c, e, hc, hC⟩ := hI.out
  have hT : textsLt = [q, q2, q3] := by rw [textsLt, HQ.out, HQ2.out, HQ3.out]
  rw [hT]
  exact ⟨A, c, congrArg Ending.returned e, hC, hI.bl⟩
noncomputable def textsRw : List ByteArray := [codeQ, codeRw, missB (othL 4 4)]
set_option maxRecDepth 100000 in
set_option maxHeartbeats 1600000 in
theorem TextsRw_calls (w : World) : Calls Try.prog 18 #[] w fun e w' => ∃ A c, e = .returned (.slice A textsRw.length c) ∧ kStr.C (w.heap.size ≤ ·) w' A textsRw ∧ Below w.heap.size w w' := by
  go_enter Try.func18, Try.ntmps18
  go_wp2_with fail
  refine (CodeQ_calls _).mono ?_
  rintro e w1 ⟨rfl, rfl⟩
  generalize hq : codeQ = q
  have HQ := Lib.hid hq
  clear hq
  go_wp2_with fail
  refine (CodeRw_calls _).mono ?_
  rintro e w1 ⟨rfl, rfl⟩
  generalize hq2 : codeRw = q2
  have HQ2 := Lib.hid hq2
  clear hq2
  go_wp2_with fail
  refine (Others_calls _ _).mono ?_
  rintro e w1 ⟨rfl, hb⟩
  have HB := Lib.hid hb
  clear hb
  generalize hq3 : missB (othL 4 4) = q3
  have HQ3 := Lib.hid hq3
  clear hq3
  go_wp2_with fail
  go_ret
  have hI : StrInv w (.slice (some ⟨w1.heap.size, 0, none⟩) 3 3) [q, q2, q3] (w1.alloc (.cells #[.string q, .string q2, .string q3] 9)) := ⟨World.ownsRow_lit w1 #[.string q, .string q2, .string q3] 3 HB.out.size (by decide) rfl, below_alloc HB.out _⟩
  obtain ⟨A, c, e, hc, hC⟩ := hI.out
  have hT : textsRw = [q, q2, q3] := by rw [textsRw, HQ.out, HQ2.out, HQ3.out]
  rw [hT]
  exact ⟨A, c, congrArg Ending.returned e, hC, hI.bl⟩
end Go.Proofs.Ytegjkheecbmioaa
