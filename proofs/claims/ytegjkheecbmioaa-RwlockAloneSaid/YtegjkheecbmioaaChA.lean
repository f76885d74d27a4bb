/- The walk of ref13.choices, for the kinds 4 to 15. -/
import Derived.Test.YtegjkheecbmioaaFnF
import Derived.BigRegion
namespace Go.Proofs.Ytegjkheecbmioaa
open Go.RowKit
set_option linter.unusedVariables false
set_option linter.unusedSimpArgs false

def chN (k n xn : Int) : List (Int × Int) := if k = 4 then [(1, n), (17, 0)] else if k = 5 then [(1, n), (5, n)] else if k = 6 then [(3, n), (7, n)] else if k = 7 then [(9, xn)] else if k = 8 then [(1, 0), (17, 0)] else if k = 9 then [(8, 1), (8, 0)] else if k = 10 then [(2, 0), (7, 1), (17, 0)] else if k = 11 then [(2, 0), (7, 1), (5, 1)] else if k = 12 then [(4, 0), (6, 1)] else if k = 13 then [(1, 1), (7, 0), (17, 0)] else if k = 14 then [(1, 1), (7, 0), (5, 0)] else [(3, 0), (6, 0)]
def chR (k xn : Int) : List Int := if k = 4 then [0, 3] else if k = 5 then [0, 1] else if k = 6 then [0, 5] else if k = 7 then [16 * xn] else if k = 8 then [0, 3] else if k = 9 then [0, 0] else if k = 10 then [0, 5, 3] else if k = 11 then [0, 5, 1] else if k = 12 then [0, 4] else if k = 13 then [0, 5, 3] else if k = 14 then [0, 5, 1] else [0, 4]
theorem kint_own {w : World} {B T : Nat} {v : Value} {xs : List Int} (h : w.ownsRow B T 1 v xs.length (xs.flatMap (fun x => [.int .i64 x]))) : ∃ A c, v = .slice A xs.length c ∧ xs.length ≤ c ∧ kInt.C (B ≤ ·) w A xs :=
  C_of_own (enc := fun x => [.int .i64 x]) (hl := fun _ => rfl) (h1 := by intro x u hu; rw [List.mem_singleton.1 hu]; rfl) (h0 := by decide) h (fun k hk => own_base h k hk)
theorem kint_arr {w : World} {cs : Array Value} {T : Nat} (xs : List Int) (h : cs.toList = xs.flatMap (fun x => [.int .i64 x])) (hl : xs.length ≤ 1000) : kInt.C (w.heap.size ≤ ·) (w.alloc (.cells cs T)) (some ⟨w.heap.size, 0, none⟩) xs := by
  have hs : cs.size = xs.length * 1 := by
    rw [← Array.length_toList, h]
    exact flat_len (enc := fun x => [Value.int .i64 x]) (sz := 1) (fun _ => rfl) xs
  have h1 := World.ownsRow_lit (base := w.heap.size) (size := 1) (e := T) w cs xs.length (Nat.le_refl _) (by unfold maxLen; omega) hs
  rw [h] at h1
  obtain ⟨A, c, e, _, hc⟩ := kint_own h1
  simp only [Value.slice.injEq] at e
  rw [e.1]
  exact hc
theorem thv_eq (xk xn xo xh x0 x1 x2 x3 x4 x5 x6 x7 xf xi : Int) : (⟨xk, xn, xo, xh, x0, x1, x2, x3, x4, x5, x6, x7, xf, xi⟩ : Th).v = .agg #[.int .i64 xk, .int .i64 xn, .int .i64 xo, .int .i64 xh, .int .i64 x0, .int .i64 x1, .int .i64 x2, .int .i64 x3, .int .i64 x4, .int .i64 x5, .int .i64 x6, .int .i64 x7, .slice none 0 0, .int .i64 xf, .int .i64 xi] := rfl
def ChPost (w0 : World) (ns : List (Int × Int)) (is : List Int) (e : Ending) (w : World) : Prop := ∃ A c A2 c2, e = .returned (.tuple #[.slice A ns.length c, .slice A2 is.length c2]) ∧ kNt.C (w0.heap.size ≤ ·) w A ns ∧ kInt.C (w0.heap.size ≤ ·) w A2 is ∧ Below w0.heap.size w0 w
theorem ChPost.drew {w0 w : World} {ns : List (Int × Int)} {is : List Int} {e : Ending} (h : ChPost w0 ns is e w) : ChPost w0 ns is e w.drew := by
  obtain ⟨A, c, A2, c2, he, h1, h2, h3⟩ := h
  exact ⟨A, c, A2, c2, he, h1.below (below_drew1 (Below.refl _ _)), h2.below (below_drew1 (Below.refl _ _)), below_drew1 h3⟩
theorem ch_fin {w : World} (o1 o2 : Obj) {nc ic : Array Value} {T : Nat} (ns : List (Int × Int)) (is : List Int) (hn : nc.toList = ns.flatMap noteEnc) (hi : ic.toList = is.flatMap (fun x => [.int .i64 x])) (l1 : ns.length ≤ 1000) (l2 : is.length ≤ 1000) {e : Ending}
    (he : e = .returned (.tuple #[.slice (some ⟨w.heap.size + 1 + 1, 0, none⟩) ns.length ns.length, .slice (some ⟨w.heap.size + 1 + 1 + 1, 0, none⟩) is.length is.length])) : ChPost w ns is e ((((w.alloc o1).alloc o2).alloc (.cells nc 40)).alloc (.cells ic T)) := by
  have h1 := nt_lit (w := (w.alloc o1).alloc o2) (cs := nc) ns hn l1
  have h2 := kint_arr (w := ((w.alloc o1).alloc o2).alloc (.cells nc 40)) (cs := ic) (T := T) is hi l2
  simp only [alloc_size] at h1 h2
  exact ⟨_, _, _, _, he, (h1.mono (fun k hk => by omega)).below (below_alloc (Below.refl _ _) _), h2.mono (fun k hk => by omega), below_alloc (below_alloc (below_alloc (below_alloc (Below.refl _ _) _) _) _) _⟩
theorem ch_fin2 {w : World} (o1 o2 : Obj) {nc ic : Array Value} {T : Nat} (ns : List (Int × Int)) (is : List Int) (hn : nc.toList = ns.flatMap noteEnc) (hi : ic.toList = is.flatMap (fun x => [.int .i64 x])) (l1 : ns.length ≤ 1000) (l2 : is.length ≤ 1000) {e : Ending}
    (he : e = .returned (.tuple #[.slice (some ⟨w.heap.size + 1 + 1 + 1, 0, none⟩) ns.length ns.length, .slice (some ⟨w.heap.size + 1 + 1, 0, none⟩) is.length is.length])) : ChPost w ns is e ((((w.alloc o1).alloc o2).alloc (.cells ic T)).alloc (.cells nc 40)) := by
  have h1 := nt_lit (w := ((w.alloc o1).alloc o2).alloc (.cells ic T)) (cs := nc) ns hn l1
  have h2 := kint_arr (w := (w.alloc o1).alloc o2) (cs := ic) (T := T) is hi l2
  simp only [alloc_size] at h1 h2
  exact ⟨_, _, _, _, he, h1.mono (fun k hk => by omega), (h2.mono (fun k hk => by omega)).below (below_alloc (Below.refl _ _) _), below_alloc (below_alloc (below_alloc (below_alloc (Below.refl _ _) _) _) _) _⟩
set_option maxRecDepth 100000 in
set_option maxHeartbeats 1600000 in
theorem ch4_calls (xk xn xo xh x0 x1 x2 x3 x4 x5 x6 x7 xf xi ob n wt : Int) (br : Bool) (w : World) (h0 : 0 ≤ xn) (h1 : xn ≤ 1000) :
    Calls Try.prog 40 #[.agg #[.int .i64 xk, .int .i64 xn, .int .i64 xo, .int .i64 xh, .int .i64 x0, .int .i64 x1, .int .i64 x2, .int .i64 x3, .int .i64 x4, .int .i64 x5, .int .i64 x6, .int .i64 x7, .slice none 0 0, .int .i64 xf, .int .i64 xi], opV 4 ob n wt br] w (ChPost w [(1, n), (17, 0)] [0, 3]) := by
  unfold opV
  have a1 : IntKind.i64.wrap (16 * xn) = 16 * xn := by rw [IntKind.wrap_i64]; omega
  go_enter Try.func40, Try.ntmps40
  go_wp2_with (first | go_region)
  refine bodyPost_ret (v := .tuple #[.slice (some ⟨w.heap.size + 1 + 1, 0, none⟩) 2 2, .slice (some ⟨w.heap.size + 1 + 1 + 1, 0, none⟩) 2 2]) (by simp [results, Try.results40, go_sem]) rfl ?_
  first | exact ch_fin _ _ [(1, n), (17, 0)] [0, 3] rfl rfl (by simp) (by simp) rfl | exact (ch_fin _ _ [(1, n), (17, 0)] [0, 3] rfl rfl (by simp) (by simp) rfl).drew
set_option maxRecDepth 100000 in
set_option maxHeartbeats 1600000 in
theorem ch5_calls (xk xn xo xh x0 x1 x2 x3 x4 x5 x6 x7 xf xi ob n wt : Int) (br : Bool) (w : World) (h0 : 0 ≤ xn) (h1 : xn ≤ 1000) :
    Calls Try.prog 40 #[.agg #[.int .i64 xk, .int .i64 xn, .int .i64 xo, .int .i64 xh, .int .i64 x0, .int .i64 x1, .int .i64 x2, .int .i64 x3, .int .i64 x4, .int .i64 x5, .int .i64 x6, .int .i64 x7, .slice none 0 0, .int .i64 xf, .int .i64 xi], opV 5 ob n wt br] w (ChPost w [(1, n), (5, n)] [0, 1]) := by
  unfold opV
  have a1 : IntKind.i64.wrap (16 * xn) = 16 * xn := by rw [IntKind.wrap_i64]; omega
  go_enter Try.func40, Try.ntmps40
  go_wp2_with (first | go_region)
  refine bodyPost_ret (v := .tuple #[.slice (some ⟨w.heap.size + 1 + 1, 0, none⟩) 2 2, .slice (some ⟨w.heap.size + 1 + 1 + 1, 0, none⟩) 2 2]) (by simp [results, Try.results40, go_sem]) rfl ?_
  first | exact ch_fin _ _ [(1, n), (5, n)] [0, 1] rfl rfl (by simp) (by simp) rfl | exact (ch_fin _ _ [(1, n), (5, n)] [0, 1] rfl rfl (by simp) (by simp) rfl).drew
set_option maxRecDepth 100000 in
set_option maxHeartbeats 1600000 in
theorem ch6_calls (xk xn xo xh x0 x1 x2 x3 x4 x5 x6 x7 xf xi ob n wt : Int) (br : Bool) (w : World) (h0 : 0 ≤ xn) (h1 : xn ≤ 1000) :
    Calls Try.prog 40 #[.agg #[.int .i64 xk, .int .i64 xn, .int .i64 xo, .int .i64 xh, .int .i64 x0, .int .i64 x1, .int .i64 x2, .int .i64 x3, .int .i64 x4, .int .i64 x5, .int .i64 x6, .int .i64 x7, .slice none 0 0, .int .i64 xf, .int .i64 xi], opV 6 ob n wt br] w (ChPost w [(3, n), (7, n)] [0, 5]) := by
  unfold opV
  have a1 : IntKind.i64.wrap (16 * xn) = 16 * xn := by rw [IntKind.wrap_i64]; omega
  go_enter Try.func40, Try.ntmps40
  go_wp2_with (first | go_region)
  refine bodyPost_ret (v := .tuple #[.slice (some ⟨w.heap.size + 1 + 1, 0, none⟩) 2 2, .slice (some ⟨w.heap.size + 1 + 1 + 1, 0, none⟩) 2 2]) (by simp [results, Try.results40, go_sem]) rfl ?_
  first | exact ch_fin _ _ [(3, n), (7, n)] [0, 5] rfl rfl (by simp) (by simp) rfl | exact (ch_fin _ _ [(3, n), (7, n)] [0, 5] rfl rfl (by simp) (by simp) rfl).drew
set_option maxRecDepth 100000 in
set_option maxHeartbeats 1600000 in
theorem ch7_calls (xk xn xo xh x0 x1 x2 x3 x4 x5 x6 x7 xf xi ob n wt : Int) (br : Bool) (w : World) (h0 : 0 ≤ xn) (h1 : xn ≤ 1000) :
    Calls Try.prog 40 #[.agg #[.int .i64 xk, .int .i64 xn, .int .i64 xo, .int .i64 xh, .int .i64 x0, .int .i64 x1, .int .i64 x2, .int .i64 x3, .int .i64 x4, .int .i64 x5, .int .i64 x6, .int .i64 x7, .slice none 0 0, .int .i64 xf, .int .i64 xi], opV 7 ob n wt br] w (ChPost w [(9, xn)] [16 * xn]) := by
  unfold opV
  have a1 : IntKind.i64.wrap (16 * xn) = 16 * xn := by rw [IntKind.wrap_i64]; omega
  go_enter Try.func40, Try.ntmps40
  go_wp2_with (first | go_region)
  · refine bodyPost_ret (v := .tuple #[.slice (some ⟨w.heap.size + 1 + 1, 0, none⟩) 1 1, .slice (some ⟨w.heap.size + 1 + 1 + 1, 0, none⟩) 1 1]) (by simp [results, Try.results40, go_sem]) rfl ?_
    exact (ch_fin _ _ [(9, xn)] [16 * xn] rfl rfl (by simp) (by simp) rfl).drew
  · refine bodyPost_ret (v := .tuple #[.slice (some ⟨w.heap.size + 1 + 1 + 1, 0, none⟩) 1 1, .slice (some ⟨w.heap.size + 1 + 1, 0, none⟩) 1 1]) (by simp [results, Try.results40, go_sem]) rfl ?_
    exact (ch_fin2 _ _ [(9, xn)] [16 * xn] rfl rfl (by simp) (by simp) rfl).drew
set_option maxRecDepth 100000 in
set_option maxHeartbeats 1600000 in
theorem ch8_calls (xk xn xo xh x0 x1 x2 x3 x4 x5 x6 x7 xf xi ob n wt : Int) (br : Bool) (w : World) (h0 : 0 ≤ xn) (h1 : xn ≤ 1000) :
    Calls Try.prog 40 #[.agg #[.int .i64 xk, .int .i64 xn, .int .i64 xo, .int .i64 xh, .int .i64 x0, .int .i64 x1, .int .i64 x2, .int .i64 x3, .int .i64 x4, .int .i64 x5, .int .i64 x6, .int .i64 x7, .slice none 0 0, .int .i64 xf, .int .i64 xi], opV 8 ob n wt br] w (ChPost w [(1, 0), (17, 0)] [0, 3]) := by
  unfold opV
  have a1 : IntKind.i64.wrap (16 * xn) = 16 * xn := by rw [IntKind.wrap_i64]; omega
  go_enter Try.func40, Try.ntmps40
  go_wp2_with (first | go_region)
  refine bodyPost_ret (v := .tuple #[.slice (some ⟨w.heap.size + 1 + 1, 0, none⟩) 2 2, .slice (some ⟨w.heap.size + 1 + 1 + 1, 0, none⟩) 2 2]) (by simp [results, Try.results40, go_sem]) rfl ?_
  first | exact ch_fin _ _ [(1, 0), (17, 0)] [0, 3] rfl rfl (by simp) (by simp) rfl | exact (ch_fin _ _ [(1, 0), (17, 0)] [0, 3] rfl rfl (by simp) (by simp) rfl).drew
set_option maxRecDepth 100000 in
set_option maxHeartbeats 1600000 in
theorem ch9_calls (xk xn xo xh x0 x1 x2 x3 x4 x5 x6 x7 xf xi ob n wt : Int) (br : Bool) (w : World) (h0 : 0 ≤ xn) (h1 : xn ≤ 1000) :
    Calls Try.prog 40 #[.agg #[.int .i64 xk, .int .i64 xn, .int .i64 xo, .int .i64 xh, .int .i64 x0, .int .i64 x1, .int .i64 x2, .int .i64 x3, .int .i64 x4, .int .i64 x5, .int .i64 x6, .int .i64 x7, .slice none 0 0, .int .i64 xf, .int .i64 xi], opV 9 ob n wt br] w (ChPost w [(8, 1), (8, 0)] [0, 0]) := by
  unfold opV
  have a1 : IntKind.i64.wrap (16 * xn) = 16 * xn := by rw [IntKind.wrap_i64]; omega
  go_enter Try.func40, Try.ntmps40
  go_wp2_with (first | go_region)
  refine bodyPost_ret (v := .tuple #[.slice (some ⟨w.heap.size + 1 + 1, 0, none⟩) 2 2, .slice (some ⟨w.heap.size + 1 + 1 + 1, 0, none⟩) 2 2]) (by simp [results, Try.results40, go_sem]) rfl ?_
  first | exact ch_fin _ _ [(8, 1), (8, 0)] [0, 0] rfl rfl (by simp) (by simp) rfl | exact (ch_fin _ _ [(8, 1), (8, 0)] [0, 0] rfl rfl (by simp) (by simp) rfl).drew
set_option maxRecDepth 100000 in
set_option maxHeartbeats 1600000 in
theorem ch10_calls (xk xn xo xh x0 x1 x2 x3 x4 x5 x6 x7 xf xi ob n wt : Int) (br : Bool) (w : World) (h0 : 0 ≤ xn) (h1 : xn ≤ 1000) :
    Calls Try.prog 40 #[.agg #[.int .i64 xk, .int .i64 xn, .int .i64 xo, .int .i64 xh, .int .i64 x0, .int .i64 x1, .int .i64 x2, .int .i64 x3, .int .i64 x4, .int .i64 x5, .int .i64 x6, .int .i64 x7, .slice none 0 0, .int .i64 xf, .int .i64 xi], opV 10 ob n wt br] w (ChPost w [(2, 0), (7, 1), (17, 0)] [0, 5, 3]) := by
  unfold opV
  have a1 : IntKind.i64.wrap (16 * xn) = 16 * xn := by rw [IntKind.wrap_i64]; omega
  go_enter Try.func40, Try.ntmps40
  go_wp2_with (first | go_region)
  refine bodyPost_ret (v := .tuple #[.slice (some ⟨w.heap.size + 1 + 1, 0, none⟩) 3 3, .slice (some ⟨w.heap.size + 1 + 1 + 1, 0, none⟩) 3 3]) (by simp [results, Try.results40, go_sem]) rfl ?_
  first | exact ch_fin _ _ [(2, 0), (7, 1), (17, 0)] [0, 5, 3] rfl rfl (by simp) (by simp) rfl | exact (ch_fin _ _ [(2, 0), (7, 1), (17, 0)] [0, 5, 3] rfl rfl (by simp) (by simp) rfl).drew
set_option maxRecDepth 100000 in
set_option maxHeartbeats 1600000 in
theorem ch11_calls (xk xn xo xh x0 x1 x2 x3 x4 x5 x6 x7 xf xi ob n wt : Int) (br : Bool) (w : World) (h0 : 0 ≤ xn) (h1 : xn ≤ 1000) :
    Calls Try.prog 40 #[.agg #[.int .i64 xk, .int .i64 xn, .int .i64 xo, .int .i64 xh, .int .i64 x0, .int .i64 x1, .int .i64 x2, .int .i64 x3, .int .i64 x4, .int .i64 x5, .int .i64 x6, .int .i64 x7, .slice none 0 0, .int .i64 xf, .int .i64 xi], opV 11 ob n wt br] w (ChPost w [(2, 0), (7, 1), (5, 1)] [0, 5, 1]) := by
  unfold opV
  have a1 : IntKind.i64.wrap (16 * xn) = 16 * xn := by rw [IntKind.wrap_i64]; omega
  go_enter Try.func40, Try.ntmps40
  go_wp2_with (first | go_region)
  refine bodyPost_ret (v := .tuple #[.slice (some ⟨w.heap.size + 1 + 1, 0, none⟩) 3 3, .slice (some ⟨w.heap.size + 1 + 1 + 1, 0, none⟩) 3 3]) (by simp [results, Try.results40, go_sem]) rfl ?_
  first | exact ch_fin _ _ [(2, 0), (7, 1), (5, 1)] [0, 5, 1] rfl rfl (by simp) (by simp) rfl | exact (ch_fin _ _ [(2, 0), (7, 1), (5, 1)] [0, 5, 1] rfl rfl (by simp) (by simp) rfl).drew
set_option maxRecDepth 100000 in
set_option maxHeartbeats 1600000 in
theorem ch12_calls (xk xn xo xh x0 x1 x2 x3 x4 x5 x6 x7 xf xi ob n wt : Int) (br : Bool) (w : World) (h0 : 0 ≤ xn) (h1 : xn ≤ 1000) :
    Calls Try.prog 40 #[.agg #[.int .i64 xk, .int .i64 xn, .int .i64 xo, .int .i64 xh, .int .i64 x0, .int .i64 x1, .int .i64 x2, .int .i64 x3, .int .i64 x4, .int .i64 x5, .int .i64 x6, .int .i64 x7, .slice none 0 0, .int .i64 xf, .int .i64 xi], opV 12 ob n wt br] w (ChPost w [(4, 0), (6, 1)] [0, 4]) := by
  unfold opV
  have a1 : IntKind.i64.wrap (16 * xn) = 16 * xn := by rw [IntKind.wrap_i64]; omega
  go_enter Try.func40, Try.ntmps40
  go_wp2_with (first | go_region)
  refine bodyPost_ret (v := .tuple #[.slice (some ⟨w.heap.size + 1 + 1, 0, none⟩) 2 2, .slice (some ⟨w.heap.size + 1 + 1 + 1, 0, none⟩) 2 2]) (by simp [results, Try.results40, go_sem]) rfl ?_
  first | exact ch_fin _ _ [(4, 0), (6, 1)] [0, 4] rfl rfl (by simp) (by simp) rfl | exact (ch_fin _ _ [(4, 0), (6, 1)] [0, 4] rfl rfl (by simp) (by simp) rfl).drew
set_option maxRecDepth 100000 in
set_option maxHeartbeats 1600000 in
theorem ch13_calls (xk xn xo xh x0 x1 x2 x3 x4 x5 x6 x7 xf xi ob n wt : Int) (br : Bool) (w : World) (h0 : 0 ≤ xn) (h1 : xn ≤ 1000) :
    Calls Try.prog 40 #[.agg #[.int .i64 xk, .int .i64 xn, .int .i64 xo, .int .i64 xh, .int .i64 x0, .int .i64 x1, .int .i64 x2, .int .i64 x3, .int .i64 x4, .int .i64 x5, .int .i64 x6, .int .i64 x7, .slice none 0 0, .int .i64 xf, .int .i64 xi], opV 13 ob n wt br] w (ChPost w [(1, 1), (7, 0), (17, 0)] [0, 5, 3]) := by
  unfold opV
  have a1 : IntKind.i64.wrap (16 * xn) = 16 * xn := by rw [IntKind.wrap_i64]; omega
  go_enter Try.func40, Try.ntmps40
  go_wp2_with (first | go_region)
  refine bodyPost_ret (v := .tuple #[.slice (some ⟨w.heap.size + 1 + 1, 0, none⟩) 3 3, .slice (some ⟨w.heap.size + 1 + 1 + 1, 0, none⟩) 3 3]) (by simp [results, Try.results40, go_sem]) rfl ?_
  first | exact ch_fin _ _ [(1, 1), (7, 0), (17, 0)] [0, 5, 3] rfl rfl (by simp) (by simp) rfl | exact (ch_fin _ _ [(1, 1), (7, 0), (17, 0)] [0, 5, 3] rfl rfl (by simp) (by simp) rfl).drew
set_option maxRecDepth 100000 in
set_option maxHeartbeats 1600000 in
theorem ch14_calls (xk xn xo xh x0 x1 x2 x3 x4 x5 x6 x7 xf xi ob n wt : Int) (br : Bool) (w : World) (h0 : 0 ≤ xn) (h1 : xn ≤ 1000) :
    Calls Try.prog 40 #[.agg #[.int .i64 xk, .int .i64 xn, .int .i64 xo, .int .i64 xh, .int .i64 x0, .int .i64 x1, .int .i64 x2, .int .i64 x3, .int .i64 x4, .int .i64 x5, .int .i64 x6, .int .i64 x7, .slice none 0 0, .int .i64 xf, .int .i64 xi], opV 14 ob n wt br] w (ChPost w [(1, 1), (7, 0), (5, 0)] [0, 5, 1]) := by
  unfold opV
  have a1 : IntKind.i64.wrap (16 * xn) = 16 * xn := by rw [IntKind.wrap_i64]; omega
  go_enter Try.func40, Try.ntmps40
  go_wp2_with (first | go_region)
  refine bodyPost_ret (v := .tuple #[.slice (some ⟨w.heap.size + 1 + 1, 0, none⟩) 3 3, .slice (some ⟨w.heap.size + 1 + 1 + 1, 0, none⟩) 3 3]) (by simp [results, Try.results40, go_sem]) rfl ?_
  first | exact ch_fin _ _ [(1, 1), (7, 0), (5, 0)] [0, 5, 1] rfl rfl (by simp) (by simp) rfl | exact (ch_fin _ _ [(1, 1), (7, 0), (5, 0)] [0, 5, 1] rfl rfl (by simp) (by simp) rfl).drew
set_option maxRecDepth 100000 in
set_option maxHeartbeats 1600000 in
theorem ch15_calls (xk xn xo xh x0 x1 x2 x3 x4 x5 x6 x7 xf xi ob n wt : Int) (br : Bool) (w : World) (h0 : 0 ≤ xn) (h1 : xn ≤ 1000) :
    Calls Try.prog 40 #[.agg #[.int .i64 xk, .int .i64 xn, .int .i64 xo, .int .i64 xh, .int .i64 x0, .int .i64 x1, .int .i64 x2, .int .i64 x3, .int .i64 x4, .int .i64 x5, .int .i64 x6, .int .i64 x7, .slice none 0 0, .int .i64 xf, .int .i64 xi], opV 15 ob n wt br] w (ChPost w [(3, 0), (6, 0)] [0, 4]) := by
  unfold opV
  have a1 : IntKind.i64.wrap (16 * xn) = 16 * xn := by rw [IntKind.wrap_i64]; omega
  go_enter Try.func40, Try.ntmps40
  go_wp2_with (first | go_region)
  refine bodyPost_ret (v := .tuple #[.slice (some ⟨w.heap.size + 1 + 1, 0, none⟩) 2 2, .slice (some ⟨w.heap.size + 1 + 1 + 1, 0, none⟩) 2 2]) (by simp [results, Try.results40, go_sem]) rfl ?_
  first | exact ch_fin _ _ [(3, 0), (6, 0)] [0, 4] rfl rfl (by simp) (by simp) rfl | exact (ch_fin _ _ [(3, 0), (6, 0)] [0, 4] rfl rfl (by simp) (by simp) rfl).drew
theorem Choices_calls (x : Th) (k ob n wt : Int) (br : Bool) (w : World) (h0 : 0 ≤ x.n) (h1 : x.n ≤ 1000) (hk : 4 ≤ k ∧ k ≤ 15) :
    Calls Try.prog 40 #[x.v, opV k ob n wt br] w (ChPost w (chN k n x.n) (chR k x.n)) := by
  obtain ⟨xk, xn, xo, xh, x0, x1, x2, x3, x4, x5, x6, x7, xf, xi⟩ := x
  have : k = 4 ∨ k = 5 ∨ k = 6 ∨ k = 7 ∨ k = 8 ∨ k = 9 ∨ k = 10 ∨ k = 11 ∨ k = 12 ∨ k = 13 ∨ k = 14 ∨ k = 15 := by omega
  rcases this with rfl | rfl | rfl | rfl | rfl | rfl | rfl | rfl | rfl | rfl | rfl | rfl
  · exact ch4_calls xk xn xo xh x0 x1 x2 x3 x4 x5 x6 x7 xf xi ob n wt br w h0 h1
  · exact ch5_calls xk xn xo xh x0 x1 x2 x3 x4 x5 x6 x7 xf xi ob n wt br w h0 h1
  · exact ch6_calls xk xn xo xh x0 x1 x2 x3 x4 x5 x6 x7 xf xi ob n wt br w h0 h1
  · exact ch7_calls xk xn xo xh x0 x1 x2 x3 x4 x5 x6 x7 xf xi ob n wt br w h0 h1
  · exact ch8_calls xk xn xo xh x0 x1 x2 x3 x4 x5 x6 x7 xf xi ob n wt br w h0 h1
  · exact ch9_calls xk xn xo xh x0 x1 x2 x3 x4 x5 x6 x7 xf xi ob n wt br w h0 h1
  · exact ch10_calls xk xn xo xh x0 x1 x2 x3 x4 x5 x6 x7 xf xi ob n wt br w h0 h1
  · exact ch11_calls xk xn xo xh x0 x1 x2 x3 x4 x5 x6 x7 xf xi ob n wt br w h0 h1
  · exact ch12_calls xk xn xo xh x0 x1 x2 x3 x4 x5 x6 x7 xf xi ob n wt br w h0 h1
  · exact ch13_calls xk xn xo xh x0 x1 x2 x3 x4 x5 x6 x7 xf xi ob n wt br w h0 h1
  · exact ch14_calls xk xn xo xh x0 x1 x2 x3 x4 x5 x6 x7 xf xi ob n wt br w h0 h1
  · exact ch15_calls xk xn xo xh x0 x1 x2 x3 x4 x5 x6 x7 xf xi ob n wt br w h0 h1
end Go.Proofs.Ytegjkheecbmioaa
