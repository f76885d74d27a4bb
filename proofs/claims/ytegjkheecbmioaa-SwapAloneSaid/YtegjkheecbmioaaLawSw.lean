/- The law of swaps done alone, walked. -/
import Derived.Test.YtegjkheecbmioaaSwQ
import Derived.Test.YtegjkheecbmioaaOpA
namespace Go.Proofs.Ytegjkheecbmioaa
open Go.RowKit
set_option linter.unusedVariables false
set_option linter.unusedSimpArgs false

theorem pc_lit {w : World} {cs : Array Value} (xs : List PC) (h : cs.toList = xs.flatMap PC.enc) (hl : xs.length ≤ 1000) : kPC.C (w.heap.size ≤ ·) (w.alloc (.cells cs 35)) (some ⟨w.heap.size, 0, none⟩) xs := by
  have hs : cs.size = xs.length * 6 := by
    rw [← Array.length_toList, h]
    exact flat_len (enc := PC.enc) (sz := 6) (fun _ => rfl) xs
  have h1 := World.ownsRow_lit (base := w.heap.size) (size := 6) (e := 35) w cs xs.length (Nat.le_refl _) (by unfold maxLen; omega) hs
  rw [h] at h1
  obtain ⟨A, c, e, _, hc⟩ := C_of_own (enc := PC.enc) (hl := fun _ => rfl) (h1 := by intro x u hu; simp [PC.enc] at hu; rcases hu with rfl | rfl | rfl | rfl | rfl | rfl <;> rfl) (h0 := by decide) (ok := (w.heap.size ≤ ·)) h1 (fun k hk => own_base h1 k hk)
  simp only [Value.slice.injEq] at e
  rw [e.1]
  exact hc
theorem swPlays {oks okt : Nat → Prop} (A0 : Option Addr) (c0 : Nat) (w : World) (hC0 : kStr.C okt w A0 textsSw) (script : List PC) (As : Option Addr) (cs : Nat) (hS : kPC.C oks w As script) (hr : ∀ c ∈ script, -9223372036854775808 ≤ c.t ∧ c.t ≤ 9223372036854775807) :
    Calls Try.prog 10 #[.slice A0 textsSw.length c0, .agg #[.int .i64 5, .bool false, .int .i64 0], .slice As script.length cs] w fun e w' => e = .returned (.bool true) ∧ Below w.heap.size w w' := by
  obtain ⟨c, l, hA, hmay, hcl, hall⟩ := sw_code
  exact Plays_calls textsSw A0 c0 w hC0 (by simp [textsSw]) sw_sizes.1 sw_sizes.2.1 sw_sizes.2.2 c l hA hcl 5 0 false script As cs hS hr swInv ⟨rfl, rfl, rfl, 0, Nat.le_refl _, rfl, fun i v hv => hv⟩ swInv_up (sw_step hmay hall) (by decide)
set_option maxRecDepth 100000 in
set_option maxHeartbeats 1600000 in
theorem upSw_calls (w : World) : Calls Try.prog 12 #[] w fun e w' => e = .returned (.bool true) ∧ Below w.heap.size w w' := by
  go_enter Try.func12, Try.ntmps12
  go_wp2_with fail
  refine (TextsSw_calls _).mono ?_
  rintro e w1 ⟨A, c, rfl, hC, hb⟩
  have HC := Lib.hid hC
  have HB := Lib.hid hb
  clear hC hb
  go_wp2_with fail
  have hS := pc_lit (w := w1) (cs := #[.int .i64 0, .int .i64 19, .int .i64 0, .int .i64 5, .int .i64 0, .bool false, .int .i64 1, .int .i64 19, .int .i64 0, .int .i64 7, .int .i64 0, .bool false]) [⟨0, 19, 0, 5, 0, false⟩, ⟨1, 19, 0, 7, 0, false⟩] rfl (by decide)
  refine (swPlays A c _ (HC.out.below (below_alloc (Below.refl _ _) _)) [⟨0, 19, 0, 5, 0, false⟩, ⟨1, 19, 0, 7, 0, false⟩] _ 2 hS (by decide)).mono ?_
  rintro e w2 ⟨rfl, hb2⟩
  have HB2 := Lib.hid (below_step (below_alloc HB.out _) hb2)
  clear hb2 hS HC
  go_wp2_with fail
  go_ret
  exact ⟨rfl, HB2.out⟩
set_option maxRecDepth 100000 in
set_option maxHeartbeats 1600000 in
theorem swapAlone_row (v : Value) (W : World) (h : IsCalls W v) : Calls Try.prog 4 #[v] W fun e W' => e = .returned (.bool true) ∧ Below W.heap.size W W' := by
  obtain ⟨l, A, c, rfl, hS, hr⟩ := h
  have HS := Lib.hid hS
  have HR := Lib.hid hr
  clear hS hr
  go_enter Try.func4, Try.ntmps4
  go_wp2_with fail
  refine (upSw_calls _).mono ?_
  rintro e w1 ⟨rfl, hb1⟩
  have B1 := Lib.hid hb1
  clear hb1
  go_wp2_with fail
  refine (TextsSw_calls _).mono ?_
  rintro e w2 ⟨A2, c2, rfl, hC, hb⟩
  have HC := Lib.hid hC
  have B2 := Lib.hid (below_step B1.out hb)
  clear hC hb
  go_wp2_with fail
  refine (swPlays A2 c2 _ HC.out l A c (HS.out.below B2.out) HR.out).mono ?_
  rintro e w3 ⟨rfl, hb3⟩
  have B3 := Lib.hid (below_step B2.out hb3)
  clear hb3
  go_wp2_with fail
  go_ret
  exact ⟨rfl, B3.out⟩
end Go.Proofs.Ytegjkheecbmioaa
