/- The walks of the texts: codes, what is missing. -/
import Derived.Test.YtegjkheecbmioaaFnB
namespace Go.Proofs.Ytegjkheecbmioaa
open Go.RowKit
set_option linter.unusedVariables false
set_option linter.unusedSimpArgs false

/-- The strings that a function's code names. -/
def strsOp : Op → List ByteArray
  | .assign (.const (.string s)) => [s]
  | _ => []
def strsC : Code → List ByteArray
  | .region _ ops _ => ops.toList.flatMap (fun o => strsOp o.op)
  | .seq a b => strsC a ++ strsC b
  | .block _ c => strsC c
  | .scope c => strsC c
  | _ => []
noncomputable def lastStr (f : Func) : ByteArray := ((f.body.map strsC).getD []).getLast?.getD ⟨#[]⟩
noncomputable def codeQ : ByteArray := lastStr Try.f30
noncomputable def codeSm : ByteArray := lastStr Try.f31
noncomputable def codeSw : ByteArray := lastStr Try.f33
noncomputable def codeLt : ByteArray := lastStr Try.f34
noncomputable def codeRw : ByteArray := lastStr Try.f37
set_option maxRecDepth 100000 in
set_option maxHeartbeats 1600000 in
theorem CodeQ_calls (w : World) : Calls Try.prog 30 #[] w fun e w' => e = .returned (.string codeQ) ∧ w = w' := by
  go_enter Try.func30, Try.ntmps30
  go_wp2
  go_ret
  exact ⟨by kernel_rfl, rfl⟩
set_option maxRecDepth 100000 in
set_option maxHeartbeats 1600000 in
theorem CodeSm_calls (w : World) : Calls Try.prog 31 #[] w fun e w' => e = .returned (.string codeSm) ∧ w = w' := by
  go_enter Try.func31, Try.ntmps31
  go_wp2
  go_ret
  exact ⟨by kernel_rfl, rfl⟩
set_option maxRecDepth 100000 in
set_option maxHeartbeats 1600000 in
theorem CodeSw_calls (w : World) : Calls Try.prog 33 #[] w fun e w' => e = .returned (.string codeSw) ∧ w = w' := by
  go_enter Try.func33, Try.ntmps33
  go_wp2
  go_ret
  exact ⟨by kernel_rfl, rfl⟩
set_option maxRecDepth 100000 in
set_option maxHeartbeats 1600000 in
theorem CodeLt_calls (w : World) : Calls Try.prog 34 #[] w fun e w' => e = .returned (.string codeLt) ∧ w = w' := by
  go_enter Try.func34, Try.ntmps34
  go_wp2
  go_ret
  exact ⟨by kernel_rfl, rfl⟩
set_option maxRecDepth 100000 in
set_option maxHeartbeats 1600000 in
theorem CodeRw_calls (w : World) : Calls Try.prog 37 #[] w fun e w' => e = .returned (.string codeRw) ∧ w = w' := by
  go_enter Try.func37, Try.ntmps37
  go_wp2
  go_ret
  exact ⟨by kernel_rfl, rfl⟩
def trB (k : Int) : List ByteArray := if k = 1 then [⟨#[108, 111, 99, 107, 46, 116, 114, 121]⟩, ⟨#[108, 111, 99, 107, 46, 116, 114, 121, 102, 97, 105, 114]⟩] else if k = 2 then [⟨#[115, 101, 109, 97, 46, 116, 114, 121]⟩, ⟨#[115, 101, 109, 97, 46, 116, 114, 121, 102, 97, 105, 114]⟩] else if k = 3 then [⟨#[108, 97, 116, 99, 104, 46, 116, 114, 121]⟩] else [⟨#[114, 119, 46, 116, 114, 121, 119, 114, 105, 116, 101]⟩, ⟨#[114, 119, 46, 116, 114, 121, 119, 114, 105, 116, 101, 102, 97, 105, 114]⟩, ⟨#[114, 119, 46, 116, 114, 121, 114, 101, 97, 100]⟩, ⟨#[114, 119, 46, 116, 114, 121, 114, 101, 97, 100, 102, 97, 105, 114]⟩]
set_option maxRecDepth 100000 in
set_option maxHeartbeats 1600000 in
theorem Tries_calls (k : Int) (w : World) : Calls Try.prog 43 #[.int .i64 k] w fun e w' => e = .returned (.slice (some ⟨w.heap.size, 0, none⟩) (trB k).length (trB k).length) ∧ w' = w.alloc (.cells ((trB k).map .string).toArray 9) := by
  go_enter Try.func43, Try.ntmps43
  go_wp2
  all_goals
    go_ret
    simp_all [trB]
def missT : ByteArray := ⟨#[109, 111, 118, 32, 114, 48, 32, 114, 49, 53, 10, 109, 111, 118, 32, 114, 49, 32, 114, 49, 53, 10, 114, 101, 116, 10]⟩
def missF (o s : ByteArray) : ByteArray := o ++ s ++ ⟨#[58, 10]⟩
def missB (l : List ByteArray) : ByteArray := l.foldl missF ⟨#[]⟩ ++ missT
set_option maxRecDepth 100000 in
set_option maxHeartbeats 1600000 in
theorem Missing_calls {ok : Nat → Prop} (ts : List ByteArray) (A : Option Addr) (c : Nat) (w : World) (hC : kStr.C ok w A ts) (hn : ts.length ≤ 100) (hsz : ∀ t ∈ ts, t.size ≤ 1000) : Calls Try.prog 44 #[.slice A ts.length c] w fun e w' => e = .returned (.string (missB ts)) ∧ w = w' := by
  have HC := Lib.hid hC
  have HZ := Lib.hid hsz
  clear hC hsz
  go_enter Try.func44, Try.ntmps44
  go_wp2
  go_loopw [3, 4] (fun ov iv wr => ∃ (k : Nat) (o : ByteArray), iv = .int .i64 k ∧ k ≤ ts.length ∧ ov = .string o ∧ Hid (o = (ts.take k).foldl missF ⟨#[]⟩) ∧ o.size ≤ k * 1002 ∧ wr = w) (fun _ iv _ => ts.length - (intOf iv).toNat)
  case atStart => exact ⟨0, _, rfl, Nat.zero_le _, rfl, Lib.hid rfl, by decide, rfl⟩
  case round =>
    obtain ⟨k, o, rfl, hk, rfl, HO, hos, rfl⟩ := hrel
    by_cases hlt : k < ts.length
    · have d0 : decide ((k : Int) < (ts.length : Int)) = true := decide_eq_true (by omega)
      obtain ⟨ad, s, rfl, hs, hc⟩ := at_str' HC.out k hlt
      have hss : s.size ≤ 1000 := HZ.out s (List.mem_of_getElem? hs)
      have hstep : Hid (missF o s = (ts.take (k + 1)).foldl missF ⟨#[]⟩) := Lib.hid (by rw [List.take_add_one, hs, List.foldl_append, HO.out]; rfl)
      clear hs HO
      have e1 : ¬ 9223372036854775807 < o.size + s.size := by omega
      have e2 : ¬ 9223372036854775807 < o.size + s.size + 2 := by omega
      go_wp2
      go_roundw
      case rel => exact ⟨k + 1, _, by go_num, by omega, rfl, hstep, by simp only [missF, ByteArray.size_append]; have : (⟨#[58, 10]⟩ : ByteArray).size = 2 := rfl; omega, by trivial⟩
      case measure => simp [intOf]; omega
    · have hke : k = ts.length := by omega
      have d0 : decide ((k : Int) < (ts.length : Int)) = false := decide_eq_false (by omega)
      have hfin : Hid (o = ts.foldl missF ⟨#[]⟩) := Lib.hid (by rw [HO.out, hke, List.take_length])
      have e1 : ¬ 9223372036854775807 < o.size + 26 := by omega
      clear hke HO
      go_wp2
      go_ret
      exact ⟨by rw [missB, ← hfin.out]; rfl, rfl⟩
end Go.Proofs.Ytegjkheecbmioaa
