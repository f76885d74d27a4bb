/- The walk of tholelaw00.Code. -/
import Derived.Test.YtikfkkinhipfjaaRefC
namespace Go.Proofs.Ytikfkkinhipfjaa
open Go.RowKit
set_option linter.unusedVariables false
set_option linter.unusedSimpArgs false
def okE (e : Option Int) : Prop := ∀ c, e = some c → 1 ≤ c ∧ c ≤ 8
set_option maxHeartbeats 800000 in
theorem code_calls (e : Option Int) (he : okE e) (w : World) : Calls Try.prog 12 #[errV e] w fun r w' => r = .returned (.int .i64 (codeI e)) ∧ w = w' := by
  cases e with
  | none =>
    simp only [errV, codeI]
    go_enter Try.func12, Try.ntmps12
    go_wp2_with fail
    go_ret
    exact ⟨rfl, rfl⟩
  | some c =>
    have hc := he c rfl
    clear he
    simp only [errV, codeI]
    go_enter Try.func12, Try.ntmps12
    go_wp2_with fail
    go_loop [3] (fun v => ∃ k : Nat, (k : Int) ≤ c ∧ v = .int .i64 k) (fun v => 9 - (intOf v).toNat)
    case atStart => exact ⟨1, by omega, rfl⟩
    case round =>
      obtain ⟨k, hk, rfl⟩ := hrel
      by_cases e : c = (k : Int)
      · have e1 : (c == (k : Int)) = true := by simpa using e
        have e2 : Hid (c = (k : Int)) := Lib.hid e
        have h8 : (k : Int) ≤ 8 := by omega
        clear e
        go_wp2_with fail
        go_ret
        rw [e2.out]
        exact ⟨rfl, rfl⟩
      · have e1 : (c == (k : Int)) = false := by simpa using e
        have h8 : (k : Int) < 8 := by omega
        go_wp2_with fail
        go_round
        case rel => exact ⟨k + 1, by omega, by go_num⟩
        case measure => simp [intOf]; omega
end Go.Proofs.Ytikfkkinhipfjaa
