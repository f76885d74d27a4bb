/- Numbers as bytes: the walks of pack.numbers, pack.bit and of the reference's number, truth. -/
import Derived.Test.YtikfkkinhipfjaaApp
import Derived.Test.YtikfkkinhipfjaaPlain
import Derived.OpenShut
import Derived.WalkKit
import Derived.LoopTactic
namespace Go.Proofs.Ytikfkkinhipfjaa
open Go.RowKit Go.ChangeShapes
set_option linter.unusedVariables false
set_option linter.unusedSimpArgs false

def zig (n : Int) : Nat := if n < 0 then (-(n + 1)).toNat * 2 + 1 else n.toNat * 2
def leb (u : Nat) : List Nat := if h : u < 128 then [u] else (u % 128 + 128) :: leb (u / 128)
termination_by u
decreasing_by omega
def byteV (u : Nat) : Value := .int .u8 u
def numB (n : Int) : List Nat := leb (zig n)
theorem bit_calls (b : Bool) (w : World) : Calls Try.prog 20 #[.bool b] w fun e w' => e = .returned (.int .i64 (if b then 1 else 0)) ∧ w = w' := by
  go_enter Try.func20, Try.ntmps20
  cases b
  all_goals
    go_wp2
    go_ret
    exact ⟨rfl, rfl⟩
theorem truth_calls (b : Bool) (w : World) : Calls Try.prog 45 #[.bool b] w fun e w' => e = .returned (.int .i64 (if b then 1 else 0)) ∧ w = w' := by
  go_enter Try.func45, Try.ntmps45
  cases b
  all_goals
    go_wp2
    go_ret
    exact ⟨rfl, rfl⟩
theorem leb_lt {u : Nat} (h : u < 128) : leb u = [u] := by rw [leb]; simp [h]
theorem leb_ge {u : Nat} (h : 128 ≤ u) : leb u = (u % 128 + 128) :: leb (u / 128) := by rw [leb]; simp [Nat.not_lt.2 h]
theorem leb_len : ∀ (k u : Nat), u < 128 ^ (k + 1) → (leb u).length ≤ k + 1
  | 0, u, h => by rw [leb_lt (by simpa using h)]; simp
  | k + 1, u, h => by
    by_cases h1 : u < 128
    · rw [leb_lt h1]; simp
    · rw [leb_ge (by omega)]
      have : u / 128 < 128 ^ (k + 1) := by rw [Nat.div_lt_iff_lt_mul (by decide)]; rw [Nat.pow_succ] at h; exact h
      have := leb_len k _ this
      simp only [List.length_cons]
      omega
theorem leb_len10 {u : Nat} (h : u < 18446744073709551616) : (leb u).length ≤ 10 := leb_len 9 u (by omega)
theorem zig_lt {n : Int} (h1 : -9223372036854775808 ≤ n) (h2 : n ≤ 9223372036854775807) : zig n < 18446744073709551616 := by unfold zig; split <;> omega
theorem zig_neg {n : Int} (h : n < 0) : (zig n : Int) = -(n + 1) * 2 + 1 := by unfold zig; rw [if_pos h]; omega
theorem zig_pos {n : Int} (h : ¬ n < 0) : (zig n : Int) = n * 2 := by unfold zig; rw [if_neg h]; omega
/-- What the loop over a number's bytes keeps. -/
structure LebInv (w : World) (n : Int) (u : Nat) (v : Value) (xs : List Nat) (wr : World) : Prop where
  lt : u < 18446744073709551616
  e : numB n = xs ++ leb u
  own : wr.ownsRow w.heap.size 5 1 v xs.length (xs.map byteV)
  bl : Below w.heap.size w wr
theorem LebInv.len {w : World} {n : Int} {u : Nat} {v : Value} {xs : List Nat} {wr : World} (h : LebInv w n u v xs wr) (hn : (numB n).length ≤ 10) : xs.length ≤ 10 := by
  have := congrArg List.length h.e
  simp only [List.length_append] at this
  omega
theorem one_ok (n : Int) : ∀ u ∈ [Value.int .u8 n], u.oneCell' = true := by intro u hu; rw [List.mem_singleton.1 hu]; rfl
theorem leb_grown {w wr w1 : World} {o : Obj} {v : Value} {n : Nat} {xs : List Value} {T sz : Nat} (hb : Below w.heap.size w wr) (ho : wr.ownsRow w.heap.size T sz v n xs) (g : (wr.alloc o).grownBy w1 v.ownBlock) : Below w.heap.size w w1 :=
  below_grown (below_alloc hb o) g (Nat.le_trans hb.size (by rw [alloc_size]; omega)) (fun k hk => own_base ho k hk)
theorem leb_more {w : World} {n : Int} {u : Nat} {v : Value} {xs : List Nat} {wr w1 : World} {o : Obj} {A : Option Addr} {c : Nat} (h : LebInv w n u v xs wr) (hu : 128 ≤ u)
    (ho : w1.ownsRow w.heap.size 5 1 (.slice A (xs.length + 1) c) (xs.length + 1) (xs.map byteV ++ [.int .u8 ((u : Int) % 128 + 128)])) (hg : (wr.alloc o).grownBy w1 v.ownBlock) :
    LebInv w n (u / 128) (.slice A (xs.length + 1) c) (xs ++ [u % 128 + 128]) w1 :=
  ⟨by have := h.lt; omega, by rw [h.e, leb_ge hu]; simp, by simpa [byteV] using ho, leb_grown h.bl h.own hg⟩
theorem leb_last {w : World} {n : Int} {u : Nat} {v : Value} {xs : List Nat} {wr w1 : World} {o : Obj} {A : Option Addr} {c : Nat} (h : LebInv w n u v xs wr) (hu : u < 128)
    (ho : w1.ownsRow w.heap.size 5 1 (.slice A (xs.length + 1) c) (xs.length + 1) (xs.map byteV ++ [.int .u8 (u : Int)])) (hg : (wr.alloc o).grownBy w1 v.ownBlock) :
    w1.ownsRow w.heap.size 5 1 (.slice A (xs.length + 1) c) (numB n).length ((numB n).map byteV) ∧ Below w.heap.size w w1 := by
  have e : numB n = xs ++ [u] := by rw [h.e, leb_lt hu]
  exact ⟨by rw [e]; simpa [byteV] using ho, leb_grown h.bl h.own hg⟩
theorem info_u8 : ∃ i, Try.prog.info? 5 = some i ∧ i.zero = some (.int .u8 0) ∧ i.size = 1 ∧ i.bytes = 1 := ⟨_, rfl, rfl, rfl, rfl⟩
set_option maxHeartbeats 1600000 in
theorem number_calls (n : Int) (hn : (Lit.int .i64 n).wf = true) (w : World) : Calls Try.prog 25 #[.int .i64 n] w fun e w' => ∃ v, e = .returned v ∧ w'.ownsRow w.heap.size 5 1 v (numB n).length ((numB n).map byteV) ∧ Below w.heap.size w w' := by
  have hb := bounds_i64 hn
  obtain ⟨b1, b2⟩ := hb
  have hl10 : (numB n).length ≤ 10 := leb_len10 (zig_lt b1 b2)
  have hzl := zig_lt b1 b2
  obtain ⟨i0, hi0, hz0, hs0, hb0⟩ := info_u8
  have u0 : Try.prog.underlying 29 = some (.slice 5) := Try.underlying29
  go_enter Try.func25, Try.ntmps25
  by_cases h0 : n < 0
  case' pos =>
    have hz := zig_neg h0
    go_wp2_with fail
    rw [← hz]
  case' neg =>
    have hz := zig_pos h0
    go_wp2_with fail
    rw [← hz]
  all_goals
    clear hz h0
    go_loopw [3, 4] (fun u v wr => ∃ (k : Nat) (xs : List Nat), u = .int .u64 k ∧ LebInv w n k v xs wr) (fun u _ _ => (intOf u).toNat)
    case atStart => exact ⟨zig n, [], rfl, hzl, rfl, World.ownsRow_nil _ _ _ _, Below.refl _ _⟩
    case round =>
      obtain ⟨k, xs, rfl, hI⟩ := hrel
      have hku := hI.lt
      have hx := hI.len hl10
      have hbs := hI.bl.size
      by_cases hk : 128 ≤ k
      · go_wp2_with (first | (at_builtin; refine wpList_append_uni rfl _ _ 29 rfl w.heap.size 5 i0 _ 1 1 u0 hi0 hz0 hs0 hb0 rfl (by decide) _ _ _ rfl (hI.own.alloc _) _ 1 [Value.int .u8 ((k : Int) % 128 + 128)] rfl rfl (Src.of_block (alloc_heap_at wr _) (one_ok _)) (by unfold maxLen; omega) (by omega) (Nat.le_trans hbs (by rw [alloc_size]; omega)) ?_) | fail)
        intro A c w1 o1 g1 h1
        have hJ := leb_more hI hk o1 g1
        go_wp2
        go_roundw
        case rel => exact ⟨_, _, by simp, hJ⟩
        case measure => simp [intOf]; omega
      · go_wp2_with (first | (at_builtin; refine wpList_append_uni rfl _ _ 29 rfl w.heap.size 5 i0 _ 1 1 u0 hi0 hz0 hs0 hb0 rfl (by decide) _ _ _ rfl (hI.own.alloc _) _ 1 [Value.int .u8 (k : Int)] rfl rfl (Src.of_block (alloc_heap_at wr _) (one_ok _)) (by unfold maxLen; omega) (by omega) (Nat.le_trans hbs (by rw [alloc_size]; omega)) ?_) | fail)
        intro A c w1 o1 g1 h1
        have hJ := leb_last hI (by omega) o1 g1
        go_wp2
        go_ret
        exact ⟨_, rfl, hJ⟩
end Go.Proofs.Ytikfkkinhipfjaa
