/- The walks of the small functions of the reference's layers 12 and 13. -/
import Derived.Test.YtegjkheecbmioaaStC
namespace Go.Proofs.Ytegjkheecbmioaa
open Go.RowKit
set_option linter.unusedVariables false
set_option linter.unusedSimpArgs false

def ofT : List Int := [0, 1, 1, 1, 2, 2, 2, 2, 3, 3, 4, 4, 4, 4, 4, 4, 1, 1, 1, 5]
def ofK (k : Int) : Int := if 0 ≤ k ∧ k < 20 then ofT.getD k.toNat 0 else 0
theorem tabv {α : Type} (l : List α) (f : α → Value) (d : α) (k : Int) (h0 : 0 ≤ k) (h1 : k < l.length) : ∀ (vs : List Value) (hv : vs = l.map f) (hb : k.toNat < vs.length), vs[k.toNat]'hb = f (l.getD k.toNat d) := by
  intro vs hv hb
  subst hv
  rw [List.getElem_map, List.getD_eq_getElem?_getD, List.getElem?_eq_getElem (by rw [List.length_map] at hb; exact hb)]
  rfl
set_option maxHeartbeats 800000 in
theorem Of_calls (k : Int) (w : World) : Calls Try.prog 23 #[.int .i64 k] w fun e w' => e = .returned (.int .i64 (ofK k)) ∧ Below w.heap.size w w' := by
  go_enter Try.func23, Try.ntmps23
  go_wp2
  · go_ret
    exact ⟨by rw [ofK, if_neg (by omega)]; rfl, by (repeat (with_reducible first | exact Below.refl _ _ | assumption | apply below_alloc | apply below_drewN | apply below_drew1 | (refine below_set ?_ (by simp only [alloc_size]; omega)) | (refine below_step ?_ (by assumption))))⟩
  · rename_i h0 h1
    go_ret
    refine ⟨?_, by (repeat (with_reducible first | exact Below.refl _ _ | assumption | apply below_alloc | apply below_drewN | apply below_drew1 | (refine below_set ?_ (by simp only [alloc_size]; omega)) | (refine below_step ?_ (by assumption))))⟩
    rw [ofK, if_pos ⟨by omega, by omega⟩]
    exact congrArg Ending.returned (tabv ofT (.int .i64) 0 k (by omega) (by simp [ofT]; omega) _ rfl _)
  · go_ret
    exact ⟨by rw [ofK, if_neg (by omega)]; rfl, by (repeat (with_reducible first | exact Below.refl _ _ | assumption | apply below_alloc | apply below_drewN | apply below_drew1 | (refine below_set ?_ (by simp only [alloc_size]; omega)) | (refine below_step ?_ (by assumption))))⟩
set_option maxHeartbeats 800000 in
theorem Value_calls (v : Int) (w : World) : Calls Try.prog 42 #[.int .i64 v] w fun e w' => e = .returned (.int .i64 (if v < 0 then wrap64 (-v) else v)) ∧ w = w' := by
  go_enter Try.func42, Try.ntmps42
  go_wp2
  all_goals
    go_ret
    exact ⟨by simp_all [IntKind.wrap_i64, wrap64], rfl⟩
def entT : List ByteArray := [⟨#[]⟩, ⟨#[111, 112, 46, 108, 111, 99, 107]⟩, ⟨#[111, 112, 46, 116, 114, 121]⟩, ⟨#[111, 112, 46, 117, 110, 108, 111, 99, 107]⟩, ⟨#[111, 112, 46, 97, 99, 113, 117, 105, 114, 101]⟩, ⟨#[111, 112, 46, 116, 114, 121, 115, 111, 109, 101]⟩, ⟨#[111, 112, 46, 114, 101, 108, 101, 97, 115, 101]⟩, ⟨#[111, 112, 46, 100, 114, 97, 105, 110]⟩, ⟨#[111, 112, 46, 97, 119, 97, 105, 116]⟩, ⟨#[111, 112, 46, 100, 111, 119, 110]⟩, ⟨#[111, 112, 46, 114, 101, 97, 100]⟩, ⟨#[111, 112, 46, 116, 114, 121, 114, 101, 97, 100]⟩, ⟨#[111, 112, 46, 117, 110, 114, 101, 97, 100]⟩, ⟨#[111, 112, 46, 119, 114, 105, 116, 101]⟩, ⟨#[111, 112, 46, 116, 114, 121, 119, 114, 105, 116, 101]⟩, ⟨#[111, 112, 46, 117, 110, 119, 114, 105, 116, 101]⟩, ⟨#[111, 112, 46, 119, 97, 105, 116]⟩, ⟨#[111, 112, 46, 115, 105, 103, 110, 97, 108]⟩, ⟨#[111, 112, 46, 115, 105, 103, 110, 97, 108, 97, 108, 108]⟩, ⟨#[111, 112, 46, 115, 119, 97, 112]⟩]
def entB (k : Int) : ByteArray := entT.getD k.toNat ⟨#[]⟩
set_option maxHeartbeats 800000 in
theorem Entry_calls (k : Int) (h1 : 1 ≤ k) (h2 : k < 20) (w : World) : Calls Try.prog 26 #[.int .i64 k] w fun e w' => e = .returned (.string (entB k)) ∧ Below w.heap.size w w' := by
  go_enter Try.func26, Try.ntmps26
  have d0 : decide (k < 1) = false := by simp; omega
  have d1 : decide ((20 : Int) ≤ k) = false := by simp; omega
  have hk : 0 ≤ k := by omega
  go_wp2
  go_ret
  refine ⟨?_, by (repeat (with_reducible first | exact Below.refl _ _ | assumption | apply below_alloc | apply below_drewN | apply below_drew1 | (refine below_set ?_ (by simp only [alloc_size]; omega)) | (refine below_step ?_ (by assumption))))⟩
  exact congrArg Ending.returned (tabv entT (.string) ⟨#[]⟩ k (by omega) (by simp [entT]; omega) _ rfl _)
def opV (k ob n wt : Int) (br : Bool) : Value := .agg #[.int .i64 k, .int .i64 ob, .int .i64 n, .int .i64 wt, .bool br]
def askB (k n : Int) : Int := if k = 4 ∨ k = 5 then -n else n
set_option maxHeartbeats 800000 in
theorem Asked_calls (k ob n wt : Int) (br : Bool) (h0 : 0 ≤ n) (h1 : n ≤ 1000) (w : World) : Calls Try.prog 27 #[opV k ob n wt br] w fun e w' => e = .returned (.int .i64 (askB k n)) ∧ Below w.heap.size w w' := by
  unfold opV
  have hw : IntKind.i64.wrap (-n) = -n := by rw [IntKind.wrap_i64]; omega
  go_enter Try.func27, Try.ntmps27
  go_wp2
  all_goals
    go_ret
    exact ⟨by simp_all [askB], by (repeat (with_reducible first | exact Below.refl _ _ | assumption | apply below_alloc | apply below_drewN | apply below_drew1 | (refine below_set ?_ (by simp only [alloc_size]; omega)) | (refine below_step ?_ (by assumption))))⟩
def pickP (c n : Int) : Int := (if c < 0 then -(c + 1) else c) % n
set_option maxHeartbeats 800000 in
theorem Pick_calls (c n : Int) (hn : n = 8 ∨ n = 2) (h0 : -9223372036854775808 ≤ c) (h1 : c ≤ 9223372036854775807) (w : World) : Calls Try.prog 24 #[.int .i64 c, .int .i64 n] w fun e w' => e = .returned (.int .i64 (pickP c n)) ∧ w = w' := by
  rcases hn with rfl | rfl
  all_goals
    go_enter Try.func24, Try.ntmps24
    go_wp2
    all_goals
      go_ret
      refine ⟨?_, rfl⟩
      first
        | (rw [pickP, if_neg (by omega)]; rfl)
        | (rw [pickP, if_pos (by omega), ← Int.tmod_eq_emod_of_nonneg (by omega), Int.neg_tmod]; rfl)
theorem pickP_bd (c n : Int) (hn : 0 < n) : 0 ≤ pickP c n ∧ pickP c n < n := ⟨Int.emod_nonneg _ (by omega), Int.emod_lt_of_pos _ hn⟩
structure Th where
  kind : Int
  n : Int
  owner : Int
  holds : Int
  r0 : Int
  r1 : Int
  r2 : Int
  r3 : Int
  r4 : Int
  r5 : Int
  r6 : Int
  r7 : Int
  offer : Int
  item : Int
deriving DecidableEq
def Th.enc (x : Th) : List Value := [.int .i64 x.kind, .int .i64 x.n, .int .i64 x.owner, .int .i64 x.holds, .int .i64 x.r0, .int .i64 x.r1, .int .i64 x.r2, .int .i64 x.r3, .int .i64 x.r4, .int .i64 x.r5, .int .i64 x.r6, .int .i64 x.r7, .slice none 0 0, .int .i64 x.offer, .int .i64 x.item]
def Th.v (x : Th) : Value := .agg #[.int .i64 x.kind, .int .i64 x.n, .int .i64 x.owner, .int .i64 x.holds, .int .i64 x.r0, .int .i64 x.r1, .int .i64 x.r2, .int .i64 x.r3, .int .i64 x.r4, .int .i64 x.r5, .int .i64 x.r6, .int .i64 x.r7, .slice none 0 0, .int .i64 x.offer, .int .i64 x.item]
def thNew (k n : Int) : Th := ⟨k, n, -1, 0, 0, 0, 0, 0, 0, 0, 0, 0, -1, 0⟩
set_option maxHeartbeats 800000 in
theorem ThNew_calls (k n : Int) (f : Bool) (w : World) : Calls Try.prog 22 #[.agg #[.int .i64 k, .bool f, .int .i64 n]] w fun e w' => e = .returned (thNew k n).v ∧ Below w.heap.size w w' := by
  unfold Th.v thNew
  go_enter Try.func22, Try.ntmps22
  go_wp2
  refine bodyPost_ret (v := (thNew k n).v) ?_ rfl ?_
  · simp [results, Try.results22, go_sem, Th.v, thNew]
  · exact ⟨rfl, by (repeat (with_reducible first | exact Below.refl _ _ | assumption | apply below_alloc | apply below_drewN | apply below_drew1 | (refine below_set ?_ (by simp only [alloc_size]; omega)) | (refine below_step ?_ (by assumption))))⟩
def mayO (k n : Int) (f : Bool) (kind : Int) : Bool := decide (k = kind) && decide (0 ≤ n) && decide (n ≤ 1000) && (decide (n = 0) || decide (kind = 2) || decide (kind = 3)) && (!f || decide (kind = 1) || decide (kind = 2) || decide (kind = 4))
set_option maxHeartbeats 1600000 in
theorem MayO_calls (k n kind : Int) (f : Bool) (w : World) : Calls Try.prog 9 #[.agg #[.int .i64 k, .bool f, .int .i64 n], .int .i64 kind] w fun e w' => e = .returned (.bool (mayO k n f kind)) ∧ Below w.heap.size w w' := by
  go_enter Try.func9, Try.ntmps9
  go_wp2
  all_goals
    go_ret
    exact ⟨by congr 2; simp only [mayO] at *; simp_all; try (first | omega | (rw [Bool.eq_iff_iff]; simp; omega)), by (repeat (with_reducible first | exact Below.refl _ _ | assumption | apply below_alloc | apply below_drewN | apply below_drew1 | (refine below_set ?_ (by simp only [alloc_size]; omega)) | (refine below_step ?_ (by assumption))))⟩
end Go.Proofs.Ytegjkheecbmioaa
