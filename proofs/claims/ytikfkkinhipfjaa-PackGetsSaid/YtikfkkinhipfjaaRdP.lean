/- Reading numbers back from bytes: the plain functions. Of no program. -/
import Derived.Test.YtikfkkinhipfjaaPut
import Derived.Laws.BitsAllLaws
import Derived.Laws.DeepNot64
namespace Go.Proofs.Ytikfkkinhipfjaa
open Go.RowKit Go.ChangeShapes
set_option linter.unusedVariables false
set_option linter.unusedSimpArgs false

/-- The next number of bytes: behind i bytes of it, that come to u. -/
def rdN (i u : Nat) : List Nat → Option (Nat × List Nat)
  | [] => none
  | x :: l => if 10 ≤ i then none else if (x = 0 ∧ 0 < i) ∨ (1 < x ∧ i = 9) then none else if x < 128 then some (u + x * 128 ^ i, l) else rdN (i + 1) (u + x % 128 * 128 ^ i) l
def unzig (u : Nat) : Int := if u % 2 = 1 then -((u / 2 : Nat) : Int) - 1 else ((u / 2 : Nat) : Int)
/-- A number that is read; none: something is amiss. -/
def rdNum (st : Option (List Nat)) : Int × Option (List Nat) := match st with
  | none => (0, none)
  | some l => match rdN 0 0 l with
    | none => (0, none)
    | some (u, l') => (unzig u, some l')
def rdBool (st : Option (List Nat)) : Bool × Option (List Nat) := ((rdNum st).1 == 1, if (rdNum st).1 < 0 ∨ 1 < (rdNum st).1 then none else (rdNum st).2)
def manyF {σ : Type} (f : Option (List Nat) × σ → Option (List Nat) × σ) : Nat → Option (List Nat) × σ → Option (List Nat) × σ
  | 0, s => s
  | n + 1, s => if s.1 = none then s else manyF f n (f s)
def listF {σ : Type} (f : Option (List Nat) × σ → Option (List Nat) × σ) (s : Option (List Nat) × σ) : Option (List Nat) × σ :=
  if (rdNum s.1).1 < 0 ∨ 65536 < (rdNum s.1).1 then (none, s.2) else manyF f (rdNum s.1).1.toNat ((rdNum s.1).2, s.2)
def obF (s : Option (List Nat) × List Ob) : Option (List Nat) × List Ob :=
  let a := rdNum s.1; let b := rdBool a.2; let c := rdNum b.2
  (c.2, s.2 ++ [⟨a.1, b.1, c.1⟩])
def clF (s : Option (List Nat) × List Cl) : Option (List Nat) × List Cl :=
  let a := rdNum s.1; let b := rdNum a.2; let c := rdNum b.2; let d := rdNum c.2; let e := rdBool d.2
  (e.2, s.2 ++ [⟨a.1, b.1, c.1, d.1, e.1⟩])
def rowF (s : Option (List Nat) × List (List Cl)) : Option (List Nat) × List (List Cl) :=
  let a := listF clF (s.1, [])
  (a.1, s.2 ++ [a.2])
def pkF (s : Option (List Nat) × List Pk) : Option (List Nat) × List Pk :=
  let a := rdNum s.1; let b := rdNum a.2
  (b.2, s.2 ++ [⟨a.1, b.1⟩])
def getS (l : List Nat) : Option (List Nat) × Scr :=
  let a := listF obF (some l, []); let b := listF rowF (a.1, []); let c := listF pkF (b.1, [])
  (c.1, ⟨a.2, b.2, c.2⟩)
theorem rdN_nil (i u : Nat) : rdN i u [] = none := rfl
theorem rdN_ten (i u : Nat) (l : List Nat) (h : 10 ≤ i) : rdN i u l = none := by cases l <;> simp [rdN, h]
theorem rdN_stop (i u x : Nat) (l : List Nat) (h : (x = 0 ∧ 0 < i) ∨ (1 < x ∧ i = 9)) : rdN i u (x :: l) = none := by simp [rdN, h]
theorem rdN_last (i u x : Nat) (l : List Nat) (hi : i < 10) (h : ¬ ((x = 0 ∧ 0 < i) ∨ (1 < x ∧ i = 9))) (hx : x < 128) : rdN i u (x :: l) = some (u + x * 128 ^ i, l) := by
  rw [rdN, if_neg (by omega), if_neg h, if_pos hx]
theorem rdN_more (i u x : Nat) (l : List Nat) (hi : i < 10) (h : ¬ ((x = 0 ∧ 0 < i) ∨ (1 < x ∧ i = 9))) (hx : 128 ≤ x) : rdN i u (x :: l) = rdN (i + 1) (u + x % 128 * 128 ^ i) l := by
  rw [rdN, if_neg (by omega), if_neg h, if_neg (by omega)]
theorem rdN_len : ∀ (l : List Nat) (i u v : Nat) (l' : List Nat), rdN i u l = some (v, l') → l'.length < l.length
  | [], i, u, v, l', h => by simp [rdN] at h
  | x :: l, i, u, v, l', h => by
    rw [rdN] at h
    split at h
    · cases h
    split at h
    · cases h
    split at h
    · simp only [Option.some.injEq, Prod.mk.injEq] at h
      rw [← h.2]; simp
    · have := rdN_len l _ _ _ _ h
      simp only [List.length_cons]; omega
theorem rdNum_len {st : Option (List Nat)} : ∀ l', (rdNum st).2 = some l' → ∃ l, st = some l ∧ l'.length < l.length := by
  intro l' h
  cases st with
  | none => simp [rdNum] at h
  | some l =>
    cases h1 : rdN 0 0 l with
    | none => simp [rdNum, h1] at h
    | some p =>
      obtain ⟨u, l2⟩ := p
      simp only [rdNum, h1, Option.some.injEq] at h
      subst h
      exact ⟨l, rfl, rdN_len _ _ _ _ _ h1⟩
theorem rdBool_len {st : Option (List Nat)} : ∀ l', (rdBool st).2 = some l' → ∃ l, st = some l ∧ l'.length < l.length := by
  intro l' h
  unfold rdBool at h
  simp only at h
  split at h
  · cases h
  · exact rdNum_len l' h
theorem pow_le {i : Nat} (h : i ≤ 9) : 128 ^ i ≤ 9223372036854775808 := Nat.le_trans (Nat.pow_le_pow_right (by decide) h) (by decide)
theorem rd_bound {i u x : Nat} (hi : i < 10) (hu : u < 128 ^ i) (hx : i = 9 → x ≤ 1) : u + x % 128 * 128 ^ i < 128 ^ (i + 1) ∧ u + x % 128 * 128 ^ i < 18446744073709551616 := by
  have h1 : x % 128 ≤ 127 := by omega
  have h2 : x % 128 * 128 ^ i ≤ 127 * 128 ^ i := Nat.mul_le_mul_right _ h1
  refine ⟨by rw [Nat.pow_succ]; omega, ?_⟩
  by_cases h9 : i = 9
  · have h3 : x % 128 ≤ 1 := by have := hx h9; omega
    have h4 : x % 128 * 128 ^ i ≤ 1 * 128 ^ i := Nat.mul_le_mul_right _ h3
    have := pow_le (i := i) (by omega)
    omega
  · have h5 : 128 ^ i ≤ 72057594037927936 := Nat.le_trans (Nat.pow_le_pow_right (by decide) (show i ≤ 8 by omega)) (by decide)
    omega
theorem rd_or {k U x : Nat} (hk : k < 10) (hU : U < 128 ^ k) (hx : x < 256) (h9 : k = 9 → x ≤ 1) :
    bits .or .u64 (U : Int) (IntKind.u64.wrap (IntKind.u64.wrap (bits .and .u8 (x : Int) 127) * 2 ^ (7 * k))) = ((U + x % 128 * 128 ^ k : Nat) : Int) := by
  have hb := rd_bound hk hU h9
  have e1 : bits .and .u8 (x : Int) 127 = ((x % 128 : Nat) : Int) := by
    have := u8_and_nat x 127 hx (by decide)
    rw [nat_mask7] at this
    exact this
  have e2 : (2 : Int) ^ (7 * k) = ((128 ^ k : Nat) : Int) := by rw [Int.pow_mul]; simp
  have e3 : IntKind.u64.wrap ((x % 128 : Nat) : Int) = ((x % 128 : Nat) : Int) := by rw [IntKind.wrap_u64]; omega
  have e4 : IntKind.u64.wrap (((x % 128 : Nat) : Int) * ((128 ^ k : Nat) : Int)) = ((x % 128 * 128 ^ k : Nat) : Int) := by
    rw [IntKind.wrap_u64, ← Int.natCast_mul]
    omega
  have e5 : x % 128 * 128 ^ k ||| U = x % 128 * 128 ^ k + U := by
    refine nat_join (7 * k) _ _ ?_ ?_
    · rw [Nat.pow_mul]; exact Nat.mul_mod_left _ _
    · rw [Nat.pow_mul]; exact hU
  rw [e1, e3, e2, e4, u64_or_nat _ _ (by omega) (by omega), Nat.or_comm, e5, Nat.add_comm]
theorem rd_or0 {U x : Nat} (hU : U < 128 ^ 0) (hx : x < 256) : bits .or .u64 (U : Int) (IntKind.u64.wrap (IntKind.u64.wrap (bits .and .u8 (x : Int) 127))) = ((U + x % 128 * 128 ^ 0 : Nat) : Int) := by
  have := rd_or (k := 0) (by decide) hU hx (by omega)
  simpa using this
theorem rd_unzig {V : Nat} (hV : V < 18446744073709551616) : bits .xor .i64 (wrap64 ((V : Int) / 2)) (wrap64 (-wrap64 (bits .and .u64 (V : Int) 1))) = unzig V := by
  have e1 : bits .and .u64 (V : Int) 1 = ((V % 2 : Nat) : Int) := by
    have := u64_and_nat V 1 hV (by decide)
    rw [nat_mask1] at this
    exact this
  have e2 : wrap64 ((V : Int) / 2) = ((V / 2 : Nat) : Int) := by unfold wrap64; omega
  rw [e1, e2]
  unfold unzig
  by_cases h : V % 2 = 1
  · rw [h, if_pos rfl]
    have e3 : wrap64 (-wrap64 ((1 : Nat) : Int)) = -1 := by unfold wrap64; omega
    have e4 : bits .xor .i64 ((V / 2 : Nat) : Int) (-1) = bits .xor .i64 (-1) ((V / 2 : Nat) : Int) := by
      show IntKind.i64.wrap ((BitVec.ofInt 64 ((V / 2 : Nat) : Int) ^^^ BitVec.ofInt 64 (-1)).toNat : Int) = IntKind.i64.wrap ((BitVec.ofInt 64 (-1) ^^^ BitVec.ofInt 64 ((V / 2 : Nat) : Int)).toNat : Int)
      rw [BitVec.xor_comm]
    rw [e3, e4, i64_not _ (by omega)]
    omega
  · rw [show V % 2 = 0 by omega, if_neg (by decide)]
    have e3 : wrap64 (-wrap64 ((0 : Nat) : Int)) = 0 := by unfold wrap64; omega
    rw [e3]
    show IntKind.i64.wrap ((BitVec.ofInt 64 ((V / 2 : Nat) : Int) ^^^ BitVec.ofInt 64 0).toNat : Int) = _
    rw [show BitVec.ofInt 64 0 = 0#64 from by decide, BitVec.xor_zero, ofInt_u64 _ (by omega)]
    simp [IntKind.wrap, IntKind.bits, IntKind.signed]
    omega
end Go.Proofs.Ytikfkkinhipfjaa
