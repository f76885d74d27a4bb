/- Sums of small whole numbers as floats: exact. Of no program. -/
import Derived.Laws.FloatArith
import Derived.Laws.ComplexArith
import Derived.Laws.Cover2
namespace Go.Proofs.Ytjpllpebnjbgjaa.Flo
set_option linter.unusedVariables false
set_option linter.unusedSimpArgs false
open Ieee

theorem read_small : ∀ m : Fin 2001, ∀ neg : Bool, double.read (double.nearest neg m.val 0) =
    if m.val = 0 then Datum.number neg 0 (-1074) else Datum.number neg (m.val * 2 ^ (52 - m.val.log2)) ((m.val.log2 : Int) - 52) := by decide +kernel
theorem int_small : ∀ m : Fin 2001, floatToIntVal .f64 (floatOfInt .f64 (m.val : Int)) .i64 = some (m.val : Int) ∧ floatToIntVal .f64 (floatOfInt .f64 (-(m.val : Int))) .i64 = some (-(m.val : Int)) := by decide +kernel

theorem log2_mul_pow (m K : Nat) (hm : m ≠ 0) : (m * 2 ^ K).log2 = m.log2 + K := by
  have hne : m * 2 ^ K ≠ 0 := Nat.mul_ne_zero hm (by have := Nat.two_pow_pos K; omega)
  rw [Nat.log2_eq_iff hne]
  have h1 := Nat.log2_self_le hm
  have h2 : m < 2 ^ (m.log2 + 1) := Nat.lt_log2_self
  constructor
  · rw [Nat.pow_add]; exact Nat.mul_le_mul_right _ h1
  · rw [show m.log2 + K + 1 = (m.log2 + 1) + K from by omega, Nat.pow_add]
    exact Nat.mul_lt_mul_of_pos_right h2 (Nat.two_pow_pos K)
theorem cut_exact (neg : Bool) (n d : Nat) (_hn : n ≠ 0) (h : d ≤ n.log2 + 2) (hd : 2 ^ d ∣ n) : Toward.even.cut neg n d = n / 2 ^ d := by
  unfold Toward.cut
  simp only [Nat.min_eq_left h, Nat.shiftLeft_eq, Nat.one_mul]
  have hr : n % 2 ^ d = 0 := Nat.mod_eq_zero_of_dvd hd
  have hp := Nat.two_pow_pos d
  simp [hr]
theorem nearest_scaled (neg : Bool) (m K : Nat) (hm : m ≠ 0) (hl : m.log2 ≤ 51) : double.nearest neg (m * 2 ^ K) (-(K : Int)) = double.nearest neg m 0 := by
  have hlp : double.leastPlace = -1074 := by decide
  have hfb : double.fractionBits = 52 := rfl
  have hne : m * 2 ^ K ≠ 0 := Nat.mul_ne_zero hm (by have := Nat.two_pow_pos K; omega)
  unfold Format.nearest
  rw [if_neg hm, if_neg hne, log2_mul_pow m K hm, hlp, hfb]
  have hlast : max (-(K : Int) + ((m.log2 + K : Nat) : Int) - (52 : Nat)) (-1074) = (m.log2 : Int) - 52 := by omega
  have hlast0 : max ((0 : Int) + (m.log2 : Int) - (52 : Nat)) (-1074) = (m.log2 : Int) - 52 := by omega
  rw [hlast, hlast0]
  have e1 : Toward.even.cut neg (m <<< (0 - ((m.log2 : Int) - 52)).toNat) ((m.log2 : Int) - 52 - 0).toNat = m * 2 ^ (52 - m.log2) := by
    rw [show (0 - ((m.log2 : Int) - 52)).toNat = 52 - m.log2 from by omega, show ((m.log2 : Int) - 52 - 0).toNat = 0 from by omega, Nat.shiftLeft_eq]
    rw [cut_exact _ _ _ (Nat.mul_ne_zero hm (by have := Nat.two_pow_pos (52 - m.log2); omega)) (by omega) (by simp)]
    simp
  have e2 : Toward.even.cut neg ((m * 2 ^ K) <<< (-(K : Int) - ((m.log2 : Int) - 52)).toNat) ((m.log2 : Int) - 52 - -(K : Int)).toNat = m * 2 ^ (52 - m.log2) := by
    by_cases h : K ≤ 52 - m.log2
    · rw [show (-(K : Int) - ((m.log2 : Int) - 52)).toNat = 52 - m.log2 - K from by omega, show ((m.log2 : Int) - 52 - -(K : Int)).toNat = 0 from by omega, Nat.shiftLeft_eq]
      have : m * 2 ^ K * 2 ^ (52 - m.log2 - K) = m * 2 ^ (52 - m.log2) := by rw [Nat.mul_assoc, ← Nat.pow_add]; congr 2; omega
      rw [this, cut_exact _ _ _ (Nat.mul_ne_zero hm (by have := Nat.two_pow_pos (52 - m.log2); omega)) (by omega) (by simp)]
      simp
    · rw [show (-(K : Int) - ((m.log2 : Int) - 52)).toNat = 0 from by omega, show ((m.log2 : Int) - 52 - -(K : Int)).toNat = K - (52 - m.log2) from by omega, Nat.shiftLeft_zero]
      have hs : m * 2 ^ K = (m * 2 ^ (52 - m.log2)) * 2 ^ (K - (52 - m.log2)) := by rw [Nat.mul_assoc, ← Nat.pow_add]; congr 2; omega
      rw [cut_exact _ _ _ hne (by rw [log2_mul_pow m K hm]; omega) (by rw [hs]; exact Nat.dvd_mul_left _ _), hs, Nat.mul_div_cancel _ (Nat.two_pow_pos _)]
  show double.word neg (min (((m.log2 : Int) - 52 - -1074).toNat * double.binade + Toward.even.cut neg ((m * 2 ^ K) <<< (-(K : Int) - ((m.log2 : Int) - 52)).toNat) ((m.log2 : Int) - 52 - -(K : Int)).toNat) double.infRung) = double.word neg (min (((m.log2 : Int) - 52 - -1074).toNat * double.binade + Toward.even.cut neg (m <<< (0 - ((m.log2 : Int) - 52)).toNat) ((m.log2 : Int) - 52 - 0).toNat) double.infRung)
  rw [e1, e2]

/-- What is read of a small whole number, to a base. -/
theorem read_int (a : Int) (h : a.natAbs ≤ 2000) : ∃ M i, double.read (double.nearest (decide (a < 0)) a.natAbs 0) = Datum.number (decide (a < 0)) M i ∧ -1074 ≤ i ∧ i ≤ 0 ∧
    ∀ base : Int, base ≤ i → signed (decide (a < 0)) M (i - base).toNat = a * 2 ^ (-base).toNat := by
  have := read_small ⟨a.natAbs, by omega⟩ (decide (a < 0))
  simp only at this
  by_cases h0 : a.natAbs = 0
  · rw [if_pos h0] at this
    refine ⟨0, -1074, this, by omega, by omega, fun base hb => ?_⟩
    have : a = 0 := by omega
    subst this
    simp [signed]
  · rw [if_neg h0] at this
    have hlog : a.natAbs.log2 ≤ 10 := by
      have := (Nat.log2_lt h0 (k := 11)).2 (by omega)
      omega
    refine ⟨_, _, this, by omega, by omega, fun base hb => ?_⟩
    have hsh : (a.natAbs * 2 ^ (52 - a.natAbs.log2)) <<< ((a.natAbs.log2 : Int) - 52 - base).toNat = a.natAbs * 2 ^ (-base).toNat := by
      rw [Nat.shiftLeft_eq, Nat.mul_assoc, ← Nat.pow_add]
      congr 2
      omega
    unfold signed
    rw [hsh]
    by_cases hn : a < 0
    · simp only [hn, decide_true, if_true]
      rw [Int.natCast_mul, ← Int.neg_mul]
      congr 1
      omega
    · simp only [hn, decide_false]
      rw [if_neg (by simp), Int.natCast_mul]
      congr 1
      omega

theorem add_small (a b : Int) (ha : a.natAbs ≤ 2000) (hb : b.natAbs ≤ 2000) : floatBits .add .f64 (floatOfInt .f64 a) (floatOfInt .f64 b) = some (floatOfInt .f64 (a + b)) := by
  show double.add (double.nearest (decide (a < 0)) a.natAbs 0) (double.nearest (decide (b < 0)) b.natAbs 0) = some (double.nearest (decide (a + b < 0)) (a + b).natAbs 0)
  obtain ⟨M, i, hr, h1, h2, h3⟩ := read_int a ha
  obtain ⟨N, j, hs, k1, k2, k3⟩ := read_int b hb
  unfold Format.add
  rw [hr, hs]
  simp only [Datum.sum, h3 (min i j) (by omega), k3 (min i j) (by omega), Option.map_some, Format.write, ← Int.add_mul]
  generalize hbase : min i j = base
  have hb0 : base ≤ 0 := by omega
  obtain ⟨K, hK⟩ : ∃ K : Nat, base = -(K : Int) := ⟨base.natAbs, by omega⟩
  subst hK
  have hKn : (-(-(K : Int))).toNat = K := by omega
  rw [hKn]
  have hpz : (2 : Int) ^ K ≠ 0 := by
    have := Nat.two_pow_pos K
    have h : ((2 ^ K : Nat) : Int) = 2 ^ K := by simp
    omega
  have hpp : (0 : Int) < 2 ^ K := by
    have := Nat.two_pow_pos K
    have h : ((2 ^ K : Nat) : Int) = 2 ^ K := by simp
    omega
  by_cases hz : a + b = 0
  · rw [hz]
    have : (decide (a < 0) && decide (b < 0)) = false := by simp; omega
    simp [this, Format.nearest]
  · have hne : (a + b) * 2 ^ K ≠ 0 := Int.mul_ne_zero hz hpz
    rw [if_neg hne]
    have hab : ((a + b) * 2 ^ K).natAbs = (a + b).natAbs * 2 ^ K := by rw [Int.natAbs_mul, Int.natAbs_pow]; rfl
    have hlt : decide ((a + b) * 2 ^ K < 0) = decide (a + b < 0) := by
      rw [decide_eq_decide]
      constructor
      · intro h
        by_cases hh : a + b < 0
        · exact hh
        · have := Int.mul_nonneg (show (0 : Int) ≤ a + b by omega) (Int.le_of_lt hpp)
          omega
      · intro h
        exact Int.mul_neg_of_neg_of_pos h hpp
    rw [hab, hlt]
    have hlog : (a + b).natAbs.log2 ≤ 51 := by
      have := (Nat.log2_lt (show (a + b).natAbs ≠ 0 by omega) (k := 52)).2 (by omega)
      omega
    rw [nearest_scaled _ _ _ (by omega) hlog]
theorem int_of (c : Int) (h : c.natAbs ≤ 2000) : floatToIntVal .f64 (floatOfInt .f64 c) .i64 = some c := by
  have := int_small ⟨c.natAbs, by omega⟩
  simp only at this
  by_cases hc : c < 0
  · have e : -((c.natAbs : Nat) : Int) = c := by omega
    rw [e] at this
    exact this.2
  · have e : ((c.natAbs : Nat) : Int) = c := by omega
    rw [e] at this
    exact this.1
end Go.Proofs.Ytjpllpebnjbgjaa.Flo
