/- Bytes of a script, and back: the plain law of layer 6. Of no program. -/
import Derived.Test.YtikfkkinhipfjaaGet
namespace Go.Proofs.Ytikfkkinhipfjaa
set_option linter.unusedVariables false
set_option linter.unusedSimpArgs false

theorem rdN_leb : ∀ (m v : Nat), v ≤ m → ∀ (i U : Nat) (r : List Nat), i < 10 → (0 < i → v ≠ 0) → v * 128 ^ i < 18446744073709551616 → rdN i U (leb v ++ r) = some (U + v * 128 ^ i, r)
  | m, v, hm, i, U, r, hi, h0, hb => by
    have h9 : i = 9 → v ≤ 1 := by
      intro e
      subst e
      have e9 : (128 : Nat) ^ 9 = 9223372036854775808 := by decide
      rw [e9] at hb
      omega
    by_cases h1 : v < 128
    · rw [leb_lt h1]
      exact rdN_last i U v r hi (by omega) h1
    · rw [leb_ge (by omega), List.cons_append, rdN_more i U _ _ hi (by omega) (by omega)]
      have hlt : i + 1 < 10 := by
        by_cases e : i = 9
        · have := h9 e; omega
        · omega
      have e1 : v / 128 * 128 ^ (i + 1) = (v / 128 * 128) * 128 ^ i := by rw [Nat.pow_succ, Nat.mul_comm (128 ^ i) 128, Nat.mul_assoc]
      have e2 : v / 128 * 128 ≤ v := Nat.div_mul_le_self _ _
      have e3 : (v / 128 * 128) * 128 ^ i ≤ v * 128 ^ i := Nat.mul_le_mul_right _ e2
      match m, hm with
      | 0, hm => omega
      | m + 1, hm =>
        rw [rdN_leb m (v / 128) (by omega) (i + 1) _ r hlt (by omega) (by rw [e1]; omega), e1]
        congr 2
        have e4 : (v % 128 + 128) % 128 = v % 128 := by omega
        rw [e4, Nat.add_assoc, ← Nat.add_mul]
        congr 2
        omega
theorem rdN_inv : ∀ (l : List Nat) (i U u : Nat) (r : List Nat), i < 10 → (∀ x ∈ l, x < 256) → rdN i U l = some (u, r) → ∃ v, u = U + v * 128 ^ i ∧ l = leb v ++ r ∧ (0 < i → v ≠ 0) ∧ v * 128 ^ i < 18446744073709551616
  | [], i, U, u, r, hi, hx, h => by simp [rdN] at h
  | x :: l, i, U, u, r, hi, hx, h => by
    have hx0 := hx x (by simp)
    have hp := pow_le (i := i) (by omega)
    rw [rdN] at h
    split at h
    · omega
    split at h
    · cases h
    rename_i hs
    split at h
    · rename_i hlt
      simp only [Option.some.injEq, Prod.mk.injEq] at h
      obtain ⟨h1, h2⟩ := h
      subst h2
      refine ⟨x, h1.symm, by rw [leb_lt hlt]; rfl, by omega, ?_⟩
      by_cases h9 : i = 9
      · have : x ≤ 1 := by omega
        have := Nat.mul_le_mul_right (128 ^ i) this
        omega
      · have h8 : 128 ^ i ≤ 72057594037927936 := Nat.le_trans (Nat.pow_le_pow_right (by decide) (show i ≤ 8 by omega)) (by decide)
        have : x * 128 ^ i ≤ 127 * 128 ^ i := Nat.mul_le_mul_right _ (by omega)
        omega
    · rename_i hlt
      have hi9 : i < 9 := by omega
      obtain ⟨v, h1, h2, h3, h4⟩ := rdN_inv l (i + 1) _ u r (by omega) (fun y hy => hx y (by simp [hy])) h
      have e1 : v * 128 ^ (i + 1) = (v * 128) * 128 ^ i := by rw [Nat.pow_succ, Nat.mul_comm (128 ^ i) 128, Nat.mul_assoc]
      have hv := h3 (by omega)
      refine ⟨v * 128 + x % 128, ?_, ?_, by omega, ?_⟩
      · rw [h1, e1, Nat.add_mul]; omega
      · rw [leb_ge (by omega), h2]
        have e2 : (v * 128 + x % 128) % 128 + 128 = x := by omega
        have e3 : (v * 128 + x % 128) / 128 = v := by omega
        rw [e2, e3]
        rfl
      · rw [Nat.add_mul]
        rw [e1] at h4
        have h8 : 128 ^ i ≤ 72057594037927936 := Nat.le_trans (Nat.pow_le_pow_right (by decide) (show i ≤ 8 by omega)) (by decide)
        have e4 : (128 : Nat) ^ i ∣ 18446744073709551616 := by
          have : (18446744073709551616 : Nat) = 128 ^ i * (2 ^ (64 - 7 * i)) := by
            rw [show (128 : Nat) = 2 ^ 7 from rfl, ← Nat.pow_mul, ← Nat.pow_add, show 7 * i + (64 - 7 * i) = 64 by omega]
          exact ⟨_, this⟩
        obtain ⟨q, hq⟩ := e4
        have hpos : 0 < 128 ^ i := Nat.pow_pos (by decide)
        have h5 : v * 128 < q := by
          rw [hq, Nat.mul_comm (128 ^ i) q] at h4
          exact Nat.lt_of_mul_lt_mul_right h4
        have hq128 : 128 ∣ q := by
          have : q = 2 ^ (64 - 7 * i) := by
            have h6 : (18446744073709551616 : Nat) = 128 ^ i * (2 ^ (64 - 7 * i)) := by
              rw [show (128 : Nat) = 2 ^ 7 from rfl, ← Nat.pow_mul, ← Nat.pow_add, show 7 * i + (64 - 7 * i) = 64 by omega]
            rw [hq] at h6
            exact Nat.eq_of_mul_eq_mul_left hpos h6
          rw [this]
          exact ⟨2 ^ (57 - 7 * i), by rw [show (128 : Nat) = 2 ^ 7 from rfl, ← Nat.pow_add, show 7 + (57 - 7 * i) = 64 - 7 * i by omega]⟩
        obtain ⟨q', hq'⟩ := hq128
        have h7 : v < q' := by omega
        have h9 : v * 128 + x % 128 < q := by omega
        have h10 : (v * 128 + x % 128) * 128 ^ i < q * 128 ^ i := Nat.mul_lt_mul_of_pos_right h9 hpos
        rw [Nat.add_mul] at h10
        rw [hq, Nat.mul_comm (128 ^ i) q]
        exact h10
theorem unzig_zig (n : Int) : unzig (zig n) = n := by
  unfold zig unzig
  split
  · rw [if_pos (by omega)]; omega
  · rw [if_neg (by omega)]; omega
theorem zig_unzig (u : Nat) : zig (unzig u) = u := by
  unfold unzig
  split
  · unfold zig; rw [if_pos (by omega)]; omega
  · unfold zig; rw [if_neg (by omega)]; omega
theorem unzig_wf {u : Nat} (h : u < 18446744073709551616) : (Lit.int .i64 (unzig u)).wf = true := by
  refine wf_of ?_ ?_ <;> (unfold unzig; split <;> omega)
theorem rdNum_put {n : Int} (r : List Nat) (h : (Lit.int .i64 n).wf = true) : rdNum (some (numB n ++ r)) = (n, some r) := by
  have hb := bounds_i64 h
  have := rdN_leb (zig n) (zig n) (Nat.le_refl _) 0 0 r (by decide) (by omega) (by simpa using zig_lt hb.1 hb.2)
  simp only [Nat.pow_zero, Nat.mul_one, Nat.zero_add] at this
  simp only [rdNum, numB, this, unzig_zig]
theorem rdNum_inv {l l' : List Nat} (hx : ∀ x ∈ l, x < 256) (h : (rdNum (some l)).2 = some l') : l = numB (rdNum (some l)).1 ++ l' ∧ (Lit.int .i64 (rdNum (some l)).1).wf = true := by
  simp only [rdNum] at h ⊢
  cases hr : rdN 0 0 l with
  | none => simp [hr] at h
  | some p =>
    obtain ⟨u, l2⟩ := p
    simp only [hr, Option.some.injEq] at h ⊢
    subst h
    obtain ⟨v, h1, h2, _, h4⟩ := rdN_inv l 0 0 u l2 (by decide) hx hr
    simp only [Nat.pow_zero, Nat.mul_one, Nat.zero_add] at h1 h4
    subst h1
    exact ⟨by rw [numB, zig_unzig]; exact h2, unzig_wf h4⟩
theorem rdNum_empty : rdNum (some []) = (0, none) := rfl
theorem rdBool_put (b : Bool) (r : List Nat) : rdBool (some (numB (bitI b) ++ r)) = (b, some r) := by
  unfold rdBool
  rw [rdNum_put r (bit_wf b)]
  cases b <;> rfl
theorem rdBool_inv {l l' : List Nat} (hx : ∀ x ∈ l, x < 256) (h : (rdBool (some l)).2 = some l') : l = numB (bitI (rdBool (some l)).1) ++ l' := by
  unfold rdBool at h ⊢
  simp only at h ⊢
  split at h
  · cases h
  · rename_i h1
    obtain ⟨h2, _⟩ := rdNum_inv hx h
    have e : bitI ((rdNum (some l)).1 == 1) = (rdNum (some l)).1 := by
      have : (rdNum (some l)).1 = 0 ∨ (rdNum (some l)).1 = 1 := by omega
      rcases this with e | e <;> rw [e] <;> rfl
    rw [e]
    exact h2
theorem suffix_byte {l a b : List Nat} (h : l = a ++ b) (hx : ∀ x ∈ l, x < 256) : ∀ x ∈ b, x < 256 := fun x hb => hx x (by rw [h]; exact List.mem_append_right _ hb)
theorem rdNum_none : rdNum none = (0, none) := rfl
theorem rdBool_none : rdBool none = (false, none) := by simp [rdBool, rdNum]
/-! forward -/
theorem obF_put (o : Ob) (acc : List Ob) (r : List Nat) (h : ∀ n ∈ obN o, (Lit.int .i64 n).wf = true) : obF (some (numsB (obN o) ++ r), acc) = (some r, acc ++ [o]) := by
  have e : numsB (obN o) ++ r = numB o.kind ++ (numB (bitI o.fair) ++ (numB o.n ++ r)) := by simp [numsB, obN]
  rw [e]
  simp only [obF, rdNum_put _ (h o.kind (by simp [obN])), rdBool_put, rdNum_put _ (h o.n (by simp [obN]))]
theorem clF_put (o : Cl) (acc : List Cl) (r : List Nat) (h : ∀ n ∈ clN o, (Lit.int .i64 n).wf = true) : clF (some (numsB (clN o) ++ r), acc) = (some r, acc ++ [o]) := by
  have e : numsB (clN o) ++ r = numB o.kind ++ (numB o.obj ++ (numB o.n ++ (numB o.wait ++ (numB (bitI o.breaks) ++ r)))) := by simp [numsB, clN]
  rw [e]
  simp only [clF, rdNum_put _ (h o.kind (by simp [clN])), rdNum_put _ (h o.obj (by simp [clN])), rdNum_put _ (h o.n (by simp [clN])), rdNum_put _ (h o.wait (by simp [clN])), rdBool_put]
theorem pkF_put (o : Pk) (acc : List Pk) (r : List Nat) (h : ∀ n ∈ pkN o, (Lit.int .i64 n).wf = true) : pkF (some (numsB (pkN o) ++ r), acc) = (some r, acc ++ [o]) := by
  have e : numsB (pkN o) ++ r = numB o.kind ++ (numB o.n ++ r) := by simp [numsB, pkN]
  rw [e]
  simp only [pkF, rdNum_put _ (h o.kind (by simp [pkN])), rdNum_put _ (h o.n (by simp [pkN]))]
theorem manyF_put {α : Type} {f : Option (List Nat) × List α → Option (List Nat) × List α} {g : α → List Int} (hf : ∀ o acc r, (∀ n ∈ g o, (Lit.int .i64 n).wf = true) → f (some (numsB (g o) ++ r), acc) = (some r, acc ++ [o])) :
    ∀ (l acc : List α) (r : List Nat), (∀ o ∈ l, ∀ n ∈ g o, (Lit.int .i64 n).wf = true) → manyF f l.length (some (numsB (l.flatMap g) ++ r), acc) = (some r, acc ++ l)
  | [], acc, r, _ => by simp [manyF, numsB]
  | o :: l, acc, r, h => by
    rw [List.length_cons, manyF, if_neg (by simp), List.flatMap_cons, numsB_append, List.append_assoc, hf o acc _ (h o (by simp)), manyF_put hf l _ r (fun x hx => h x (by simp [hx]))]
    simp
theorem listF_put {α : Type} {f : Option (List Nat) × List α → Option (List Nat) × List α} {g : α → List Int} (hf : ∀ o acc r, (∀ n ∈ g o, (Lit.int .i64 n).wf = true) → f (some (numsB (g o) ++ r), acc) = (some r, acc ++ [o]))
    (l : List α) (r : List Nat) (hl : l.length ≤ 65536) (h : ∀ o ∈ l, ∀ n ∈ g o, (Lit.int .i64 n).wf = true) : listF f (some (numB (l.length : Int) ++ (numsB (l.flatMap g) ++ r)), []) = (some r, l) := by
  unfold listF
  simp only
  rw [rdNum_put _ (wf_of (by omega) (by omega)), if_neg (by simp; omega)]
  simp only [Int.toNat_natCast]
  rw [manyF_put hf l [] r h]
  simp
theorem rowF_put (o : List Cl) (acc : List (List Cl)) (r : List Nat) (hl : o.length ≤ 65536) (h : ∀ n ∈ rowN o, (Lit.int .i64 n).wf = true) : rowF (some (numsB (rowN o) ++ r), acc) = (some r, acc ++ [o]) := by
  have e : numsB (rowN o) ++ r = numB (o.length : Int) ++ (numsB (o.flatMap clN) ++ r) := by simp [numsB, rowN]
  rw [e]
  simp only [rowF, listF_put clF_put o r hl (fun x hx n hn => h n (by rw [rowN]; exact List.mem_cons_of_mem _ (List.mem_flatMap.2 ⟨x, hx, hn⟩)))]
theorem manyF_rows : ∀ (l acc : List (List Cl)) (r : List Nat), (∀ o ∈ l, o.length ≤ 65536 ∧ ∀ n ∈ rowN o, (Lit.int .i64 n).wf = true) → manyF rowF l.length (some (numsB (l.flatMap rowN) ++ r), acc) = (some r, acc ++ l)
  | [], acc, r, _ => by simp [manyF, numsB]
  | o :: l, acc, r, h => by
    rw [List.length_cons, manyF, if_neg (by simp), List.flatMap_cons, numsB_append, List.append_assoc, rowF_put o acc _ (h o (by simp)).1 (h o (by simp)).2, manyF_rows l _ r (fun x hx => h x (by simp [hx]))]
    simp
theorem getS_put {s : Scr} (hc : checkE s = none) (r : List Nat) : getS (putB s ++ r) = (some r, s) := by
  obtain ⟨n0, n1, n2, n3, b0, b1, b2⟩ := check_bounds hc
  have e : putB s ++ r = numB (s.objs.length : Int) ++ (numsB (s.objs.flatMap obN) ++ (numB (s.progs.length : Int) ++ (numsB (s.progs.flatMap rowN) ++ (numB (s.picks.length : Int) ++ (numsB (s.picks.flatMap pkN) ++ r))))) := by
    simp [putB, scrN, numsB_append, numsB]
  have w0 := fun o ho => ob_wf (b0 o ho)
  have w2 := fun o ho => pk_wf (b2 o ho)
  have w1 : ∀ l ∈ s.progs, l.length ≤ 65536 ∧ ∀ n ∈ rowN l, (Lit.int .i64 n).wf = true := fun l hl => by
    have := n2 l hl
    refine ⟨by omega, fun n hn => ?_⟩
    rw [rowN, List.mem_cons] at hn
    rcases hn with rfl | hn
    · exact wf_of (by omega) (by omega)
    · obtain ⟨o, ho, hn⟩ := List.mem_flatMap.1 hn
      exact cl_wf n0 (b1 l hl o ho) n hn
  rw [e]
  unfold getS
  simp only
  rw [listF_put obF_put s.objs _ (by omega) w0]
  simp only
  have h2 : listF rowF (some (numB (s.progs.length : Int) ++ (numsB (s.progs.flatMap rowN) ++ (numB (s.picks.length : Int) ++ (numsB (s.picks.flatMap pkN) ++ r)))), []) = (some (numB (s.picks.length : Int) ++ (numsB (s.picks.flatMap pkN) ++ r)), s.progs) := by
    unfold listF
    simp only
    rw [rdNum_put _ (wf_of (by omega) (by omega)), if_neg (by simp; omega)]
    simp only [Int.toNat_natCast]
    rw [manyF_rows s.progs [] _ w1]
    simp
  rw [h2]
  simp only
  rw [listF_put pkF_put s.picks r (by omega) w2]
theorem getR_put {s : Scr} (hc : checkE s = none) : getR (putB s) = (none, s) := by
  have := getS_put hc []
  rw [List.append_nil] at this
  unfold getR
  rw [this]
  simp [hc]
theorem getR_more {s : Scr} (hc : checkE s = none) (x : Nat) : getR (putB s ++ [x]) = (some 2, noS) := by
  unfold getR
  rw [getS_put hc]
  simp
/-! back -/
theorem obF_inv {l l' : List Nat} {acc : List Ob} (hx : ∀ x ∈ l, x < 256) (h : (obF (some l, acc)).1 = some l') : ∃ o, (obF (some l, acc)).2 = acc ++ [o] ∧ l = numsB (obN o) ++ l' ∧ ∀ n ∈ obN o, (Lit.int .i64 n).wf = true := by
  simp only [obF] at h ⊢
  refine ⟨_, rfl, ?_⟩
  cases h1 : (rdNum (some l)).2 with
  | none => rw [h1, rdBool_none, rdNum_none] at h; cases h
  | some l1 =>
    rw [h1] at h
    try rw [h1]
    obtain ⟨e1, w1⟩ := rdNum_inv hx h1
    have x1 := suffix_byte e1 hx
    cases h2 : (rdBool (some l1)).2 with
    | none => rw [h2, rdNum_none] at h; cases h
    | some l2 =>
      rw [h2] at h
      try rw [h2]
      have e2 := rdBool_inv x1 h2
      have x2 := suffix_byte e2 x1
      obtain ⟨e3, w3⟩ := rdNum_inv x2 h
      have : numsB (obN ⟨(rdNum (some l)).1, (rdBool (some l1)).1, (rdNum (some l2)).1⟩) ++ l' = numB (rdNum (some l)).1 ++ (numB (bitI (rdBool (some l1)).1) ++ (numB (rdNum (some l2)).1 ++ l')) := by simp [numsB, obN]
      refine ⟨by rw [this, ← e3, ← e2, ← e1], fun n hn => ?_⟩
      simp only [obN, List.mem_cons, List.not_mem_nil, or_false] at hn
      rcases hn with rfl | rfl | rfl
      · exact w1
      · exact bit_wf _
      · exact w3
theorem pkF_inv {l l' : List Nat} {acc : List Pk} (hx : ∀ x ∈ l, x < 256) (h : (pkF (some l, acc)).1 = some l') : ∃ o, (pkF (some l, acc)).2 = acc ++ [o] ∧ l = numsB (pkN o) ++ l' ∧ ∀ n ∈ pkN o, (Lit.int .i64 n).wf = true := by
  simp only [pkF] at h ⊢
  refine ⟨_, rfl, ?_⟩
  cases h1 : (rdNum (some l)).2 with
  | none => rw [h1, rdNum_none] at h; cases h
  | some l1 =>
    rw [h1] at h
    try rw [h1]
    obtain ⟨e1, w1⟩ := rdNum_inv hx h1
    have x1 := suffix_byte e1 hx
    obtain ⟨e2, w2⟩ := rdNum_inv x1 h
    have : numsB (pkN ⟨(rdNum (some l)).1, (rdNum (some l1)).1⟩) ++ l' = numB (rdNum (some l)).1 ++ (numB (rdNum (some l1)).1 ++ l') := by simp [numsB, pkN]
    refine ⟨by rw [this, ← e2, ← e1], fun n hn => ?_⟩
    simp only [pkN, List.mem_cons, List.not_mem_nil, or_false] at hn
    rcases hn with rfl | rfl
    · exact w1
    · exact w2
theorem clF_inv {l l' : List Nat} {acc : List Cl} (hx : ∀ x ∈ l, x < 256) (h : (clF (some l, acc)).1 = some l') : ∃ o, (clF (some l, acc)).2 = acc ++ [o] ∧ l = numsB (clN o) ++ l' ∧ ∀ n ∈ clN o, (Lit.int .i64 n).wf = true := by
  simp only [clF] at h ⊢
  refine ⟨_, rfl, ?_⟩
  cases h1 : (rdNum (some l)).2 with
  | none => rw [h1, rdNum_none, rdNum_none, rdNum_none, rdBool_none] at h; cases h
  | some l1 =>
    rw [h1] at h
    try rw [h1]
    obtain ⟨e1, w1⟩ := rdNum_inv hx h1
    have x1 := suffix_byte e1 hx
    cases h2 : (rdNum (some l1)).2 with
    | none => rw [h2, rdNum_none, rdNum_none, rdBool_none] at h; cases h
    | some l2 =>
      rw [h2] at h
      try rw [h2]
      obtain ⟨e2, w2⟩ := rdNum_inv x1 h2
      have x2 := suffix_byte e2 x1
      cases h3 : (rdNum (some l2)).2 with
      | none => rw [h3, rdNum_none, rdBool_none] at h; cases h
      | some l3 =>
        rw [h3] at h
        try rw [h3]
        obtain ⟨e3, w3⟩ := rdNum_inv x2 h3
        have x3 := suffix_byte e3 x2
        cases h4 : (rdNum (some l3)).2 with
        | none => rw [h4, rdBool_none] at h; cases h
        | some l4 =>
          rw [h4] at h
          try rw [h4]
          obtain ⟨e4, w4⟩ := rdNum_inv x3 h4
          have x4 := suffix_byte e4 x3
          have e5 := rdBool_inv x4 h
          have : numsB (clN ⟨(rdNum (some l)).1, (rdNum (some l1)).1, (rdNum (some l2)).1, (rdNum (some l3)).1, (rdBool (some l4)).1⟩) ++ l' = numB (rdNum (some l)).1 ++ (numB (rdNum (some l1)).1 ++ (numB (rdNum (some l2)).1 ++ (numB (rdNum (some l3)).1 ++ (numB (bitI (rdBool (some l4)).1) ++ l')))) := by simp [numsB, clN]
          refine ⟨by rw [this, ← e5, ← e4, ← e3, ← e2, ← e1], fun n hn => ?_⟩
          simp only [clN, List.mem_cons, List.not_mem_nil, or_false] at hn
          rcases hn with rfl | rfl | rfl | rfl | rfl
          · exact w1
          · exact w2
          · exact w3
          · exact w4
          · exact bit_wf _
theorem manyF_inv {α : Type} {f : Option (List Nat) × List α → Option (List Nat) × List α} {g : α → List Int} (hn : ∀ acc, (f (none, acc)).1 = none) (hf : ∀ l l' acc, (∀ x ∈ l, x < 256) → (f (some l, acc)).1 = some l' → ∃ o, (f (some l, acc)).2 = acc ++ [o] ∧ l = numsB (g o) ++ l' ∧ ∀ n ∈ g o, (Lit.int .i64 n).wf = true) :
    ∀ (n : Nat) (l l' : List Nat) (acc : List α), (∀ x ∈ l, x < 256) → (manyF f n (some l, acc)).1 = some l' → ∃ new, (manyF f n (some l, acc)).2 = acc ++ new ∧ new.length = n ∧ l = numsB (new.flatMap g) ++ l' ∧ ∀ n ∈ new.flatMap g, (Lit.int .i64 n).wf = true
  | 0, l, l', acc, hx, h => by
    simp only [manyF, Option.some.injEq] at h
    exact ⟨[], by simp [manyF], rfl, by simp [numsB, h], by simp⟩
  | n + 1, l, l', acc, hx, h => by
    rw [manyF, if_neg (by simp)] at h ⊢
    cases h1 : (f (some l, acc)).1 with
    | none =>
      have e : f (some l, acc) = (none, (f (some l, acc)).2) := by rw [← h1]
      rw [e] at h
      cases n <;> simp [manyF] at h
    | some l1 =>
      obtain ⟨o, h2, h3, h3w⟩ := hf l l1 acc hx h1
      have e : f (some l, acc) = (some l1, acc ++ [o]) := by rw [← h1, ← h2]
      rw [e] at h ⊢
      obtain ⟨new, h4, h5, h6, h6w⟩ := manyF_inv hn hf n l1 l' (acc ++ [o]) (suffix_byte h3 hx) h
      refine ⟨o :: new, by rw [h4]; simp, by simp [h5], ?_, ?_⟩
      · rw [List.flatMap_cons, numsB_append, List.append_assoc, ← h6, ← h3]
      · intro n hn
        rw [List.flatMap_cons] at hn
        rcases List.mem_append.1 hn with h | h
        · exact h3w n h
        · exact h6w n h
theorem listF_inv {α : Type} {f : Option (List Nat) × List α → Option (List Nat) × List α} {g : α → List Int} (hn : ∀ acc, (f (none, acc)).1 = none) (hf : ∀ l l' acc, (∀ x ∈ l, x < 256) → (f (some l, acc)).1 = some l' → ∃ o, (f (some l, acc)).2 = acc ++ [o] ∧ l = numsB (g o) ++ l' ∧ ∀ n ∈ g o, (Lit.int .i64 n).wf = true)
    {l l' : List Nat} (hx : ∀ x ∈ l, x < 256) (h : (listF f (some l, [])).1 = some l') : l = numB ((listF f (some l, [])).2.length : Int) ++ (numsB ((listF f (some l, [])).2.flatMap g) ++ l') ∧ (listF f (some l, [])).2.length ≤ 65536 ∧ ∀ n ∈ (listF f (some l, [])).2.flatMap g, (Lit.int .i64 n).wf = true := by
  unfold listF at h ⊢
  simp only at h ⊢
  split at h
  · cases h
  · rename_i h1
    rw [if_neg h1]
    cases h2 : (rdNum (some l)).2 with
    | none =>
      rw [h2] at h
      exfalso
      revert h
      generalize (rdNum (some l)).1.toNat = k
      cases k <;> simp [manyF]
    | some l1 =>
      rw [h2] at h
      try rw [h2]
      obtain ⟨e1, _⟩ := rdNum_inv hx h2
      obtain ⟨new, h4, h5, h6, h6w⟩ := manyF_inv hn hf _ l1 l' [] (suffix_byte e1 hx) h
      rw [h4, List.nil_append, h5, ← h6, Int.toNat_of_nonneg (by omega)]
      exact ⟨e1, by omega, h6w⟩
theorem clF_none (acc : List Cl) : (clF (none, acc)).1 = none := by simp only [clF, rdNum_none, rdBool_none]
theorem obF_none (acc : List Ob) : (obF (none, acc)).1 = none := by simp only [obF, rdNum_none, rdBool_none]
theorem pkF_none (acc : List Pk) : (pkF (none, acc)).1 = none := by simp only [pkF, rdNum_none]
theorem listF_none {α : Type} {f : Option (List Nat) × List α → Option (List Nat) × List α} (acc : List α) : (listF f (none, acc)).1 = none := by
  have e : (rdNum (none : Option (List Nat))) = (0, none) := rfl
  unfold listF
  simp only [e]
  rw [if_neg (by omega)]
  rfl
theorem rowF_none (acc : List (List Cl)) : (rowF (none, acc)).1 = none := by simp only [rowF, listF_none]
theorem rowF_inv {l l' : List Nat} {acc : List (List Cl)} (hx : ∀ x ∈ l, x < 256) (h : (rowF (some l, acc)).1 = some l') : ∃ o, (rowF (some l, acc)).2 = acc ++ [o] ∧ l = numsB (rowN o) ++ l' ∧ ∀ n ∈ rowN o, (Lit.int .i64 n).wf = true := by
  simp only [rowF] at h ⊢
  refine ⟨_, rfl, ?_⟩
  obtain ⟨this, hl, hw⟩ := listF_inv clF_none (fun l l' acc => clF_inv) hx h
  have e : numsB (rowN (listF clF (some l, [])).2) ++ l' = numB ((listF clF (some l, [])).2.length : Int) ++ (numsB ((listF clF (some l, [])).2.flatMap clN) ++ l') := by simp [numsB, rowN]
  refine ⟨by rw [e, ← this], fun n hn => ?_⟩
  rw [rowN, List.mem_cons] at hn
  rcases hn with rfl | hn
  · exact wf_of (by omega) (by omega)
  · exact hw n hn
theorem getS_inv {l l' : List Nat} (hx : ∀ x ∈ l, x < 256) (h : (getS l).1 = some l') : l = putB (getS l).2 ++ l' ∧ ∀ n ∈ scrN (getS l).2, (Lit.int .i64 n).wf = true := by
  unfold getS at h ⊢
  simp only at h ⊢
  cases h1 : (listF obF (some l, [])).1 with
  | none => rw [h1, show (listF rowF (none, [])).1 = none from listF_none _, listF_none] at h; cases h
  | some l1 =>
    obtain ⟨e1, le1, we1⟩ := listF_inv obF_none (fun l l' acc => obF_inv) hx h1
    have e1' : l = (numB ((listF obF (some l, [])).2.length : Int) ++ numsB ((listF obF (some l, [])).2.flatMap obN)) ++ l1 := by rw [List.append_assoc]; exact e1
    have x1 := suffix_byte e1' hx
    rw [h1] at h
    try rw [h1]
    cases h2 : (listF rowF (some l1, [])).1 with
    | none => rw [h2, listF_none] at h; cases h
    | some l2 =>
      obtain ⟨e2, le2, we2⟩ := listF_inv rowF_none (fun l l' acc => rowF_inv) x1 h2
      have e2' : l1 = (numB ((listF rowF (some l1, [])).2.length : Int) ++ numsB ((listF rowF (some l1, [])).2.flatMap rowN)) ++ l2 := by rw [List.append_assoc]; exact e2
      have x2 := suffix_byte e2' x1
      rw [h2] at h
      try rw [h2]
      obtain ⟨e3, le3, we3⟩ := listF_inv pkF_none (fun l l' acc => pkF_inv) x2 h
      have e : putB ⟨(listF obF (some l, [])).2, (listF rowF (some l1, [])).2, (listF pkF (some l2, [])).2⟩ ++ l' = numB ((listF obF (some l, [])).2.length : Int) ++ (numsB ((listF obF (some l, [])).2.flatMap obN) ++ (numB ((listF rowF (some l1, [])).2.length : Int) ++ (numsB ((listF rowF (some l1, [])).2.flatMap rowN) ++ (numB ((listF pkF (some l2, [])).2.length : Int) ++ (numsB ((listF pkF (some l2, [])).2.flatMap pkN) ++ l'))))) := by
        simp [putB, scrN, numsB_append, numsB]
      refine ⟨by rw [e, ← e3, ← e2, ← e1], fun n hn => ?_⟩
      simp only [scrN, List.mem_append] at hn
      rcases hn with ((((hn | hn) | hn) | hn) | hn) | hn
      · rw [List.mem_singleton.1 hn]; exact wf_of (by omega) (by omega)
      · exact we1 n hn
      · rw [List.mem_singleton.1 hn]; exact wf_of (by omega) (by omega)
      · exact we2 n hn
      · rw [List.mem_singleton.1 hn]; exact wf_of (by omega) (by omega)
      · exact we3 n hn
theorem getR_inv {l : List Nat} {s : Scr} (hx : ∀ x ∈ l, x < 256) (h : getR l = (none, s)) : l = putB s ∧ checkE s = none := by
  unfold getR at h
  split at h
  · rename_i h1
    have this := (getS_inv hx h1).1
    split at h
    · rename_i h2
      simp only [Prod.mk.injEq, true_and] at h
      rw [h] at this h2
      exact ⟨by simpa using this, h2⟩
    · simp at h
  · simp at h
/-- Unlike scripts have unlike bytes. -/
theorem putB_inj {a b : Scr} (ha : checkE a = none) (hb : checkE b = none) (h : putB a = putB b) : a = b := by
  have h1 := getR_put ha
  rw [h, getR_put hb] at h1
  simpa using h1.symm
end Go.Proofs.Ytikfkkinhipfjaa
