/- The walk of the reference's number. -/
import Derived.Test.YtegjkheecbmioaaTxD
namespace Go.Proofs.Ytegjkheecbmioaa
open Go.RowKit
set_option linter.unusedVariables false
set_option linter.unusedSimpArgs false

def digB (x : Nat) : Bool := decide (48 ≤ x) && decide (x ≤ 57)
def digV (l : List Nat) : Nat := l.foldl (fun a c => a * 10 + (c - 48)) 0
def unsB (l : List Nat) : Option Nat := if decide (1 ≤ l.length) && decide (l.length ≤ 18) && l.all digB then some (digV l) else none
def numB (l : List Nat) : Int × Bool := match l with
  | [] => (0, false)
  | x :: t => if x = 45 then (match unsB t with | some v => (-(v : Int), true) | none => (0, false)) else (match unsB l with | some v => ((v : Int), true) | none => (0, false))
theorem digV_step (l : List Nat) (k x : Nat) (h : l[k]? = some x) : digV (l.take (k + 1)) = digV (l.take k) * 10 + (x - 48) := by
  rw [List.take_add_one, h]
  simp [digV, List.foldl_append]
theorem digV_lt (l : List Nat) : l.all digB = true → digV l < 10 ^ l.length := by
  suffices h : ∀ (n : Nat) (l : List Nat), l.length = n → l.all digB = true → digV l < 10 ^ l.length from h _ l rfl
  intro n
  induction n with
  | zero => intro l hl _; rw [List.length_eq_zero_iff.1 hl]; simp [digV]
  | succ n ih =>
    intro l hl h
    have h0 : n < l.length := by omega
    have e : l = l.take n ++ [l[n]] := by
      have := List.take_succ_eq_append_getElem h0
      rw [← this, List.take_of_length_le (by omega)]
    generalize l[n] = x at e
    generalize hq : l.take n = q at e
    have hql : q.length = n := by rw [← hq]; simp; omega
    subst e
    rw [List.all_append, Bool.and_eq_true] at h
    have h1 := ih q hql h.1
    have hx : 48 ≤ x ∧ x ≤ 57 := by have := h.2; simp [digB] at this; exact this
    have : digV (q ++ [x]) = digV q * 10 + (x - 48) := by simp [digV, List.foldl_append]
    rw [this, List.length_append, List.length_singleton, Nat.pow_succ]
    omega
theorem digV_17 (l : List Nat) (k : Nat) (h : (l.take k).all digB = true) (hk : k ≤ 17) : digV (l.take k) ≤ 99999999999999999 := by
  have h1 := digV_lt _ h
  have h2 : (l.take k).length ≤ 17 := by simp; omega
  have h3 : 10 ^ (l.take k).length ≤ 10 ^ 17 := Nat.pow_le_pow_right (by decide) h2
  omega
/-- The loop over the digits, behind what was read of a sign. -/
theorem uns_no {l : List Nat} {k x : Nat} (h : l[k]? = some x) (hx : digB x = false) : unsB l = none := by
  unfold unsB
  rw [all_hit h hx]
  simp
theorem uns_yes {l : List Nat} (h1 : 1 ≤ l.length) (h2 : l.length ≤ 18) (h : l.all digB = true) : unsB l = some (digV l) := by
  unfold unsB
  rw [h, decide_eq_true h1, decide_eq_true h2]; rfl
def unsV (neg : Bool) (l : List Nat) : Int × Bool := match unsB l with | some v => (if neg then -(v : Int) else (v : Int), true) | none => (0, false)
theorem num_neg {l t : List Nat} (h : l = 45 :: t) : numB l = unsV true t := by subst h; simp [numB, unsV]
theorem num_pos {l : List Nat} (h : ∀ t, l ≠ 45 :: t) : numB l = unsV false l := by
  cases l with
  | nil => rfl
  | cons x t =>
    have : x ≠ 45 := fun e => h t (by rw [e])
    simp [numB, unsV, this]
def NumPost (w : World) (r : Int × Bool) (e : Ending) (w' : World) : Prop := e = .returned (.tuple #[.int .i64 r.1, .bool r.2]) ∧ w = w'
set_option maxRecDepth 100000 in
set_option maxHeartbeats 3200000 in
theorem number_pos (s2 : ByteArray) (w : World) (hs : s2.size ≤ 1000000) (h0 : s2.size = 0 ∨ ∃ h : 0 < s2.size, s2[0].toNat ≠ 45) : Calls Try.prog 62 #[.string s2] w (NumPost w (unsV false (nb s2))) := by
  rcases h0 with h0 | ⟨h0, h1⟩
  · have hv : unsV false (nb s2) = (0, false) := by
      have : nb s2 = [] := List.length_eq_zero_iff.1 (by rw [nb_len]; omega)
      rw [this]; rfl
    have d1 : decide ((0 : Int) < (s2.size : Int)) = false := decide_eq_false (by omega)
    have e1 : decide ((s2.size : Int) < 1) = true := decide_eq_true (by omega)
    rw [hv]
    clear hv
    go_enter Try.func62, Try.ntmps62
    go_wp2
    go_ret2
    exact ⟨rfl, rfl⟩
  have d1 : decide ((0 : Int) < (s2.size : Int)) = true := decide_eq_true (by omega)
  have d2 : ((s2[0].toNat : Int) == 45) = false := by simp; omega
  have hll := nb_len s2
  have HL := Lib.hid hll
  clear hll
  by_cases g1 : s2.size < 1
  · have e1 : decide ((s2.size : Int) < 1) = true := decide_eq_true (by omega)
    have hv : unsV false (nb s2) = (0, false) := by
      have : nb s2 = [] := List.length_eq_zero_iff.1 (by rw [HL.out]; omega)
      rw [this]; rfl
    rw [hv]
    clear hv
    go_enter Try.func62, Try.ntmps62
    go_wp2
    go_ret2
    exact ⟨rfl, rfl⟩
  have e1 : decide ((s2.size : Int) < 1) = false := decide_eq_false (by omega)
  by_cases g2 : 18 < s2.size
  · have e2 : decide (18 < (s2.size : Int)) = true := decide_eq_true (by omega)
    have hv : unsV false (nb s2) = (0, false) := by
      have : unsB (nb s2) = none := by
        unfold unsB
        rw [HL.out, decide_eq_false (p := s2.size ≤ 18) (by omega)]; simp
      simp [unsV, this]
    rw [hv]
    clear hv
    go_enter Try.func62, Try.ntmps62
    go_wp2
    go_ret2
    exact ⟨rfl, rfl⟩
  have e2 : decide (18 < (s2.size : Int)) = false := decide_eq_false (by omega)
  obtain ⟨r, hr⟩ : ∃ r, r = unsV false (nb s2) := ⟨_, rfl⟩
  rw [← hr]
  have HR := Lib.hid hr
  clear hr
  go_enter Try.func62, Try.ntmps62
  go_wp2
  go_loop [5, 6] (fun v i => ∃ k : Nat, k ≤ s2.size ∧ i = .int .i64 k ∧ v = .int .i64 (digV ((nb s2).take k) : Nat) ∧ Hid (((nb s2).take k).all digB = true)) (fun _ i => s2.size - (intOf i).toNat)
  case atStart => exact ⟨0, Nat.zero_le _, rfl, rfl, Lib.hid rfl⟩
  case round =>
    obtain ⟨k, hk, rfl, rfl, HA⟩ := hrel
    by_cases hlt : k < s2.size
    · have f1 : decide ((k : Int) < (s2.size : Int)) = true := decide_eq_true (by omega)
      have hg := Lib.hid (nb_get s2 k hlt)
      by_cases c1 : s2[k].toNat < 48
      · have f2 : decide ((s2[k].toNat : Int) < 48) = true := decide_eq_true (by omega)
        have hz : r = (0, false) := by rw [HR.out]; simp [unsV, uns_no hg.out (show digB _ = false by simp [digB]; omega)]
        subst hz
        go_wp2
        go_ret2
        exact ⟨rfl, rfl⟩
      have f2 : decide ((s2[k].toNat : Int) < 48) = false := decide_eq_false (by omega)
      by_cases c2 : 57 < s2[k].toNat
      · have f3 : decide (57 < (s2[k].toNat : Int)) = true := decide_eq_true (by omega)
        have hz : r = (0, false) := by rw [HR.out]; simp [unsV, uns_no hg.out (show digB _ = false by simp [digB]; omega)]
        subst hz
        go_wp2
        go_ret2
        exact ⟨rfl, rfl⟩
      have f3 : decide (57 < (s2[k].toNat : Int)) = false := decide_eq_false (by omega)
      have hb := digV_17 (nb s2) k HA.out (by omega)
      have hst := Lib.hid (digV_step (nb s2) k _ hg.out)
      have hA2 := Lib.hid (all_step hg.out HA.out (show digB _ = true by simp [digB]; omega))
      have b1 : (48 : Int) ≤ (s2[k].toNat : Int) := by omega
      have b2 : (s2[k].toNat : Int) ≤ 57 := by omega
      generalize digV ((nb s2).take k) = V at hb hst ⊢
      go_wp2
      go_round
      case rel => exact ⟨k + 1, by omega, by go_num, by rw [hst.out]; go_num, hA2⟩
      case measure => simp [intOf]; omega
    · have f1 : decide ((k : Int) < (s2.size : Int)) = false := decide_eq_false (by omega)
      have hz : r = ((digV ((nb s2).take k) : Int), true) := by
        have ht : (nb s2).take k = nb s2 := List.take_of_length_le (by rw [HL.out]; omega)
        have hA := HA.out
        rw [ht] at hA ⊢
        rw [HR.out]; simp [unsV, uns_yes (by rw [HL.out]; omega) (by rw [HL.out]; omega) hA]
      subst hz
      have hb2 := digV_lt _ HA.out
      have hb3 : digV ((nb s2).take k) ≤ 999999999999999999 := by
        have h2 : ((nb s2).take k).length ≤ 18 := by simp; omega
        have h3 : 10 ^ ((nb s2).take k).length ≤ 10 ^ 18 := Nat.pow_le_pow_right (by decide) h2
        omega
      clear hb2
      generalize hV : digV ((nb s2).take k) = V at hb3 ⊢
      have HV := Lib.hid hV
      clear hV
      go_wp2
      go_ret2
      rw [HV.out]
      exact ⟨rfl, rfl⟩
set_option maxRecDepth 100000 in
set_option maxHeartbeats 3200000 in
theorem number_neg (s s2 : ByteArray) (w : World) (hs : s.size ≤ 1000000) (h0 : 0 < s.size) (h1 : s[0].toNat = 45) (hx : s.extract 1 s.size = s2) : Calls Try.prog 62 #[.string s] w (NumPost w (unsV true (nb s2))) := by
  have d1 : decide ((0 : Int) < (s.size : Int)) = true := decide_eq_true (by omega)
  have d2 : ((s[0].toNat : Int) == 45) = true := by simp; omega
  have hs2 : s2.size ≤ 1000000 := by rw [← hx]; simp [ByteArray.size_extract]; omega
  have hll := nb_len s2
  have HL := Lib.hid hll
  clear hll
  by_cases g1 : s2.size < 1
  · have e1 : decide ((s2.size : Int) < 1) = true := decide_eq_true (by omega)
    have hv : unsV true (nb s2) = (0, false) := by
      have : nb s2 = [] := List.length_eq_zero_iff.1 (by rw [HL.out]; omega)
      rw [this]; rfl
    rw [hv]
    clear hv
    go_enter Try.func62, Try.ntmps62
    go_wp2
    go_ret2
    exact ⟨rfl, rfl⟩
  have e1 : decide ((s2.size : Int) < 1) = false := decide_eq_false (by omega)
  by_cases g2 : 18 < s2.size
  · have e2 : decide (18 < (s2.size : Int)) = true := decide_eq_true (by omega)
    have hv : unsV true (nb s2) = (0, false) := by
      have : unsB (nb s2) = none := by
        unfold unsB
        rw [HL.out, decide_eq_false (p := s2.size ≤ 18) (by omega)]; simp
      simp [unsV, this]
    rw [hv]
    clear hv
    go_enter Try.func62, Try.ntmps62
    go_wp2
    go_ret2
    exact ⟨rfl, rfl⟩
  have e2 : decide (18 < (s2.size : Int)) = false := decide_eq_false (by omega)
  obtain ⟨r, hr⟩ : ∃ r, r = unsV true (nb s2) := ⟨_, rfl⟩
  rw [← hr]
  have HR := Lib.hid hr
  clear hr
  go_enter Try.func62, Try.ntmps62
  go_wp2
  go_loop [5, 6] (fun v i => ∃ k : Nat, k ≤ s2.size ∧ i = .int .i64 k ∧ v = .int .i64 (digV ((nb s2).take k) : Nat) ∧ Hid (((nb s2).take k).all digB = true)) (fun _ i => s2.size - (intOf i).toNat)
  case atStart => exact ⟨0, Nat.zero_le _, rfl, rfl, Lib.hid rfl⟩
  case round =>
    obtain ⟨k, hk, rfl, rfl, HA⟩ := hrel
    by_cases hlt : k < s2.size
    · have f1 : decide ((k : Int) < (s2.size : Int)) = true := decide_eq_true (by omega)
      have hg := Lib.hid (nb_get s2 k hlt)
      by_cases c1 : s2[k].toNat < 48
      · have f2 : decide ((s2[k].toNat : Int) < 48) = true := decide_eq_true (by omega)
        have hz : r = (0, false) := by rw [HR.out]; simp [unsV, uns_no hg.out (show digB _ = false by simp [digB]; omega)]
        subst hz
        go_wp2
        go_ret2
        exact ⟨rfl, rfl⟩
      have f2 : decide ((s2[k].toNat : Int) < 48) = false := decide_eq_false (by omega)
      by_cases c2 : 57 < s2[k].toNat
      · have f3 : decide (57 < (s2[k].toNat : Int)) = true := decide_eq_true (by omega)
        have hz : r = (0, false) := by rw [HR.out]; simp [unsV, uns_no hg.out (show digB _ = false by simp [digB]; omega)]
        subst hz
        go_wp2
        go_ret2
        exact ⟨rfl, rfl⟩
      have f3 : decide (57 < (s2[k].toNat : Int)) = false := decide_eq_false (by omega)
      have hb := digV_17 (nb s2) k HA.out (by omega)
      have hst := Lib.hid (digV_step (nb s2) k _ hg.out)
      have hA2 := Lib.hid (all_step hg.out HA.out (show digB _ = true by simp [digB]; omega))
      have b1 : (48 : Int) ≤ (s2[k].toNat : Int) := by omega
      have b2 : (s2[k].toNat : Int) ≤ 57 := by omega
      generalize digV ((nb s2).take k) = V at hb hst ⊢
      go_wp2
      go_round
      case rel => exact ⟨k + 1, by omega, by go_num, by rw [hst.out]; go_num, hA2⟩
      case measure => simp [intOf]; omega
    · have f1 : decide ((k : Int) < (s2.size : Int)) = false := decide_eq_false (by omega)
      have hz : r = (-(digV ((nb s2).take k) : Int), true) := by
        have ht : (nb s2).take k = nb s2 := List.take_of_length_le (by rw [HL.out]; omega)
        have hA := HA.out
        rw [ht] at hA ⊢
        rw [HR.out]; simp [unsV, uns_yes (by rw [HL.out]; omega) (by rw [HL.out]; omega) hA]
      subst hz
      have hb2 := digV_lt _ HA.out
      have hb3 : digV ((nb s2).take k) ≤ 999999999999999999 := by
        have h2 : ((nb s2).take k).length ≤ 18 := by simp; omega
        have h3 : 10 ^ ((nb s2).take k).length ≤ 10 ^ 18 := Nat.pow_le_pow_right (by decide) h2
        omega
      clear hb2
      generalize hV : digV ((nb s2).take k) = V at hb3 ⊢
      have HV := Lib.hid hV
      clear hV
      go_wp2
      go_ret2
      rw [HV.out]
      exact ⟨rfl, rfl⟩
theorem number_calls (s : ByteArray) (w : World) (hs : s.size ≤ 1000000) : Calls Try.prog 62 #[.string s] w fun e w' => e = .returned (.tuple #[.int .i64 (numB (nb s)).1, .bool (numB (nb s)).2]) ∧ w = w' := by
  have hll := nb_len s
  by_cases h0 : s.size = 0
  · rw [num_pos (fun t e => by rw [e] at hll; simp at hll; omega)]
    exact number_pos s w hs (.inl h0)
  · have h0' : 0 < s.size := by omega
    have hg := nb_get s 0 h0'
    by_cases h1 : s[0].toNat = 45
    · rw [num_neg (t := nb (s.extract 1 s.size)) (by
        rw [nb_ext, List.take_of_length_le (by omega)]
        cases h : nb s with
        | nil => rw [h] at hg; cases hg
        | cons x t => rw [h] at hg; simp at hg; rw [hg, h1]; simp)]
      exact number_neg s _ w hs h0' h1 rfl
    · rw [num_pos (fun t e => by rw [e] at hg; simp at hg; omega)]
      exact number_pos s w hs (.inr ⟨h0', h1⟩)
end Go.Proofs.Ytegjkheecbmioaa
