/- Labels and instructions in memory; the walks of the references' find and Assemble. -/
import Derived.Test.YtegjkheecbmioaaTxG
namespace Go.Proofs.Ytegjkheecbmioaa
open Go.RowKit
set_option linter.unusedVariables false
set_option linter.unusedSimpArgs false

structure Ins where
  op : Int
  a : Int
  b : Int
  c : Int
  n : Int
deriving DecidableEq
structure Lb where
  name : List Nat
  at_ : Nat
deriving DecidableEq
def Ins.enc (x : Ins) : List Value := [.int .i64 x.op, .int .i64 x.a, .int .i64 x.b, .int .i64 x.c, .int .i64 x.n]
def Lb.enc (x : Lb) : List Value := [.string (bs x.name), .int .i64 x.at_]
def kIns : Kd Ins := Kd.fn 5 Ins.enc (fun _ => rfl) (by intro x u hu; simp [Ins.enc] at hu; rcases hu with rfl | rfl | rfl | rfl | rfl <;> rfl) (by decide)
def kLb : Kd Lb := Kd.fn 2 Lb.enc (fun _ => rfl) (by intro x u hu; simp [Lb.enc] at hu; rcases hu with rfl | rfl <;> rfl) (by decide)
theorem at_ins {ok : Nat → Prop} {w : World} {A : Option Addr} {xs : List Ins} (h : kIns.C ok w A xs) (i : Nat) (hi : i < xs.length) : ∃ ad o, A = some ad ∧ xs[i]? = some o ∧ w.cell? (ad.add (i * 5)) = some (.int .i64 o.op) ∧
    w.cell? ⟨(ad.add (i * 5)).block, (ad.add (i * 5)).off + 1, none⟩ = some (.int .i64 o.a) ∧ w.cell? ⟨(ad.add (i * 5)).block, (ad.add (i * 5)).off + 2, none⟩ = some (.int .i64 o.b) ∧
    w.cell? ⟨(ad.add (i * 5)).block, (ad.add (i * 5)).off + 3, none⟩ = some (.int .i64 o.c) ∧ w.cell? ⟨(ad.add (i * 5)).block, (ad.add (i * 5)).off + 4, none⟩ = some (.int .i64 o.n) := by
  obtain ⟨ad, c, e, _, hK, hc⟩ := h.get i hi
  obtain rfl : c = Ins.enc xs[i] := hK
  exact ⟨ad, xs[i], e, List.getElem?_eq_getElem hi, hc 0 _ rfl, by rw [← add_field _ _ 1 (by omega)]; exact hc 1 _ rfl, by rw [← add_field _ _ 2 (by omega)]; exact hc 2 _ rfl, by rw [← add_field _ _ 3 (by omega)]; exact hc 3 _ rfl, by rw [← add_field _ _ 4 (by omega)]; exact hc 4 _ rfl⟩
theorem at_lb {ok : Nat → Prop} {w : World} {A : Option Addr} {xs : List Lb} (h : kLb.C ok w A xs) (i : Nat) (hi : i < xs.length) : ∃ ad o, A = some ad ∧ xs[i]? = some o ∧ w.cell? (ad.add (i * 2)) = some (.string (bs o.name)) ∧
    w.cell? ⟨(ad.add (i * 2)).block, (ad.add (i * 2)).off + 1, none⟩ = some (.int .i64 o.at_) := by
  obtain ⟨ad, c, e, _, hK, hc⟩ := h.get i hi
  obtain rfl : c = Lb.enc xs[i] := hK
  exact ⟨ad, xs[i], e, List.getElem?_eq_getElem hi, hc 0 _ rfl, by rw [← add_field _ _ 1 (by omega)]; exact hc 1 _ rfl⟩
def findB (l : List Lb) (name : List Nat) : Int := match l.find? (fun x => decide (x.name = name)) with | some x => x.at_ | none => -1
theorem find_hit {l : List Lb} {name : List Nat} {k : Nat} {x : Lb} (h : ∀ (j : Nat) y, j < k → l[j]? = some y → y.name ≠ name) (hk : l[k]? = some x) (hx : x.name = name) : findB l name = x.at_ := by
  have : l.find? (fun x => decide (x.name = name)) = some x := by
    rw [List.find?_eq_some_iff_getElem]
    obtain ⟨hl, rfl⟩ := List.getElem?_eq_some_iff.1 hk
    exact ⟨by simpa using hx, k, hl, rfl, fun j hj => by have := h j _ hj (List.getElem?_eq_getElem (by omega)); simpa using this⟩
  simp [findB, this]
theorem find_none {l : List Lb} {name : List Nat} (h : ∀ (j : Nat) y, l[j]? = some y → y.name ≠ name) : findB l name = -1 := by
  have : l.find? (fun x => decide (x.name = name)) = none := by
    rw [List.find?_eq_none]
    intro x hx
    obtain ⟨j, hj, rfl⟩ := List.mem_iff_getElem.1 hx
    have := h j _ (List.getElem?_eq_getElem hj)
    simpa using this
  simp [findB, this]
def lbOk (l : List Lb) : Prop := ∀ x ∈ l, ∀ y ∈ x.name, y < 256
set_option maxHeartbeats 800000 in
theorem find_calls {ok : Nat → Prop} (l : List Lb) (s : ByteArray) (A : Option Addr) (c : Nat) (w : World) (h : kLb.C ok w A l) (hok : lbOk l) : Calls Try.prog 50 #[.slice A l.length c, .string s] w fun e w' => e = .returned (.int .i64 (findB l (nb s))) ∧ w = w' := by
  have hlen := h.len
  have HOK := Lib.hid hok
  clear hok
  go_enter Try.func50, Try.ntmps50
  go_wp2_with fail
  go_loop [5] (fun i => ∃ k : Nat, k ≤ l.length ∧ i = .int .i64 k ∧ Hid (∀ (j : Nat) y, j < k → l[j]? = some y → y.name ≠ nb s)) (fun i => l.length - (intOf i).toNat)
  case atStart => exact ⟨0, Nat.zero_le _, rfl, Lib.hid (fun j y h => absurd h (Nat.not_lt_zero _))⟩
  case round =>
    obtain ⟨k, hk, rfl, HA⟩ := hrel
    by_cases hlt : k < l.length
    · have d1 : decide ((k : Int) < (l.length : Int)) = true := decide_eq_true (by omega)
      obtain ⟨ad, x, rfl, hx, h0, h1⟩ := at_lb h k hlt
      have HX := Lib.hid hx
      have hb := HOK.out x (List.mem_of_getElem? hx)
      have he : ((bs x.name).toList == s.toList) = decide (x.name = nb s) := by rw [str_eq, nb_bs hb]
      clear hx
      by_cases hc : x.name = nb s
      · rw [decide_eq_true hc] at he
        have HR := Lib.hid (find_hit HA.out HX.out hc)
        clear hc
        go_wp2_with fail
        go_ret
        exact ⟨ret_int HR.out.symm, rfl⟩
      · rw [decide_eq_false hc] at he
        have HC := Lib.hid hc
        clear hc
        go_wp2_with fail
        go_round
        case rel => exact ⟨k + 1, by omega, by go_num, Lib.hid (fun j y hj hy => by
          by_cases e : j = k
          · subst e; rw [HX.out] at hy; rw [← Option.some.inj hy]; exact HC.out
          · exact HA.out j y (by omega) hy)⟩
        case measure => simp [intOf]; omega
    · have d1 : decide ((k : Int) < (l.length : Int)) = false := decide_eq_false (by omega)
      go_wp2_with fail
      go_ret
      exact ⟨ret_int (find_none (fun j y hj => HA.out j y (by have := (List.getElem?_eq_some_iff.1 hj).1; omega) hj)).symm, rfl⟩
set_option maxHeartbeats 800000 in
theorem Find_calls {ok : Nat → Prop} (l : List Lb) (s : ByteArray) (A : Option Addr) (c : Nat) (w : World) (h : kLb.C ok w A l) (hok : lbOk l) : Calls Try.prog 35 #[.slice A l.length c, .string s] w fun e w' => e = .returned (.int .i64 (findB l (nb s))) ∧ w = w' := by
  have hlen := h.len
  have HOK := Lib.hid hok
  clear hok
  go_enter Try.func35, Try.ntmps35
  go_wp2_with fail
  go_loop [5] (fun i => ∃ k : Nat, k ≤ l.length ∧ i = .int .i64 k ∧ Hid (∀ (j : Nat) y, j < k → l[j]? = some y → y.name ≠ nb s)) (fun i => l.length - (intOf i).toNat)
  case atStart => exact ⟨0, Nat.zero_le _, rfl, Lib.hid (fun j y h => absurd h (Nat.not_lt_zero _))⟩
  case round =>
    obtain ⟨k, hk, rfl, HA⟩ := hrel
    by_cases hlt : k < l.length
    · have d1 : decide ((k : Int) < (l.length : Int)) = true := decide_eq_true (by omega)
      obtain ⟨ad, x, rfl, hx, h0, h1⟩ := at_lb h k hlt
      have HX := Lib.hid hx
      have hb := HOK.out x (List.mem_of_getElem? hx)
      have he : ((bs x.name).toList == s.toList) = decide (x.name = nb s) := by rw [str_eq, nb_bs hb]
      clear hx
      by_cases hc : x.name = nb s
      · rw [decide_eq_true hc] at he
        have HR := Lib.hid (find_hit HA.out HX.out hc)
        clear hc
        go_wp2_with fail
        go_ret
        exact ⟨ret_int HR.out.symm, rfl⟩
      · rw [decide_eq_false hc] at he
        have HC := Lib.hid hc
        clear hc
        go_wp2_with fail
        go_round
        case rel => exact ⟨k + 1, by omega, by go_num, Lib.hid (fun j y hj hy => by
          by_cases e : j = k
          · subst e; rw [HX.out] at hy; rw [← Option.some.inj hy]; exact HC.out
          · exact HA.out j y (by omega) hy)⟩
        case measure => simp [intOf]; omega
    · have d1 : decide ((k : Int) < (l.length : Int)) = false := decide_eq_false (by omega)
      go_wp2_with fail
      go_ret
      exact ⟨ret_int (find_none (fun j y hj => HA.out j y (by have := (List.getElem?_eq_some_iff.1 hj).1; omega) hj)).symm, rfl⟩
end Go.Proofs.Ytegjkheecbmioaa
