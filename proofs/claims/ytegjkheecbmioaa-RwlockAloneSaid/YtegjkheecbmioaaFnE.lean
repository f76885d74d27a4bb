/- The walks of ref12.Assemble and ref13.same; the notes as a list in memory. -/
import Derived.Test.YtegjkheecbmioaaFnD
import Derived.Test.YtegjkheecbmioaaAlB
import Derived.BigQuiet
namespace Go.Proofs.Ytegjkheecbmioaa
open Go.RowKit
set_option linter.unusedVariables false
set_option linter.unusedSimpArgs false

def sizesB (l : List ByteArray) : Nat := (l.map ByteArray.size).sum
theorem sizes_take {l : List ByteArray} {k : Nat} {s : ByteArray} (h : l[k]? = some s) : sizesB (l.take (k + 1)) = sizesB (l.take k) + s.size := by
  rw [sizesB, sizesB, List.take_add_one, h]; simp
theorem sizes_le (l : List ByteArray) (k : Nat) : sizesB (l.take k) ≤ sizesB l := by
  conv => rhs; rw [← List.take_append_drop k l]
  rw [sizesB, sizesB, List.map_append, List.sum_append]; omega
set_option maxRecDepth 100000 in
set_option maxHeartbeats 1600000 in
theorem Assemble_calls {ok : Nat → Prop} (ts : List ByteArray) (A0 : Option Addr) (c0 : Nat) (w : World) (hC0 : kStr.C ok w A0 ts) (hn : ts.length ≤ 100) (hs : ∀ t ∈ ts, t.size ≤ 100000) (hsum : sizesB ts ≤ 60000) (hfl : (flatL ts).length ≤ 100000) (code : List Ins) (labs : List Lb) (hA : asmB (flatL ts) = some (code, labs)) :
    Calls Try.prog 19 #[.slice A0 ts.length c0] w fun e w' => ∃ A1 c1 A2 c2, e = .returned (.tuple #[.slice A1 code.length c1, .slice A2 labs.length c2, .bool true]) ∧ Below w.heap.size w w' ∧
      (code.length ≤ c1 ∧ kIns.C (w.heap.size ≤ ·) w' A1 code) ∧ (labs.length ≤ c2 ∧ kLb.C (w.heap.size ≤ ·) w' A2 labs) ∧ lbOk labs := by
  have hcall := Asm_calls ts A0 c0 w hC0 hn hs hfl code labs hA
  have HCA := Lib.hid hcall
  have HC := Lib.hid hC0
  have HSZ := Lib.hid (sizes_le ts)
  clear hcall hC0 hs hfl hA
  go_enter Try.func19, Try.ntmps19
  go_wp2_with fail
  go_loopw [5, 6] (fun nv iv wr => ∃ k : Nat, iv = .int .i64 k ∧ k ≤ ts.length ∧ nv = .int .i64 (sizesB (ts.take k) : Nat) ∧ wr = w) (fun _ iv _ => ts.length - (intOf iv).toNat)
  case atStart => exact ⟨0, rfl, Nat.zero_le _, rfl, rfl⟩
  case round =>
    obtain ⟨k, rfl, hk, rfl, rfl⟩ := hrel
    by_cases hlt : k < ts.length
    · have d0 : decide ((k : Int) < (ts.length : Int)) = true := decide_eq_true (by omega)
      obtain ⟨ad, s, rfl, hs, hc⟩ := at_str' HC.out k hlt
      have hst := sizes_take hs
      have hb := HSZ.out (k + 1)
      have HST := Lib.hid hst
      rw [hst] at hb
      clear hs hst
      generalize sizesB (ts.take k) = n at HST hb ⊢
      go_wp2_with fail
      go_roundw
      case rel => exact ⟨k + 1, by go_num, by omega, by rw [HST.out]; go_num, by trivial⟩
      case measure => simp [intOf]; omega
    · have hke : k = ts.length := by omega
      have d0 : decide ((k : Int) < (ts.length : Int)) = false := decide_eq_false (by omega)
      have hb := HSZ.out k
      generalize sizesB (ts.take k) = n at hb ⊢
      have d1 : decide (60000 < (n : Int)) = false := decide_eq_false (by omega)
      clear hke
      go_wp2_with fail
      refine HCA.out.mono ?_
      rintro e w2 ⟨A1, c1, A2, c2, rfl, h1, h2, h3, h4⟩
      have H := Lib.hid (And.intro h1 (And.intro h2 (And.intro h3 h4)))
      clear h1 h2 h3 h4
      go_wp2_with fail
      refine bodyPost_ret (v := .tuple #[.slice A1 code.length c1, .slice A2 labs.length c2, .bool true]) (by simp [results, Try.results19, go_sem]) rfl ?_
      exact ⟨_, _, _, _, rfl, H.out⟩
def kNt : Kd (Int × Int) := Kd.fn 2 noteEnc (fun _ => rfl) (by intro x u hu; simp [noteEnc] at hu; rcases hu with rfl | rfl <;> rfl) (by decide)
theorem at_nt {ok : Nat → Prop} {w : World} {A : Option Addr} {xs : List (Int × Int)} (h : kNt.C ok w A xs) (i : Nat) (hi : i < xs.length) : ∃ ad o, A = some ad ∧ xs[i]? = some o ∧ w.cell? (ad.add (i * 2)) = some (.int .i64 o.1) ∧
    w.cell? ⟨(ad.add (i * 2)).block, (ad.add (i * 2)).off + 1, none⟩ = some (.int .i64 o.2) := by
  obtain ⟨ad, c, e, _, hK, hc⟩ := h.get i hi
  obtain rfl : c = noteEnc xs[i] := hK
  exact ⟨ad, xs[i], e, List.getElem?_eq_getElem hi, hc 0 _ rfl, by rw [← add_field _ _ 1 (by omega)]; exact hc 1 _ rfl⟩
def absV (v : Int) : Int := if v < 0 then wrap64 (-v) else v
def SameN (a b : List (Int × Int)) : Prop := a.length = b.length ∧ ∀ (i : Nat) p q, a[i]? = some p → b[i]? = some q → p.1 = q.1 ∧ absV p.2 = q.2
set_option maxRecDepth 100000 in
set_option maxHeartbeats 1600000 in
theorem Same_calls {oka okb : Nat → Prop} (a b : List (Int × Int)) (A B : Option Addr) (ca cb : Nat) (w : World) (hA : kNt.C oka w A a) (hB : kNt.C okb w B b) (hab : SameN a b) :
    Calls Try.prog 29 #[.slice A a.length ca, .slice B b.length cb] w fun e w' => e = .returned (.bool true) ∧ Below w.heap.size w w' := by
  have HA := Lib.hid hA
  have HB := Lib.hid hB
  have HS := Lib.hid hab.2
  have hla := hA.len
  rw [← hab.1]
  have hlb := hab.1
  have HL := Lib.hid hlb
  clear hA hB hab hlb
  go_enter Try.func29, Try.ntmps29
  go_wp2_with fail
  go_loopw [5] (fun iv wr => ∃ k : Nat, iv = .int .i64 k ∧ k ≤ a.length ∧ Hid (Below w.heap.size w wr)) (fun iv _ => a.length - (intOf iv).toNat)
  case atStart => exact ⟨0, rfl, Nat.zero_le _, Lib.hid (Below.refl _ _)⟩
  case round =>
    obtain ⟨k, rfl, hk, BL⟩ := hrel
    by_cases hlt : k < a.length
    · have d0 : decide ((k : Int) < (a.length : Int)) = true := decide_eq_true (by omega)
      obtain ⟨aa, p, rfl, hp, ha0, ha1⟩ := at_nt (HA.out.below BL.out) k hlt
      obtain ⟨ab, q, rfl, hq, hb0, hb1⟩ := at_nt (HB.out.below BL.out) k (by rw [← HL.out]; exact hlt)
      obtain ⟨e1, e2⟩ := HS.out k p q hp hq
      obtain ⟨p1, p2⟩ := p
      obtain ⟨q1, q2⟩ := q
      have e1 : p1 = q1 := e1
      subst e1
      have e2 : absV p2 = q2 := e2
      have E2 := Lib.hid e2
      have f1 : (p1 != p1) = false := by simp
      have f2 : ((if p2 < 0 then wrap64 (-p2) else p2) != q2) = false := by have := E2.out; unfold absV at this; rw [this]; simp
      clear hp hq e2
      go_wp2_with fail
      go_quiet (first | (go_at_call 42; exact Calls.quiet_of_same ((Value_calls _ _).mono (fun _ _ h => ⟨h.1, h.2.symm⟩))))
      have BQ := Lib.hid (below_drewN BL.out nq)
      go_wp2_with fail
      go_roundw
      case rel => exact ⟨k + 1, by go_num, by omega, BQ⟩
      case measure => simp [intOf]; omega
    · have d0 : decide ((k : Int) < (a.length : Int)) = false := decide_eq_false (by omega)
      go_wp2_with fail
      go_ret
      exact ⟨rfl, BL.out⟩
end Go.Proofs.Ytegjkheecbmioaa
