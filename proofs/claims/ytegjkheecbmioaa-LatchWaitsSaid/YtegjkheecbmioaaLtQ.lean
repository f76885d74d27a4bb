/- Calls of a Latch done alone: each call's step, as Plays asks for it. -/
import Derived.Test.YtegjkheecbmioaaSmQ
import Derived.Test.YtegjkheecbmioaaEx2
import Derived.Test.YtegjkheecbmioaaDoL
import Derived.Test.YtegjkheecbmioaaPlA
namespace Go.Proofs.Ytegjkheecbmioaa
open Go.RowKit
set_option linter.unusedVariables false
set_option linter.unusedSimpArgs false

theorem ofK_le {k o : Int} (h : ofK k = o) (ho : o ≠ 0) : ∃ m : Nat, m < 20 ∧ k = (m : Int) ∧ ofT.getD m 0 = o := by
  have hr := ofK_rng h ho
  refine ⟨k.toNat, by omega, by omega, ?_⟩
  unfold ofK at h
  rwa [if_pos ⟨by omega, by omega⟩] at h
theorem lt_code : ∃ c l, asmB (flatL textsLt) = some (c, l) ∧ (∀ x ∈ c, mayB x = true) ∧ c.length ≤ 100000 ∧ ∀ r t, r ∈ ltRuns → t < 8 → runOk c l (layL 3 false lN) r t = true := by
  have h := lt_all
  unfold ltAll at h
  split at h
  · rename_i c l hcl
    simp only [Bool.and_eq_true, decide_eq_true_eq, List.all_eq_true, List.mem_range] at h
    exact ⟨c, l, hcl, h.1.1, h.1.2, fun r t hr ht => h.2 r hr t ht⟩
  · cases h
theorem ofK_3 {k : Int} (h : ofK k = 3) : k = 8 ∨ k = 9 := by
  obtain ⟨m, hm, rfl, ho⟩ := ofK_le h (by decide)
  have : ∀ m : Fin 20, ofT.getD m.val 0 = 3 → m.val = 8 ∨ m.val = 9 := by decide
  have := this ⟨m, hm⟩ ho
  dsimp only at this
  omega
theorem absV_nn {v : Int} (h : 0 ≤ v) : absV v = v := by unfold absV; rw [if_neg (by omega)]
theorem plc {c : List Ins} {l : List Lb} {t j : Nat} {k n ob wt : Int} {br : Bool} {x y : Th} {s s' : St} {Inv : Nat → Th → St → Prop} {v val : Int} {ns ns' want : List (Int × Int)} (hg : alG c t 500 [] (fr0 (findB l (nb (entB k))) [1, askB k n, 0, 0] 4) s [] = some (v, ns, true, s')) (hi : Inv (j + 1) y s') (hv : v = val) (hn : ns = ns') (hs : SameN ns' want)
    (hE : ∀ w, Calls Try.prog 28 #[x.v, .int .i64 t, opV k ob n wt br] w (ExPost w y want val)) :
    ∃ val ns s' y want, alG c t 500 [] (fr0 (findB l (nb (entB k))) [1, askB k n, 0, 0] 4) s [] = some (val, ns, true, s') ∧ Inv (j + 1) y s' ∧ SameN ns want ∧ ∀ w, Calls Try.prog 28 #[x.v, .int .i64 t, opV k ob n wt br] w (ExPost w y want val) := by
  subst hv hn
  exact ⟨_, _, _, _, _, hg, hi, hs, hE⟩
theorem chN_8 (m : Int) : chN 8 0 m = [(1, 0), (17, 0)] := by simp [chN]
theorem chR_8 (m : Int) : chR 8 m = [0, 3] := by simp [chR]
theorem chN_9 (m : Int) : chN 9 0 m = [(8, 1), (8, 0)] := by simp [chN]
theorem chR_9 (m : Int) : chR 9 m = [0, 0] := by simp [chR]
theorem lt_step {c : List Ins} {l : List Lb} (hmay : ∀ x ∈ c, mayB x = true) (hall : ∀ r t, r ∈ ltRuns → t < 8 → runOk c l (layL 3 false lN) r t = true) : PlStep c l 3 (cellInv 3 false) := by
  intro j x s t k ob n wt br hj hI ht hp
  obtain ⟨hk, hn0, hn1, _, hz⟩ := hp
  obtain ⟨m, hm0, hm1, rfl, h1, h2, h3⟩ := hI
  have hn : n = 0 := by
    by_cases h : n = 0
    · exact h
    · rcases ofK_3 hk with rfl | rfl <;> exact absurd ⟨by decide, by decide, by decide, by decide, h⟩ hz
  subst hn
  have hN : lN.val [m, 0] = m := by simp [lN, Lin.var, Lin.val, dot]
  have hL : (⟨-1, [1]⟩ : Lin).val [m, 0] = m - 1 := by simp [Lin.val, dot]; omega
  rcases ofK_3 hk with rfl | rfl
  · by_cases h0 : m = 0
    · obtain ⟨s', hg, hi⟩ := one_step hmay (hall _ t (List.mem_of_getElem? (i := 0) rfl) ht) ht hm0 hm1 (Int.le_refl 0) (by decide) h1 h2 h3 (k := 8) rfl rfl (fun p hp => by obtain rfl := List.mem_singleton.1 hp; exact hN.trans h0) lN rfl m hN.symm hm0 hm1 (j + 1)
      exact plc hg hi (val := 0) (ns' := [(1, 0)]) rfl rfl (same_one (absV_nn (by decide))) (exp_1 (k := 8) (n := 0) (by decide) hm0 hm1 (chN_8 _) (chR_8 _) (fun w => doLt_1y m (-1) 0 0 0 0 0 0 0 0 0 (-1) 0 t w ht hm0 hm1 h0) ob wt br)
    · obtain ⟨s', hg, hi⟩ := one_step hmay (hall _ t (List.mem_of_getElem? (i := 1) rfl) ht) ht hm0 hm1 (Int.le_refl 0) (by decide) h1 h2 h3 (k := 8) rfl rfl (fun p hp => by obtain rfl := List.mem_singleton.1 hp; exact fun e => h0 (hN.symm.trans e)) lN rfl m hN.symm hm0 hm1 (j + 1)
      exact plc hg hi (val := 3) (ns' := [(17, 0)]) rfl rfl (same_one (absV_nn (by decide))) (exp_2 (k := 8) (n := 0) (by decide) hm0 hm1 (chN_8 _) (chR_8 _) (by decide) (fun w => doLt_1n m (-1) 0 0 0 0 0 0 0 0 0 (-1) 0 t w ht hm0 hm1 h0) (fun w => doLt_17 m (-1) 0 0 0 0 0 0 0 0 0 (-1) 0 t w ht hm0 hm1) ob wt br)
  · by_cases h0 : m = 0
    · obtain ⟨s', hg, hi⟩ := one_step hmay (hall _ t (List.mem_of_getElem? (i := 2) rfl) ht) ht hm0 hm1 (Int.le_refl 0) (by decide) h1 h2 h3 (k := 9) rfl rfl (fun p hp => by obtain rfl := List.mem_singleton.1 hp; exact hN.trans h0) lN rfl m hN.symm hm0 hm1 (j + 1)
      exact plc hg hi (val := 0) (ns' := [(8, 0)]) rfl rfl (same_one (absV_nn (by decide))) (exp_2 (k := 9) (n := 0) (by decide) hm0 hm1 (chN_9 _) (chR_9 _) (by decide) (fun w => doLt_81n m (-1) 0 0 0 0 0 0 0 0 0 (-1) 0 t w ht hm0 hm1 h0) (fun w => doLt_80y m (-1) 0 0 0 0 0 0 0 0 0 (-1) 0 t w ht hm0 hm1 h0) ob wt br)
    · by_cases h1' : m = 1
      · obtain ⟨s', hg, hi⟩ := one_step hmay (hall _ t (List.mem_of_getElem? (i := 3) rfl) ht) ht hm0 hm1 (Int.le_refl 0) (by decide) h1 h2 h3 (k := 9) rfl rfl (fun p hp => by
          rcases List.mem_cons.1 hp with rfl | hp
          · exact fun e => h0 (hN.symm.trans e)
          · obtain rfl := List.mem_singleton.1 hp; exact hL.trans (by omega)) ⟨-1, [1]⟩ rfl (m - 1) hL.symm (by omega) (by omega) (j + 1)
        exact plc hg hi (val := 0) (ns' := [(8, 1)]) rfl rfl (same_one (absV_nn (by decide))) (exp_1 (k := 9) (n := 0) (by decide) hm0 hm1 (chN_9 _) (chR_9 _) (fun w => doLt_81y m (-1) 0 0 0 0 0 0 0 0 0 (-1) 0 t w ht hm0 hm1 h0) ob wt br)
      · obtain ⟨s', hg, hi⟩ := one_step hmay (hall _ t (List.mem_of_getElem? (i := 4) rfl) ht) ht hm0 hm1 (Int.le_refl 0) (by decide) h1 h2 h3 (k := 9) rfl rfl (fun p hp => by
          rcases List.mem_cons.1 hp with rfl | hp
          · exact fun e => h0 (hN.symm.trans e)
          · obtain rfl := List.mem_singleton.1 hp; exact fun e => h1' (by have := hL.symm.trans e; omega)) ⟨-1, [1]⟩ rfl (m - 1) hL.symm (by omega) (by omega) (j + 1)
        exact plc hg hi (val := 0) (ns' := [(8, 1)]) rfl rfl (same_one (absV_nn (by decide))) (exp_1 (k := 9) (n := 0) (by decide) hm0 hm1 (chN_9 _) (chR_9 _) (fun w => doLt_81y m (-1) 0 0 0 0 0 0 0 0 0 (-1) 0 t w ht hm0 hm1 h0) ob wt br)
end Go.Proofs.Ytegjkheecbmioaa
