/- Calls of a Sema done alone: each call's step, as Plays asks for it. -/
import Derived.Test.YtegjkheecbmioaaSmQ
import Derived.Test.YtegjkheecbmioaaEx2
import Derived.Test.YtegjkheecbmioaaDoS
import Derived.Test.YtegjkheecbmioaaPlA
namespace Go.Proofs.Ytegjkheecbmioaa
open Go.RowKit
set_option linter.unusedVariables false
set_option linter.unusedSimpArgs false

theorem ofK_le {k o : Int} (h : ofK k = o) (ho : o ≠ 0) : ∃ m : Nat, m < 20 ∧ k = (m : Int) ∧ ofT.getD m 0 = o := by
  have hr := ofK_rng h ho
  refine ⟨k.toNat, by omega, by omega, ?_⟩
  unfold ofK at h
  rwa [if_pos ⟨by omega, by omega⟩] at h
theorem absV_nn {v : Int} (h : 0 ≤ v) : absV v = v := by unfold absV; rw [if_neg (by omega)]
theorem plc {c : List Ins} {l : List Lb} {t j : Nat} {k n ob wt : Int} {br : Bool} {x y : Th} {s s' : St} {Inv : Nat → Th → St → Prop} {v val : Int} {ns ns' want : List (Int × Int)} (hg : alG c t 500 [] (fr0 (findB l (nb (entB k))) [1, askB k n, 0, 0] 4) s [] = some (v, ns, true, s')) (hi : Inv (j + 1) y s') (hv : v = val) (hn : ns = ns') (hs : SameN ns' want)
    (hE : ∀ w, Calls Try.prog 28 #[x.v, .int .i64 t, opV k ob n wt br] w (ExPost w y want val)) :
    ∃ val ns s' y want, alG c t 500 [] (fr0 (findB l (nb (entB k))) [1, askB k n, 0, 0] 4) s [] = some (val, ns, true, s') ∧ Inv (j + 1) y s' ∧ SameN ns want ∧ ∀ w, Calls Try.prog 28 #[x.v, .int .i64 t, opV k ob n wt br] w (ExPost w y want val) := by
  subst hv hn
  exact ⟨_, _, _, _, _, hg, hi, hs, hE⟩
theorem sm_code : ∃ c l, asmB (flatL textsSm) = some (c, l) ∧ (∀ x ∈ c, mayB x = true) ∧ c.length ≤ 100000 ∧ ∀ f r t, r ∈ smRuns f → t < 8 → runOk c l (layL 2 f lN) r t = true := by
  have h := sm_all
  unfold smAll at h
  split at h
  · rename_i c l hcl
    simp only [Bool.and_eq_true, decide_eq_true_eq, List.all_eq_true, List.mem_range] at h
    exact ⟨c, l, hcl, h.1.1, h.1.2, fun f r t hr ht => h.2 f (by cases f <;> simp) r hr t ht⟩
  · cases h
theorem ofK_2 {k : Int} (h : ofK k = 2) : k = 4 ∨ k = 5 ∨ k = 6 ∨ k = 7 := by
  obtain ⟨m, hm, rfl, ho⟩ := ofK_le h (by decide)
  have : ∀ m : Fin 20, ofT.getD m.val 0 = 2 → m.val = 4 ∨ m.val = 5 ∨ m.val = 6 ∨ m.val = 7 := by decide
  have := this ⟨m, hm⟩ ho
  dsimp only at this
  omega
theorem absV_neg {v : Int} (h : 0 ≤ v) (h1 : v ≤ 1000) : absV (-v) = v := by
  unfold absV
  by_cases h0 : v = 0
  · subst h0; rfl
  · rw [if_pos (by omega), Int.neg_neg]
    unfold wrap64
    omega
theorem doS (m : Int) (t : Nat) (k v : Int) (r : Th × Bool) (ht : t < 8) (h0 : 0 ≤ m) (h1 : m ≤ 1000) (hm : semaM k v) (hr : semaP (thNew 2 m) k v = r) : DoIs (thNew 2 m) t (k, v) r := fun w => DoSema_calls m (-1) 0 0 0 0 0 0 0 0 0 (-1) 0 t k v w ht h0 h1 hm r hr
theorem chN_4 (v m : Int) : chN 4 v m = [(1, v), (17, 0)] := by simp [chN]
theorem chR_4 (m : Int) : chR 4 m = [0, 3] := by simp [chR]
theorem chN_5 (v m : Int) : chN 5 v m = [(1, v), (5, v)] := by simp [chN]
theorem chR_5 (m : Int) : chR 5 m = [0, 1] := by simp [chR]
theorem chN_6 (v m : Int) : chN 6 v m = [(3, v), (7, v)] := by simp [chN]
theorem chR_6 (m : Int) : chR 6 m = [0, 5] := by simp [chR]
theorem chN_7 (v m : Int) : chN 7 v m = [(9, m)] := by simp [chN]
theorem chR_7 (m : Int) : chR 7 m = [16 * m] := by simp [chR]
theorem lin_M (m v : Int) : lM.val [m, v] = -v := by simp [lM, Lin.val, dot]
theorem lin_N (m v : Int) : lN.val [m, v] = m := by simp [lN, Lin.var, Lin.val, dot]
theorem lin_V (m v : Int) : lV.val [m, v] = v := by simp [lV, Lin.var, Lin.val, dot]
theorem lin_D (m v : Int) : lD.val [m, v] = m - v := by simp [lD, Lin.val, dot]; omega
theorem lin_E (m v : Int) : lE.val [m, v] = 1000 - m - v := by simp [lE, Lin.val, dot]; omega
theorem lin_S (m v : Int) : (⟨0, [1, 1]⟩ : Lin).val [m, v] = m + v := by simp [Lin.val, dot]
theorem lin_16 (m v : Int) : (⟨0, [16]⟩ : Lin).val [m, v] = 16 * m := by simp [Lin.val, dot]
theorem nv1 (k : Int) (l : Lin) (xs : List Int) (v : Int) (h : l.val xs = v) : nval xs [(k, l)] = [(k, v)] := by simp [nval, h]
theorem semaP_1y {m v : Int} (h : v ≤ m) : semaP (thNew 2 m) 1 v = (thNew 2 (m - v), true) := by simp [semaP, thNew, h]
theorem semaP_1n {m v : Int} (h : ¬ v ≤ m) : semaP (thNew 2 m) 1 v = (thNew 2 m, false) := by simp [semaP, thNew, h]
theorem semaP_3y {m v : Int} (h : v ≤ 1000 - m) : semaP (thNew 2 m) 3 v = (thNew 2 (m + v), true) := by simp [semaP, thNew, h]
theorem semaP_3n {m v : Int} (h : ¬ v ≤ 1000 - m) : semaP (thNew 2 m) 3 v = (thNew 2 m, false) := by simp [semaP, thNew, h]
theorem semaP_5 {m v : Int} (h : m < v) : semaP (thNew 2 m) 5 v = (thNew 2 m, true) := by simp [semaP, thNew, h]
theorem semaP_7 {m v : Int} (h : 1000 - m < v) : semaP (thNew 2 m) 7 v = (thNew 2 m, true) := by simp [semaP, thNew, h]
theorem semaP_9 (m : Int) : semaP (thNew 2 m) 9 m = (thNew 2 0, true) := by simp [semaP, thNew]
theorem sm_step {c : List Ins} {l : List Lb} (hmay : ∀ x ∈ c, mayB x = true) (hall : ∀ f r t, r ∈ smRuns f → t < 8 → runOk c l (layL 2 f lN) r t = true) (f : Bool) : PlStep c l 2 (cellInv 2 f) := by
  intro j x s t k ob v wt br hj hI ht hp
  obtain ⟨hk, hv0, hv1, hz1, hz2⟩ := hp
  obtain ⟨m, hm0, hm1, rfl, h1, h2, h3⟩ := hI
  have hr : ∀ i r, (smRuns f)[i]? = some r → runOk c l (layL 2 f lN) r t = true := fun i r h => hall f r t (List.mem_of_getElem? h) ht
  rcases ofK_2 hk with rfl | rfl | rfl | rfl
  · have hp1 : 1 ≤ v := by by_cases h : v = 0; exact absurd ⟨.inl rfl, h⟩ hz1; omega
    by_cases hc : m < v
    · obtain ⟨s', hg, hi⟩ := one_step hmay (hr 0 _ rfl) ht hm0 hm1 hv0 hv1 h1 h2 h3 (k := 4) rfl (lin_M m v).symm (fun p hp => by obtain rfl := List.mem_singleton.1 hp; show lD.val [m, v] < 0; rw [lin_D]; omega) lN rfl m (lin_N m v).symm hm0 hm1 (j + 1)
      exact plc hg hi (val := 3) (ns' := [(17, 0)]) rfl rfl (same_one (absV_nn (by decide))) (exp_2 (k := 4) (n := v) (by decide) hm0 hm1 (chN_4 v _) (chR_4 _) (by simp) (doS m t 1 v (thNew 2 m, false) ht hm0 hm1 ⟨hv0, hv1, .inl ⟨.inl rfl, hp1⟩⟩ (semaP_1n (by omega))) (fun w => doSm_17 m (-1) 0 0 0 0 0 0 0 0 0 (-1) 0 t w ht hm0 hm1) ob wt br)
    · obtain ⟨s', hg, hi⟩ := one_step hmay (hr 1 _ rfl) ht hm0 hm1 hv0 hv1 h1 h2 h3 (k := 4) rfl (lin_M m v).symm (fun p hp => by obtain rfl := List.mem_singleton.1 hp; show 0 ≤ lD.val [m, v]; rw [lin_D]; omega) lD rfl (m - v) (lin_D m v).symm (by omega) (by omega) (j + 1)
      exact plc hg hi (val := 0) (ns' := [(1, -v)]) rfl (nv1 _ _ _ _ (lin_M m v)) (same_one (absV_neg hv0 hv1)) (exp_1 (k := 4) (n := v) (by decide) hm0 hm1 (chN_4 v _) (chR_4 _) (doS m t 1 v (thNew 2 (m - v), true) ht hm0 hm1 ⟨hv0, hv1, .inl ⟨.inl rfl, hp1⟩⟩ (semaP_1y (by omega))) ob wt br)
  · have hp1 : 1 ≤ v := by by_cases h : v = 0; exact absurd ⟨.inr (.inl rfl), h⟩ hz1; omega
    by_cases hc : m < v
    · obtain ⟨s', hg, hi⟩ := one_step hmay (hr 2 _ rfl) ht hm0 hm1 hv0 hv1 h1 h2 h3 (k := 5) rfl (lin_M m v).symm (fun p hp => by obtain rfl := List.mem_singleton.1 hp; show lD.val [m, v] < 0; rw [lin_D]; omega) lN rfl m (lin_N m v).symm hm0 hm1 (j + 1)
      exact plc hg hi (val := 1) (ns' := [(5, -v)]) rfl (nv1 _ _ _ _ (lin_M m v)) (same_one (absV_neg hv0 hv1)) (exp_2 (k := 5) (n := v) (by decide) hm0 hm1 (chN_5 v _) (chR_5 _) (by simp) (doS m t 1 v (thNew 2 m, false) ht hm0 hm1 ⟨hv0, hv1, .inl ⟨.inl rfl, hp1⟩⟩ (semaP_1n (by omega))) (doS m t 5 v (thNew 2 m, true) ht hm0 hm1 ⟨hv0, hv1, .inl ⟨.inr (.inr (.inl rfl)), hp1⟩⟩ (semaP_5 hc)) ob wt br)
    · obtain ⟨s', hg, hi⟩ := one_step hmay (hr 3 _ rfl) ht hm0 hm1 hv0 hv1 h1 h2 h3 (k := 5) rfl (lin_M m v).symm (fun p hp => by obtain rfl := List.mem_singleton.1 hp; show 0 ≤ lD.val [m, v]; rw [lin_D]; omega) lD rfl (m - v) (lin_D m v).symm (by omega) (by omega) (j + 1)
      exact plc hg hi (val := 0) (ns' := [(1, -v)]) rfl (nv1 _ _ _ _ (lin_M m v)) (same_one (absV_neg hv0 hv1)) (exp_1 (k := 5) (n := v) (by decide) hm0 hm1 (chN_5 v _) (chR_5 _) (doS m t 1 v (thNew 2 (m - v), true) ht hm0 hm1 ⟨hv0, hv1, .inl ⟨.inl rfl, hp1⟩⟩ (semaP_1y (by omega))) ob wt br)
  · have hp1 : 1 ≤ v := by by_cases h : v = 0; exact absurd ⟨.inr (.inr rfl), h⟩ hz1; omega
    by_cases hc : 1000 - m < v
    · obtain ⟨s', hg, hi⟩ := one_step hmay (hr 4 _ rfl) ht hm0 hm1 hv0 hv1 h1 h2 h3 (k := 6) rfl (lin_V m v).symm (fun p hp => by obtain rfl := List.mem_singleton.1 hp; show lE.val [m, v] < 0; rw [lin_E]; omega) lN rfl m (lin_N m v).symm hm0 hm1 (j + 1)
      exact plc hg hi (val := 5) (ns' := [(7, v)]) rfl (nv1 _ _ _ _ (lin_V m v)) (same_one (absV_nn hv0)) (exp_2 (k := 6) (n := v) (by decide) hm0 hm1 (chN_6 v _) (chR_6 _) (by simp) (doS m t 3 v (thNew 2 m, false) ht hm0 hm1 ⟨hv0, hv1, .inl ⟨.inr (.inl rfl), hp1⟩⟩ (semaP_3n (by omega))) (doS m t 7 v (thNew 2 m, true) ht hm0 hm1 ⟨hv0, hv1, .inl ⟨.inr (.inr (.inr rfl)), hp1⟩⟩ (semaP_7 hc)) ob wt br)
    · obtain ⟨s', hg, hi⟩ := one_step hmay (hr 5 _ rfl) ht hm0 hm1 hv0 hv1 h1 h2 h3 (k := 6) rfl (lin_V m v).symm (fun p hp => by obtain rfl := List.mem_singleton.1 hp; show 0 ≤ lE.val [m, v]; rw [lin_E]; omega) ⟨0, [1, 1]⟩ rfl (m + v) (lin_S m v).symm (by omega) (by omega) (j + 1)
      exact plc hg hi (val := 0) (ns' := [(3, v)]) rfl (nv1 _ _ _ _ (lin_V m v)) (same_one (absV_nn hv0)) (exp_1 (k := 6) (n := v) (by decide) hm0 hm1 (chN_6 v _) (chR_6 _) (doS m t 3 v (thNew 2 (m + v), true) ht hm0 hm1 ⟨hv0, hv1, .inl ⟨.inr (.inl rfl), hp1⟩⟩ (semaP_3y (by omega))) ob wt br)
  · have hv7 : v = 0 := by
      by_cases h : v = 0
      · exact h
      · exact absurd ⟨by decide, by decide, by decide, by decide, h⟩ hz2
    by_cases hc : m = 0
    · obtain ⟨s', hg, hi⟩ := one_step hmay (hr 6 _ rfl) ht hm0 hm1 hv0 hv1 h1 h2 h3 (k := 7) rfl (by rw [hv7]; rfl) (fun p hp => by obtain rfl := List.mem_singleton.1 hp; show lN.val [m, v] = 0; rw [lin_N]; exact hc) lN rfl m (lin_N m v).symm hm0 hm1 (j + 1)
      exact plc hg hi (val := 16 * m) (ns' := [(9, m)]) (by rw [hc]; rfl) (by rw [hc]; rfl) (same_one (absV_nn hm0)) (exp_1 (k := 7) (n := v) (by decide) hm0 hm1 (chN_7 v _) (chR_7 _) (doS m t 9 m (thNew 2 m, true) ht hm0 hm1 ⟨hm0, hm1, .inr rfl⟩ (by rw [semaP_9, hc])) ob wt br)
    · obtain ⟨s', hg, hi⟩ := one_step hmay (hr 7 _ rfl) ht hm0 hm1 hv0 hv1 h1 h2 h3 (k := 7) rfl (by rw [hv7]; rfl) (fun p hp => by obtain rfl := List.mem_singleton.1 hp; show lN.val [m, v] ≠ 0; rw [lin_N]; exact hc) (Lin.con 0) rfl 0 (by rw [Lin.val_con]) (by decide) (by decide) (j + 1)
      exact plc hg hi (val := 16 * m) (ns' := [(9, m)]) (lin_16 m v) (nv1 _ _ _ _ (lin_N m v)) (same_one (absV_nn hm0)) (exp_1 (k := 7) (n := v) (by decide) hm0 hm1 (chN_7 v _) (chR_7 _) (doS m t 9 m (thNew 2 0, true) ht hm0 hm1 ⟨hm0, hm1, .inr rfl⟩ (semaP_9 m)) ob wt br)
end Go.Proofs.Ytegjkheecbmioaa
