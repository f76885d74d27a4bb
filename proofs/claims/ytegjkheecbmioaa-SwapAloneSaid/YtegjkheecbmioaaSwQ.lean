/- Swaps done alone: each call's step, plain and as Plays asks for it. -/
import Derived.Test.YtegjkheecbmioaaSwP
import Derived.Test.YtegjkheecbmioaaPlA
namespace Go.Proofs.Ytegjkheecbmioaa
open Go.RowKit
set_option linter.unusedVariables false
set_option linter.unusedSimpArgs false

theorem ofK_le {k o : Int} (h : ofK k = o) (ho : o ≠ 0) : ∃ m : Nat, m < 20 ∧ k = (m : Int) ∧ ofT.getD m 0 = o := by
  have hr := ofK_rng h ho
  refine ⟨k.toNat, by omega, by omega, ?_⟩
  unfold ofK at h
  rwa [if_pos ⟨by omega, by omega⟩] at h
theorem ofK_5 {k : Int} (h : ofK k = 5) : k = 19 := by
  obtain ⟨m, hm, rfl, ho⟩ := ofK_le h (by decide)
  have : ∀ m : Fin 20, ofT.getD m.val 0 = 5 → m.val = 19 := by decide
  have := this ⟨m, hm⟩ ho
  dsimp only at this
  omega
theorem conC_get {l : List Int} {i : Nat} {v : Int} (h : l[i]? = some v) : (conC l)[i]? = some (some (Lin.con v)) := by rw [conC, List.getElem?_map, h]; rfl
/-- Cells that are known, and nothing of the rest. -/
theorem con_rel {l : List Int} {cs : List Int} {n : Nat} {xs : List Int} (hp : ∀ (i : Nat) (v : Int), l[i]? = some v → cs[i]? = some v) : ∀ (j : Nat) (m : Lin), (conC l ++ List.replicate n none)[j]? = some (some m) → cs[j]? = some (m.val xs) := by
  intro j m hj
  by_cases hlt : j < l.length
  · rw [List.getElem?_append_left (by simpa [conC] using hlt)] at hj
    rw [conC_get (List.getElem?_eq_getElem hlt)] at hj
    obtain rfl := Option.some.inj (Option.some.inj hj)
    rw [Lin.val_con]
    exact hp j _ (List.getElem?_eq_getElem hlt)
  · rw [List.getElem?_append_right (by simp [conC]; omega)] at hj
    have hb := (List.getElem?_eq_some_iff.1 hj).1
    rw [List.length_replicate] at hb
    rw [List.getElem?_replicate_of_lt hb] at hj
    cases hj
theorem thr_flag {t : Nat} (ht : t < 8) {s : St} (h : s.thr = List.replicate 8 prk0) : ∃ p, s.thr[t]? = some p ∧ p.flag = false := by
  refine ⟨prk0, ?_, rfl⟩
  rw [h, List.getElem?_replicate_of_lt ht]
def swInv (j : Nat) (x : Th) (s : St) : Prop := x = thNew 5 0 ∧ s.now = 0 ∧ s.thr = List.replicate 8 prk0 ∧ ∃ m, m ≤ j ∧ s.cells.length = 22 + 3 * m ∧ ∀ (i : Nat) (v : Int), (lay0 5 0 false)[i]? = some v → s.cells[i]? = some v
theorem swInv_up (j : Nat) (x : Th) (s : St) (h : swInv j x s) : swInv (j + 1) x s := by
  obtain ⟨a, b, c, m, hm, d⟩ := h
  exact ⟨a, b, c, m, by omega, d⟩
theorem sw_code : ∃ c l, asmB (flatL textsSw) = some (c, l) ∧ (∀ x ∈ c, mayB x = true) ∧ c.length ≤ 100000 ∧ ∀ m t, m < 40 → t < 8 → swOk c l m t = true := by
  have h := sw_all
  unfold swAll at h
  split at h
  · rename_i c l hcl
    simp only [Bool.and_eq_true, decide_eq_true_eq, List.all_eq_true, List.mem_range] at h
    exact ⟨c, l, hcl, h.1.1, h.1.2, fun m t hm ht => h.2 m hm t ht⟩
  · cases h
theorem sw_step {c : List Ins} {l : List Lb} (hmay : ∀ x ∈ c, mayB x = true) (hall : ∀ m t, m < 40 → t < 8 → swOk c l m t = true) : PlStep c l 5 swInv := by
  intro j x s t k ob n wt br hj hI ht hp
  obtain ⟨hk, hn0, hn1, _, _⟩ := hp
  obtain rfl := ofK_5 hk
  obtain ⟨rfl, hnow, hthr, m, hm, hlen, hpre⟩ := hI
  have h := hall m t (by omega) ht
  unfold swOk at h
  split at h
  · rename_i S' v hS
    simp only [Bool.and_eq_true, decide_eq_true_eq] at h
    obtain ⟨⟨⟨⟨rfl, hno⟩, hcs⟩, hcl⟩, htk⟩ := h
    have hrel : SRel [n] 0 t (swS (findB l (nb (entB 19))) m) [] (fr0 (findB l (nb (entB 19))) [1, askB 19 n, 0, 0] 4) s := by
      refine ⟨rfl, rfl, ⟨?_, ?_, con_rel hpre, hnow, thr_flag ht hthr⟩⟩
      · simp [fr0, swS, Lin.val_con, askB, Lin.var, Lin.val, dot, Lin.con]
      · simp only [swS, List.length_append, conC, List.length_map, List.length_replicate]
        rw [hlen]; rfl
    obtain ⟨s', f', hg, hsr, hth⟩ := alS_sound (xs := [n]) (by intro x hx; rw [List.mem_singleton.1 hx]; omega) hmay 500 _ S' _ [] _ s [] hS hrel (by rw [hcs]; intro p hp; cases hp)
    refine ⟨_, _, s', thNew 5 0, [(15, n), (16, 0)], hg, ⟨rfl, hsr.hn, hth.trans hthr, m + 1, by omega, by rw [hsr.hl, hcl]; omega, fun i v hv => ?_⟩, ?_, fun w => ?_⟩
    · have h22 : i < 22 := (List.getElem?_eq_some_iff.1 hv).1
      have := conC_get hv
      rw [← htk, List.getElem?_take_of_lt h22] at this
      have := hsr.hc i _ this
      rwa [Lin.val_con] at this
    · rw [hno]
      refine ⟨by simp [swS, nval], fun i p q hp hq => ?_⟩
      have hx : nval [n] [(15, Lin.var 0), (16, Lin.con 0)] = [(15, n), (16, 0)] := by simp [nval, Lin.val_con, Lin.var, Lin.val, dot, Lin.con]
      rw [show (swS (findB l (nb (entB 19))) m).notes.length = 0 from rfl, List.drop_zero, List.nil_append, hx] at hp
      rw [hp] at hq
      obtain rfl := Option.some.inj hq
      have hm : p ∈ [(15, n), ((16 : Int), (0 : Int))] := List.mem_of_getElem? hp
      refine ⟨rfl, ?_⟩
      unfold absV
      rw [if_neg ?_]
      simp only [List.mem_cons, List.not_mem_nil, or_false] at hm
      rcases hm with rfl | rfl <;> (dsimp only; omega)
    · rw [Lin.val_con]
      exact Expect19_calls (thNew 5 0) t ob n wt br w
  · cases h
end Go.Proofs.Ytegjkheecbmioaa
