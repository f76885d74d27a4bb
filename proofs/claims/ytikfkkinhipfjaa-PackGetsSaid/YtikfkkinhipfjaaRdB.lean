/- The walks of pack.reader's bool and list. -/
import Derived.Test.YtikfkkinhipfjaaRdA
namespace Go.Proofs.Ytikfkkinhipfjaa
open Go.RowKit Go.ChangeShapes
set_option linter.unusedVariables false
set_option linter.unusedSimpArgs false

theorem rnumber_calls {ok : Nat → Prop} (r : Nat) (w : World) (st : Option (List Nat)) (h : RdAt ok r w st) :
    Calls Try.prog 28 #[.pointer (some ⟨r, 0, none⟩)] w fun e w' => e = .returned (.int .i64 (rdNum st).1) ∧ RdAt ok r w' (rdNum st).2 ∧ Only (· = r) w w' := by
  cases st with
  | none => exact rnumber_bad r w h
  | some l => exact rnumber_some r w l h
theorem RdAt.bad {ok : Nat → Prop} {r : Nat} {w : World} {st : Option (List Nat)} (h : RdAt ok r w st) : RdAt ok r (w.setCell ⟨r, 1, none⟩ (.bool true)) none := by
  cases st with
  | none => obtain ⟨⟨v, h0⟩, h1, hT⟩ := h; exact ⟨⟨v, cell_set_off h0 (by decide)⟩, cell_set_same h1 rfl, hT.set _ _⟩
  | some l => obtain ⟨A, c, h0, h1, hT, _⟩ := h; exact ⟨⟨_, cell_set_off h0 (by decide)⟩, cell_set_same h1 rfl, hT.set _ _⟩
theorem RdAt.good {ok : Nat → Prop} {r : Nat} {w : World} {l : List Nat} (h : RdAt ok r w (some l)) : RdAt ok r (w.setCell ⟨r, 1, none⟩ (.bool false)) (some l) := by
  obtain ⟨A, c, h0, h1, hT, hc, hC, hx, hr⟩ := h
  exact ⟨A, c, cell_set_off h0 (by decide), cell_set_same h1 rfl, hT.set _ _, hc, hC.keep (fun k hk _ => Below.heap_setCell _ _ _ _ (fun e => hr (by have e' : k = r := e; rw [← e']; exact hk))), hx, hr⟩
theorem RdAt.ty {ok : Nat → Prop} {r : Nat} {w : World} {st : Option (List Nat)} (h : RdAt ok r w st) : IsT r 65 w := by
  cases st with
  | none => exact h.2.2
  | some l => obtain ⟨A, c, h0, h1, hT, _⟩ := h; exact hT
theorem RdAt.flag {ok : Nat → Prop} {r : Nat} {w : World} {st : Option (List Nat)} (h : RdAt ok r w st) : w.cell? ⟨r, 1, none⟩ = some (.bool st.isNone) := by
  cases st with
  | none => exact h.2.1
  | some l => obtain ⟨A, c, h0, h1, hT, _⟩ := h; exact h1
set_option maxRecDepth 100000 in
set_option maxHeartbeats 1600000 in
theorem rbool_calls {ok : Nat → Prop} (r : Nat) (w : World) (st : Option (List Nat)) (h : RdAt ok r w st) :
    Calls Try.prog 29 #[.pointer (some ⟨r, 0, none⟩)] w fun e w' => e = .returned (.bool (rdBool st).1) ∧ RdAt ok r w' (rdBool st).2 ∧ Only (· = r) w w' := by
  have hN := Lib.hid (rnumber_calls r w st h)
  have hB : Hid (rdBool st = ((rdNum st).1 == 1, if (rdNum st).1 < 0 ∨ 1 < (rdNum st).1 then none else (rdNum st).2)) := Lib.hid rfl
  generalize (rdNum st).1 = n at hN hB
  generalize (rdNum st).2 = st1 at hN hB
  clear h
  cases st1 with
  | none =>
    have hE : Hid (rdBool st = (n == 1, none)) := Lib.hid (by rw [hB.out]; simp)
    clear hB
    go_enter Try.func29, Try.ntmps29
    go_wp2_with fail
    refine hN.out.mono ?_
    rintro e w1 ⟨rfl, hR, hO⟩
    have d1 := hR.flag
    have hT := hR.ty.frozen 1
    have HR := Lib.hid hR
    clear hR
    go_wp2_with fail
    go_ret
    rw [hE.out]
    exact ⟨rfl, HR.out.bad, hO.set (.inl rfl) _⟩
  | some l =>
    by_cases hn : n < 0 ∨ 1 < n
    · have hE : Hid (rdBool st = (n == 1, none)) := Lib.hid (by rw [hB.out, if_pos hn])
      clear hB
      rcases hn with hn | hn
      · have g1 : decide (n < 0) = true := by simpa using hn
        go_enter Try.func29, Try.ntmps29
        go_wp2_with fail
        refine hN.out.mono ?_
        rintro e w1 ⟨rfl, hR, hO⟩
        have d1 := hR.flag
        have hT := hR.ty.frozen 1
        have HR := Lib.hid hR
        clear hR
        go_wp2_with fail
        go_ret
        rw [hE.out]
        exact ⟨rfl, HR.out.bad, hO.set (.inl rfl) _⟩
      · have g1 : decide (n < 0) = false := by simp; omega
        have g2 : decide (1 < n) = true := by simpa using hn
        go_enter Try.func29, Try.ntmps29
        go_wp2_with fail
        refine hN.out.mono ?_
        rintro e w1 ⟨rfl, hR, hO⟩
        have d1 := hR.flag
        have hT := hR.ty.frozen 1
        have HR := Lib.hid hR
        clear hR
        go_wp2_with fail
        go_ret
        rw [hE.out]
        exact ⟨rfl, HR.out.bad, hO.set (.inl rfl) _⟩
    · have hE : Hid (rdBool st = (n == 1, some l)) := Lib.hid (by rw [hB.out, if_neg hn])
      clear hB
      have g1 : decide (n < 0) = false := by simp; omega
      have g2 : decide (1 < n) = false := by simp; omega
      go_enter Try.func29, Try.ntmps29
      go_wp2_with fail
      refine hN.out.mono ?_
      rintro e w1 ⟨rfl, hR, hO⟩
      have d1 := hR.flag
      have hT := hR.ty.frozen 1
      have HR := Lib.hid hR
      clear hR
      go_wp2_with fail
      go_ret
      rw [hE.out]
      exact ⟨rfl, HR.out.good, hO.set (.inl rfl) _⟩
/-- What a list's element asks of a closure. -/
structure Each {σ : Type} (ok : Nat → Prop) (r K : Nat) (cap : Array Value) (f : Option (List Nat) × σ → Option (List Nat) × σ) (I : Option (List Nat) × σ → World → Prop) : Prop where
  rd : ∀ s w, I s w → RdAt ok r w s.1
  num : ∀ st st' z w w', I (st, z) w → RdAt ok r w' st' → Only (· = r) w w' → (∀ l', st' = some l' → ∃ l, st = some l ∧ l'.length < l.length) → I (st', z) w'
  enter : ∀ w, (callFunc K cap).run Try.prog w = .ok (.enter K cap) w
  each : ∀ s w, s.1 ≠ none → I s w → Calls Try.prog K cap w fun e w' => e = .returned (.tuple #[]) ∧ I (f s) w'
set_option maxRecDepth 100000 in
set_option maxHeartbeats 1600000 in
theorem list_calls {σ : Type} {ok : Nat → Prop} {r K : Nat} {p1 p2 : Value} {f : Option (List Nat) × σ → Option (List Nat) × σ} {I : Option (List Nat) × σ → World → Prop} (hE : Each ok r K #[p1, p2] f I) (s : Option (List Nat) × σ) (w : World) (h : I s w) :
    Calls Try.prog 26 #[.pointer (some ⟨r, 0, none⟩), .func (.func K) #[] #[p1, p2]] w fun e w' => e = .returned (.tuple #[]) ∧ I (listF f s) w' := by
  have hN := Lib.hid (rnumber_calls r w s.1 (hE.rd _ _ h))
  have HE := Lib.hid hE
  have hL : Hid (listF f s = if (rdNum s.1).1 < 0 ∨ 65536 < (rdNum s.1).1 then (none, s.2) else manyF f (rdNum s.1).1.toNat ((rdNum s.1).2, s.2)) := Lib.hid rfl
  have hst := Lib.hid (fun st' w' => hE.num s.1 st' s.2 w w' h)
  have hlen := Lib.hid (rdNum_len (st := s.1))
  generalize hn : (rdNum s.1).1 = n at hN hL
  generalize (rdNum s.1).2 = st1 at hN hL hlen
  clear h hE hn
  by_cases hbad : st1 = none ∨ n < 0 ∨ 65536 < n
  · have hL' : Hid (listF f s = (none, s.2)) := Lib.hid (by
      rw [hL.out]
      split
      · rfl
      · rename_i h1
        have : st1 = none := by rcases hbad with h | h; exact h; exact absurd h h1
        subst this
        cases n.toNat <;> simp [manyF])
    clear hL
    have step : ∀ w1 : World, RdAt ok r w1 st1 → Only (· = r) w w1 → I (none, s.2) (w1.setCell ⟨r, 1, none⟩ (.bool true)) := fun w1 hR hO => hst.out none _ hR.bad (hO.set (.inl rfl) _) (fun _ h => by cases h)
    have Hstep := Lib.hid step
    clear step hst HE
    cases st1 with
    | none =>
      have hq : decide (0 < n) = true ∨ decide (0 < n) = false := by cases decide (0 < n) <;> simp
      clear hbad
      rcases hq with hq | hq
      all_goals
        go_enter Try.func26, Try.ntmps26
        go_wp2_with fail
        refine hN.out.mono ?_
        rintro e w1 ⟨rfl, hR, hO⟩
        have d1 := hR.flag
        have hT := hR.ty
        have hf := hT.frozen 1
        have hI := Lib.hid (Hstep.out w1 hR hO)
        have d2 : (w1.setCell ⟨r, 1, none⟩ (.bool true)).cell? ⟨r, 1, none⟩ = some (.bool true) := cell_set_same d1 rfl
        clear hR hO
        go_wp2_with fail
        clear hf hT d1
        generalize w1.setCell ⟨r, 1, none⟩ (.bool true) = w2 at hI d2 ⊢
        go_loopw [4] (fun v wr => v = .int .i64 n ∧ w2 = wr) (fun _ _ => 0)
        case atStart => exact ⟨rfl, rfl⟩
        case round =>
          obtain ⟨rfl, rfl⟩ := hrel
          go_wp2_with fail
          go_end0
          exact ⟨rfl, by rw [hL'.out]; exact hI.out⟩
    | some l =>
      by_cases hn : n < 0
      · have hq : decide (0 < n) = false := by simp; omega
        have g1 : decide (n < 0) = true := by simpa using hn
        clear hbad
        go_enter Try.func26, Try.ntmps26
        go_wp2_with fail
        refine hN.out.mono ?_
        rintro e w1 ⟨rfl, hR, hO⟩
        have d1 := hR.flag
        have hT := hR.ty
        have hf := hT.frozen 1
        have hI := Lib.hid (Hstep.out w1 hR hO)
        have d2 : (w1.setCell ⟨r, 1, none⟩ (.bool true)).cell? ⟨r, 1, none⟩ = some (.bool true) := cell_set_same d1 rfl
        clear hR hO
        go_wp2_with fail
        clear hf hT d1
        generalize w1.setCell ⟨r, 1, none⟩ (.bool true) = w2 at hI d2 ⊢
        go_loopw [4] (fun v wr => v = .int .i64 n ∧ w2 = wr) (fun _ _ => 0)
        case atStart => exact ⟨rfl, rfl⟩
        case round =>
          obtain ⟨rfl, rfl⟩ := hrel
          go_wp2_with fail
          go_end0
          exact ⟨rfl, by rw [hL'.out]; exact hI.out⟩
      · have hn2 : 65536 < n := by simpa [hn] using hbad
        have hq : decide (0 < n) = true := by simp; omega
        have g1 : decide (n < 0) = false := by simpa using hn
        have g2 : decide (65536 < n) = true := by simpa using hn2
        clear hbad
        go_enter Try.func26, Try.ntmps26
        go_wp2_with fail
        refine hN.out.mono ?_
        rintro e w1 ⟨rfl, hR, hO⟩
        have d1 := hR.flag
        have hT := hR.ty
        have hf := hT.frozen 1
        have hI := Lib.hid (Hstep.out w1 hR hO)
        have d2 : (w1.setCell ⟨r, 1, none⟩ (.bool true)).cell? ⟨r, 1, none⟩ = some (.bool true) := cell_set_same d1 rfl
        clear hR hO
        go_wp2_with fail
        clear hf hT d1
        generalize w1.setCell ⟨r, 1, none⟩ (.bool true) = w2 at hI d2 ⊢
        go_loopw [4] (fun v wr => v = .int .i64 n ∧ w2 = wr) (fun _ _ => 0)
        case atStart => exact ⟨rfl, rfl⟩
        case round =>
          obtain ⟨rfl, rfl⟩ := hrel
          go_wp2_with fail
          go_end0
          exact ⟨rfl, by rw [hL'.out]; exact hI.out⟩
  · obtain ⟨l, rfl⟩ : ∃ l, st1 = some l := by cases st1 with
      | none => simp at hbad
      | some l => exact ⟨l, rfl⟩
    have hn : 0 ≤ n ∧ n ≤ 65536 := by simp at hbad; omega
    obtain ⟨k0, rfl⟩ := Int.eq_ofNat_of_zero_le hn.1
    have hk0 : k0 ≤ 65536 := by omega
    have hL' : Hid (listF f s = manyF f k0 (some l, s.2)) := Lib.hid (by rw [hL.out, if_neg (by simp at hbad; omega)]; rfl)
    have step : ∀ w1 : World, RdAt ok r w1 (some l) → Only (· = r) w w1 → I (some l, s.2) (w1.setCell ⟨r, 1, none⟩ (.bool false)) := fun w1 hR hO => hst.out _ _ hR.good (hO.set (.inl rfl) _) (fun l' h => hlen.out l' h)
    have Hstep := Lib.hid step
    clear step hst hL hbad hn
    have g1 : decide ((k0 : Int) < 0) = false := by simp
    have g2 : decide (65536 < (k0 : Int)) = false := by simp; omega
    go_enter Try.func26, Try.ntmps26
    go_wp2_with fail
    refine hN.out.mono ?_
    rintro e w1 ⟨rfl, hR, hO⟩
    have d1 := hR.flag
    have hT := hR.ty
    have hf := hT.frozen 1
    have hI := Lib.hid (Hstep.out w1 hR hO)
    clear hR hO
    go_wp2_with fail
    clear hf hT d1
    generalize w1.setCell ⟨r, 1, none⟩ (.bool false) = w2 at hI ⊢
    go_loopw [4] (fun v wr => ∃ (k : Nat) (t : Option (List Nat) × σ), k ≤ 65536 ∧ v = .int .i64 k ∧ I t wr ∧ listF f s = manyF f k t) (fun v _ => (intOf v).toNat)
    case atStart => exact ⟨k0, _, hk0, rfl, hI.out, hL'.out⟩
    case round =>
      clear hL' hI g1 g2 Hstep
      obtain ⟨k, t, hk, rfl, hI0, hL0⟩ := hrel
      have hR := HE.out.rd _ _ hI0
      have d1 := hR.flag
      have hI := Lib.hid hI0
      have hL := Lib.hid hL0
      clear hI0 hL0 hR
      cases k with
      | zero =>
        have hE : Hid (listF f s = t) := Lib.hid (by rw [hL.out]; rfl)
        go_wp2_with fail
        go_end0
        exact ⟨rfl, by rw [hE.out]; exact hI.out⟩
      | succ k =>
        have hq : decide (0 < ((k + 1 : Nat) : Int)) = true := by simp
        by_cases ht : t.1 = none
        · rw [ht] at d1
          have hE : Hid (listF f s = t) := Lib.hid (by rw [hL.out, manyF, if_pos ht])
          clear ht
          go_wp2_with fail
          go_end0
          exact ⟨rfl, by rw [hE.out]; exact hI.out⟩
        · have hE : Hid (listF f s = manyF f k (f t)) := Lib.hid (by rw [hL.out, manyF, if_neg ht])
          have d2 : t.1.isNone = false := by
            cases h : t.1 with
            | none => exact absurd h ht
            | some l => rfl
          rw [d2] at d1
          have ht' := Lib.hid ht
          clear ht d2
          have hen := HE.out.enter
          go_wp2_with fail
          refine (HE.out.each _ _ ht'.out hI.out).mono ?_
          rintro e w3 ⟨rfl, hI3⟩
          have HI3 := Lib.hid hI3
          clear hI3
          go_wp2_with fail
          go_roundw
          case rel => exact ⟨k, _, by omega, by go_num, HI3.out, hE.out⟩
          case measure => simp [intOf]
end Go.Proofs.Ytikfkkinhipfjaa
