/- The walk of pack.Get's second closure. -/
import Derived.Test.YtikfkkinhipfjaaGetP
namespace Go.Proofs.Ytikfkkinhipfjaa
open Go.RowKit Go.ChangeShapes
set_option linter.unusedVariables false
set_option linter.unusedSimpArgs false

theorem manyF_len {σ : Type} {f : Option (List Nat) × σ → Option (List Nat) × σ} (hf : ∀ s l', (f s).1 = some l' → ∃ l, s.1 = some l ∧ l'.length < l.length) : ∀ (n : Nat) (s : Option (List Nat) × σ) l', (manyF f n s).1 = some l' → ∃ l, s.1 = some l ∧ l'.length ≤ l.length
  | 0, s, l', h => ⟨l', h, Nat.le_refl _⟩
  | n + 1, s, l', h => by
    rw [manyF] at h
    split at h
    · rename_i h1; rw [h1] at h; cases h
    · obtain ⟨l1, h1, h2⟩ := manyF_len hf n _ _ h
      obtain ⟨l2, h3, h4⟩ := hf _ _ h1
      exact ⟨l2, h3, by omega⟩
theorem listF_len {σ : Type} {f : Option (List Nat) × σ → Option (List Nat) × σ} (hf : ∀ s l', (f s).1 = some l' → ∃ l, s.1 = some l ∧ l'.length < l.length) (s : Option (List Nat) × σ) (l' : List Nat) (h : (listF f s).1 = some l') : ∃ l, s.1 = some l ∧ l'.length < l.length := by
  unfold listF at h
  split at h
  · cases h
  · obtain ⟨l1, h1, h2⟩ := manyF_len hf _ _ _ h
    obtain ⟨l2, h3, h4⟩ := rdNum_len _ h1
    exact ⟨l2, h3, by omega⟩
theorem rowF_len {s : Option (List Nat) × List (List Cl)} : ∀ l', (rowF s).1 = some l' → ∃ l, s.1 = some l ∧ l'.length < l.length := fun l' h => listF_len (fun _ l' h => clF_len l' h) (s.1, []) l' h
theorem info_rows : (Try.prog.info? 49).map (fun i => (i.zero, i.size, i.bytes)) = some (some (.slice none 0 0), 1, 24) := by kernel_rfl
set_option maxRecDepth 100000 in
set_option maxHeartbeats 1600000 in
theorem get2_calls {Z : World} {B : Nat} {ok : Nat → Prop} {r rb sb : Nat} {os : List Ob} {ks : List Pk} (s : Option (List Nat) × List (List Cl)) (w : World) (hs : s.1 ≠ none) (h : GetInv Z B ok r rb sb s.1 os s.2 ks w) :
    Calls Try.prog 30 #[.pointer (some ⟨sb, 0, none⟩), .pointer (some ⟨rb, 0, none⟩)] w fun e w' => e = .returned (.tuple #[]) ∧ GetInv Z B ok r rb sb (rowF s).1 os (rowF s).2 ks w' := by
  obtain ⟨i0, hi0, hz0, hs0, hb0⟩ := info_parts info_rows
  have hu : Try.prog.underlying 23 = some (.slice 49) := Try.underlying23
  obtain ⟨st, ps⟩ := s
  obtain ⟨l0, rfl⟩ : ∃ l, st = some l := by
    cases st with
    | none => exact absurd rfl hs
    | some l => exact ⟨l, rfl⟩
  have hlen := h.len l0 rfl
  simp only at hlen
  have hI := Lib.hid h
  have rbc := h.rbc
  have hlo := h.lo.2.2.2
  have nr : rb ≠ r := fun e => absurd ((e ▸ h.rbT).uniq h.rd.ty) (by decide)
  have ns : sb ≠ r := fun e => absurd ((e ▸ h.sbT).uniq h.rd.ty) (by decide)
  have lrb := h.rbT.lt
  have lsb := h.sbT.lt
  have lr := h.rd.ty.lt
  obtain ⟨v1, hs1, c1, o1, k1⟩ := h.f1
  have O1 := Lib.hid o1
  have K1 := Lib.hid k1
  have C1 := Lib.hid c1
  have hF : Hid (rowF (some l0, ps) = ((listF clF (some l0, [])).1, ps ++ [(listF clF (some l0, [])).2])) := Lib.hid rfl
  have hFl := Lib.hid (rowF_len (s := (some l0, ps)))
  clear h hs o1 k1
  go_enter Try.func30, Try.ntmps30
  go_wp2_with fail
  refine Mix.region [0, 1, 2] [3, 4, 5, 6, 7] 2 (fun w' => w'.cell? ⟨sb, 1, none⟩ = some v1 ∧ w'.cell? ⟨rb, 0, none⟩ = some (.pointer (some ⟨r, 0, none⟩))) (by kernel_rfl) (by kernel_rfl) ?_ ?_
  · exact ⟨c1, rbc⟩
  repeat (apply Mix.step; (· rfl); (· intro w' hR V hV; obtain ⟨r0, r1⟩ := hR; go_simp; exact hV); intro K hK; go_simp; refine hK _ ?_; clear hK K)
  refine Mix.nil ?_
  simp only [Mix.Tail, Mix.pick, List.getElem?_cons_succ, List.getElem?_cons_zero]
  go_wp2_with fail
  refine (program_calls (some l0) w.drew (hI.out.rd.below (by (repeat (with_reducible first | exact Below.refl _ _ | assumption | apply below_alloc | apply below_drewN | apply below_drew1 | (refine below_set ?_ (by simp only [alloc_size]; omega)) | (refine below_step ?_ (by assumption)))))) (fun k hk => ⟨?_, ?_⟩) (fun l e => ?_)).mono ?_
  · have := hI.out.okB k hk
    show k < w.heap.size
    omega
  · have := hI.out.okB k hk
    have := hI.out.lo.1
    omega
  · obtain rfl := Option.some.inj e
    omega
  rintro e w1 ⟨A2, c2, rfl, hlc, hC, hR1, hO1⟩
  have O4 : Only (fun b => b = r ∨ w.heap.size ≤ b) w w1 := ((Only.refl _ w).drew).trans (hO1.mono (fun _ => Or.inl))
  have G4 := hI.out.step O4 hR1 (fun l' e => by obtain ⟨l, e1, e2⟩ := hFl.out l' e; exact ⟨l, e1, by omega⟩)
  have G4' := Lib.hid G4
  have d1 : w1.cell? ⟨sb, 1, none⟩ = some v1 := O4.cell C1.out (by show ¬ (sb = r ∨ w.heap.size ≤ sb); omega)
  have d2 : w1.cell? ⟨rb, 0, none⟩ = some (.pointer (some ⟨r, 0, none⟩)) := O4.cell rbc (by show ¬ (rb = r ∨ w.heap.size ≤ rb); omega)
  have D1 := Lib.hid d1
  have hown : w1.ownsRow B 49 1 v1 ps.length hs1 := own_grow O1.out (fun k hk hk2 => O4.block k hk2 (fun e => by
    rcases e with e | e
    · subst e; exact absurd ((own_ty O1.out hk).uniq hI.out.rd.ty) (by decide)
    · omega))
  have hrow : RowsAt B ps hs1 w1 := K1.out.keep (fun k hk => O4.block k hk.lt (fun e => by
    rcases e with e | e
    · subst e; exact absurd (hk.uniq hI.out.rd.ty) (by decide)
    · have := hk.lt; omega))
  have HO := Lib.hid hown
  have HR := Lib.hid hrow
  have hC' := Lib.hid (C_ofT (n' := B) hC hlo (fun _ _ => rfl))
  have hlc' := Lib.hid hlc
  have z1 := O4.size
  have lsb1 : sb < w1.heap.size := by omega
  have lrb1 : rb < w1.heap.size := by omega
  clear G4 hown hrow hC hR1 O4 hO1 c1 hlc rbc
  have hcl := hC'.out.len
  generalize (listF clF (some l0, [])).2 = pl at hF hC' hlc' hcl ⊢
  generalize (listF clF (some l0, [])).1 = st1 at hF G4' ⊢
  go_wp2_with fail
  refine ⟨⟨d1, d2⟩, ?_⟩
  go_wp2_with fail
  refine ⟨⟨by go_simp, by go_simp⟩, ?_⟩
  go_wp2_with (first | (at_builtin; refine wpList_append_uni rfl _ _ 23 rfl B 49 i0 _ 1 24 hu hi0 hz0 hs0 hb0 rfl (by decide) _ _ _ rfl (HO.out.alloc _) _ 1 [.slice A2 pl.length c2] rfl rfl (Src.of_block (alloc_heap_at _ _) (by intro u hu; rw [List.mem_singleton.1 hu]; rfl)) (by unfold maxLen; omega) (by omega) (by rw [alloc_size]; omega) ?_) | fail)
  intro A c w5 o5 g5 h5
  have hq := G4'.out.sbA (i := 1) HO.out g5 (by decide) _ D1.out
  obtain ⟨q1, q2⟩ := hq
  have hfin := Lib.hid (G4'.out.push1A D1.out HO.out HR.out hC'.out hlc'.out o5 g5 (fun l e => by obtain ⟨l1, e1, e2⟩ := hFl.out l (by rw [hF.out]; exact e); obtain rfl := Option.some.inj e1; omega))
  go_wp2_with fail
  refine Mix.calm_end ?_
  go_wp2_with fail
  go_end0
  rw [hF.out]
  exact ⟨rfl, hfin.out⟩
end Go.Proofs.Ytikfkkinhipfjaa
