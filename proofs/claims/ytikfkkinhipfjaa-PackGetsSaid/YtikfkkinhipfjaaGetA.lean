/- The walk of pack.Get's first closure. -/
import Derived.Test.YtikfkkinhipfjaaGetI
namespace Go.Proofs.Ytikfkkinhipfjaa
open Go.RowKit Go.ChangeShapes
set_option linter.unusedVariables false
set_option linter.unusedSimpArgs false

theorem obF_len {s : Option (List Nat) × List Ob} : ∀ l', (obF s).1 = some l' → ∃ l, s.1 = some l ∧ l'.length < l.length := by
  intro l' h
  obtain ⟨l1, h1, n1⟩ := rdNum_len l' h
  obtain ⟨l2, h2, n2⟩ := rdBool_len l1 h1
  obtain ⟨l3, h3, n3⟩ := rdNum_len l2 h2
  exact ⟨l3, h3, by omega⟩
theorem pkF_len {s : Option (List Nat) × List Pk} : ∀ l', (pkF s).1 = some l' → ∃ l, s.1 = some l ∧ l'.length < l.length := by
  intro l' h
  obtain ⟨l1, h1, n1⟩ := rdNum_len l' h
  obtain ⟨l2, h2, n2⟩ := rdNum_len l1 h1
  exact ⟨l2, h2, by omega⟩
set_option maxRecDepth 100000 in
set_option maxHeartbeats 1600000 in
theorem get1_calls {Z : World} {B : Nat} {ok : Nat → Prop} {r rb sb : Nat} {ps : List (List Cl)} {ks : List Pk} (s : Option (List Nat) × List Ob) (w : World) (hs : s.1 ≠ none) (h : GetInv Z B ok r rb sb s.1 s.2 ps ks w) :
    Calls Try.prog 27 #[.pointer (some ⟨rb, 0, none⟩), .pointer (some ⟨sb, 0, none⟩)] w fun e w' => e = .returned (.tuple #[]) ∧ GetInv Z B ok r rb sb (obF s).1 (obF s).2 ps ks w' := by
  obtain ⟨i0, hi0, hz0, hs0, hb0⟩ := info_parts info_ob
  have hu : Try.prog.underlying 22 = some (.slice 48) := Try.underlying22
  obtain ⟨st, os⟩ := s
  obtain ⟨l0, rfl⟩ : ∃ l, st = some l := by
    cases st with
    | none => exact absurd rfl hs
    | some l => exact ⟨l, rfl⟩
  have hlen := h.len l0 rfl
  simp only at hlen
  have hI := Lib.hid h
  have rbc := h.rbc
  have hlo := h.lo.2.2.2
  have nr : rb ≠ r := fun e => absurd ((e ▸ h.rbT).uniq h.rd.ty) (by decide)
  have ns : sb ≠ r := fun e => absurd ((e ▸ h.sbT).uniq h.rd.ty) (by decide)
  have lrb := h.rbT.lt
  have lsb := h.sbT.lt
  have lr := h.rd.ty.lt
  have hF : Hid (obF (some l0, os) = ((rdNum (rdBool (rdNum (some l0)).2).2).2, os ++ [⟨(rdNum (some l0)).1, (rdBool (rdNum (some l0)).2).1, (rdNum (rdBool (rdNum (some l0)).2).2).1⟩])) := Lib.hid rfl
  have hFl := Lib.hid (obF_len (s := (some l0, os)))
  clear h hs
  go_enter Try.func27, Try.ntmps27
  go_wp2_with fail
  refine (rnumber_calls r _ _ hI.out.rd).mono ?_
  rintro e w1 ⟨rfl, hR1, hO1⟩
  have rb1 := hO1.cell rbc nr
  have z1 := hO1.size
  have lb1 : rb < w1.heap.size := by omega
  have ls1 : sb < w1.heap.size := by omega
  clear rbc
  go_wp2_with fail
  refine (rbool_calls r _ _ (hR1.below (by (repeat (with_reducible first | exact Below.refl _ _ | assumption | apply below_alloc | apply below_drewN | apply below_drew1 | (refine below_set ?_ (by simp only [alloc_size]; omega)) | (refine below_step ?_ (by assumption))))))).mono ?_
  rintro e w2 ⟨rfl, hR2, hO2⟩
  have z2 := hO2.size
  rw [alloc_size] at z2
  have n1 : w1.heap.size ≠ r := by omega
  have rb2 := hO2.cell (cell_alloc_of rb1 _) nr
  have x0 := hO2.cell (box_cell w1 [_, _, _] 48 (i := 0) rfl) n1
  have x1 := hO2.cell (box_cell w1 [_, _, _] 48 (i := 1) rfl) n1
  have x2 := hO2.cell (box_cell w1 [_, _, _] 48 (i := 2) rfl) n1
  have xT : IsT w1.heap.size 48 w2 := (IsT.new w1 _ _).keep (hO2.block _ (by rw [alloc_size]; omega) n1)
  have xf := xT.frozen 1
  go_wp2_with fail
  have R2 := (hR2.only (S := (· = w1.heap.size)) (Only.set (S := (· = w1.heap.size)) (Only.refl _ w2) (p := ⟨w1.heap.size, 1, none⟩) (.inl rfl) (.bool (rdBool (rdNum (some l0)).2).1)) (fun e => n1 e.symm) (fun k hk e => by have := hI.out.okB k hk; omega))
  refine (rnumber_calls r _ _ R2).mono ?_
  rintro e w3 ⟨rfl, hR3, hO3⟩
  have z3 := hO3.size
  have e3 : (w2.setCell ⟨w1.heap.size, 1, none⟩ (.bool (rdBool (rdNum (some l0)).2).1)).heap.size = w2.heap.size := by simp [World.setCell]
  rw [e3] at z3
  have y0 := hO3.cell (cell_set_off x0 (j := 1) (by decide)) n1
  have y1 := hO3.cell (cell_set_same x1 rfl) n1
  have y2 := hO3.cell (cell_set_off x2 (j := 1) (by decide)) n1
  have yT := (xT.set ⟨w1.heap.size, 1, none⟩ (.bool (rdBool (rdNum (some l0)).2).1)).keep (hO3.block _ (by omega) n1)
  have yf := yT.frozen 2
  have rb3 := hO3.cell ((cell_set_ne w2 _ ⟨w1.heap.size, 1, none⟩ (.bool (rdBool (rdNum (some l0)).2).1) (by show rb ≠ w1.heap.size; omega)).trans rb2) nr
  have O4 : Only (fun b => b = r ∨ w.heap.size ≤ b) w (w3.setCell ⟨w1.heap.size, 2, none⟩ (.int .i64 (rdNum (rdBool (rdNum (some l0)).2).2).1)) :=
    (((((hO1.mono (fun _ => Or.inl)).alloc _).trans (hO2.mono (fun _ => Or.inl))).set (.inr z1) _).trans (hO3.mono (fun _ => Or.inl))).set (.inr z1) _
  have R4 := (hR3.only (S := (· = w1.heap.size)) (Only.set (S := (· = w1.heap.size)) (Only.refl _ w3) (p := ⟨w1.heap.size, 2, none⟩) (.inl rfl) (.int .i64 (rdNum (rdBool (rdNum (some l0)).2).2).1)) (fun e => n1 e.symm) (fun k hk e => by have := hI.out.okB k hk; omega))
  have G4 := hI.out.step O4 R4 (fun l' e => by obtain ⟨l, e1, e2⟩ := hFl.out l' e; exact ⟨l, e1, by omega⟩)
  obtain ⟨v4, c4, o4⟩ := G4.f0
  have G4' := Lib.hid G4
  have c3 : w3.cell? ⟨sb, 0, none⟩ = some v4 := (cell_set_ne _ _ _ _ (by show sb ≠ w1.heap.size; omega)).symm.trans c4
  have c4' := Lib.hid c4
  have z4 := O4.size
  have sbT4 := G4.sbT.frozen 0
  clear G4 c4 O4 R4 hR3 R2 hR2 hO1 hO2 hO3 hR1 e3 x0 x1 x2 xT xf rb1 rb2
  go_wp2_with (first | (at_builtin; refine wpList_append_uni rfl _ _ 22 rfl B 48 i0 _ 3 24 hu hi0 hz0 hs0 hb0 rfl (by decide) _ _ _ rfl (o4.alloc _) _ 1 (Ob.enc ⟨(rdNum (some l0)).1, (rdBool (rdNum (some l0)).2).1, (rdNum (rdBool (rdNum (some l0)).2).2).1⟩) rfl rfl (ob_src (alloc_set_at _ _ _ _)) (by unfold maxLen; omega) (by omega) (by rw [alloc_size]; omega) ?_) | fail)
  intro A c w5 o5 g5 h5
  have hq := G4'.out.sbA (i := 0) o4 g5 (by decide) _ c4'.out
  obtain ⟨q1, q2⟩ := hq
  have hfin := Lib.hid (G4'.out.push0A c4'.out o4 o5 g5 (fun l e => by obtain ⟨l1, e1, e2⟩ := hFl.out l (by rw [hF.out]; exact e); obtain rfl := Option.some.inj e1; omega))
  go_wp2_with fail
  go_end0
  rw [hF.out]
  exact ⟨rfl, hfin.out⟩
end Go.Proofs.Ytikfkkinhipfjaa
