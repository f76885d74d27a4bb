/- The walk of pack.Get's third closure. -/
import Derived.Test.YtikfkkinhipfjaaGetA
namespace Go.Proofs.Ytikfkkinhipfjaa
open Go.RowKit Go.ChangeShapes
set_option linter.unusedVariables false
set_option linter.unusedSimpArgs false

set_option maxRecDepth 100000 in
set_option maxHeartbeats 1600000 in
theorem get3_calls {Z : World} {B : Nat} {ok : Nat → Prop} {r rb sb : Nat} {os : List Ob} {ps : List (List Cl)} (s : Option (List Nat) × List Pk) (w : World) (hs : s.1 ≠ none) (h : GetInv Z B ok r rb sb s.1 os ps s.2 w) :
    Calls Try.prog 32 #[.pointer (some ⟨rb, 0, none⟩), .pointer (some ⟨sb, 0, none⟩)] w fun e w' => e = .returned (.tuple #[]) ∧ GetInv Z B ok r rb sb (pkF s).1 os ps (pkF s).2 w' := by
  obtain ⟨i0, hi0, hz0, hs0, hb0⟩ := info_parts info_pk
  have hu : Try.prog.underlying 24 = some (.slice 56) := Try.underlying24
  obtain ⟨st, ks⟩ := s
  obtain ⟨l0, rfl⟩ : ∃ l, st = some l := by
    cases st with
    | none => exact absurd rfl hs
    | some l => exact ⟨l, rfl⟩
  have hlen := h.len l0 rfl
  simp only at hlen
  have hI := Lib.hid h
  have rbc := h.rbc
  have hlo := h.lo.2.2.2
  have nr : rb ≠ r := fun e => absurd ((e ▸ h.rbT).uniq h.rd.ty) (by decide)
  have ns : sb ≠ r := fun e => absurd ((e ▸ h.sbT).uniq h.rd.ty) (by decide)
  have lrb := h.rbT.lt
  have lsb := h.sbT.lt
  have lr := h.rd.ty.lt
  have hF : Hid (pkF (some l0, ks) = ((rdNum (rdNum (some l0)).2).2, ks ++ [⟨(rdNum (some l0)).1, (rdNum (rdNum (some l0)).2).1⟩])) := Lib.hid rfl
  have hFl := Lib.hid (pkF_len (s := (some l0, ks)))
  clear h hs
  go_enter Try.func32, Try.ntmps32
  go_wp2_with fail
  refine (rnumber_calls r _ _ hI.out.rd).mono ?_
  rintro e w1 ⟨rfl, hR1, hO1⟩
  have rb1 := hO1.cell rbc nr
  have z1 := hO1.size
  have lb1 : rb < w1.heap.size := by omega
  have ls1 : sb < w1.heap.size := by omega
  clear rbc
  go_wp2_with fail
  refine (rnumber_calls r _ _ (hR1.below (by (repeat (with_reducible first | exact Below.refl _ _ | assumption | apply below_alloc | apply below_drewN | apply below_drew1 | (refine below_set ?_ (by simp only [alloc_size]; omega)) | (refine below_step ?_ (by assumption))))))).mono ?_
  rintro e w2 ⟨rfl, hR2, hO2⟩
  have z2 := hO2.size
  rw [alloc_size] at z2
  have n1 : w1.heap.size ≠ r := by omega
  have x0 := hO2.cell (box_cell w1 [_, _] 56 (i := 0) rfl) n1
  have x1 := hO2.cell (box_cell w1 [_, _] 56 (i := 1) rfl) n1
  have xT : IsT w1.heap.size 56 w2 := (IsT.new w1 _ _).keep (hO2.block _ (by rw [alloc_size]; omega) n1)
  have xf := xT.frozen 1
  have O4 : Only (fun b => b = r ∨ w.heap.size ≤ b) w (w2.setCell ⟨w1.heap.size, 1, none⟩ (.int .i64 (rdNum (rdNum (some l0)).2).1)) :=
    (((hO1.mono (fun _ => Or.inl)).alloc _).trans (hO2.mono (fun _ => Or.inl))).set (.inr z1) _
  have R4 := (hR2.only (S := (· = w1.heap.size)) (Only.set (S := (· = w1.heap.size)) (Only.refl _ w2) (p := ⟨w1.heap.size, 1, none⟩) (.inl rfl) (.int .i64 (rdNum (rdNum (some l0)).2).1)) (fun e => n1 e.symm) (fun k hk e => by have := hI.out.okB k hk; omega))
  have G4 := hI.out.step O4 R4 (fun l' e => by obtain ⟨l, e1, e2⟩ := hFl.out l' e; exact ⟨l, e1, by omega⟩)
  obtain ⟨v4, c4, o4⟩ := G4.f2
  have G4' := Lib.hid G4
  have c3 : w2.cell? ⟨sb, 2, none⟩ = some v4 := (cell_set_ne _ _ _ _ (by show sb ≠ w1.heap.size; omega)).symm.trans c4
  have c4' := Lib.hid c4
  have z4 := O4.size
  clear G4 c4 O4 R4 hR2 hO1 hO2 hR1 rb1
  go_wp2_with (first | (at_builtin; refine wpList_append_uni rfl _ _ 24 rfl B 56 i0 _ 2 16 hu hi0 hz0 hs0 hb0 rfl (by decide) _ _ _ rfl (o4.alloc _) _ 1 (Pk.enc ⟨(rdNum (some l0)).1, (rdNum (rdNum (some l0)).2).1⟩) rfl rfl (pk_src (alloc_set_at _ _ _ _)) (by unfold maxLen; omega) (by omega) (by rw [alloc_size]; omega) ?_) | fail)
  intro A c w5 o5 g5 h5
  have hq := G4'.out.sbA (i := 2) o4 g5 (by decide) _ c4'.out
  obtain ⟨q1, q2⟩ := hq
  have hfin := Lib.hid (G4'.out.push2A c4'.out o4 o5 g5 (fun l e => by obtain ⟨l1, e1, e2⟩ := hFl.out l (by rw [hF.out]; exact e); obtain rfl := Option.some.inj e1; omega))
  go_wp2_with fail
  go_end0
  rw [hF.out]
  exact ⟨rfl, hfin.out⟩
end Go.Proofs.Ytikfkkinhipfjaa
