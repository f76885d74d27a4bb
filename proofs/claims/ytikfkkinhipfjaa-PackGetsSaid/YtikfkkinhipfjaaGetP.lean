/- The walks of pack.reader's program and of its closure. -/
import Derived.Test.YtikfkkinhipfjaaGetC
namespace Go.Proofs.Ytikfkkinhipfjaa
open Go.RowKit Go.ChangeShapes
set_option linter.unusedVariables false
set_option linter.unusedSimpArgs false

theorem clF_len {s : Option (List Nat) × List Cl} : ∀ l', (clF s).1 = some l' → ∃ l, s.1 = some l ∧ l'.length < l.length := by
  intro l' h
  obtain ⟨l1, h1, n1⟩ := rdBool_len l' h
  obtain ⟨l2, h2, n2⟩ := rdNum_len l1 h1
  obtain ⟨l3, h3, n3⟩ := rdNum_len l2 h2
  obtain ⟨l4, h4, n4⟩ := rdNum_len l3 h3
  obtain ⟨l5, h5, n5⟩ := rdNum_len l4 h4
  exact ⟨l5, h5, by omega⟩
/-- What holds between the rounds of a program's list. -/
structure PrInv (W : World) (ok : Nat → Prop) (r : Nat) (st : Option (List Nat)) (cs : List Cl) (w : World) : Prop where
  rd : RdAt ok r w st
  bT : IsT W.heap.size 63 w
  bc : w.cell? ⟨W.heap.size, 0, none⟩ = some (.pointer (some ⟨r, 0, none⟩))
  oT : IsT (W.heap.size + 1) 49 w
  f : ∃ v, w.cell? ⟨W.heap.size + 1, 0, none⟩ = some v ∧ w.ownsRow W.heap.size 54 5 v cs.length (cs.flatMap Cl.enc)
  on : Only (· = r) W w
  lo : r < W.heap.size
  okB : ∀ k, ok k → k < W.heap.size ∧ k ≠ r
  len : ∀ l, st = some l → l.length + cs.length ≤ 1000000
section
variable {W w w' : World} {ok : Nat → Prop} {r : Nat} {st st' : Option (List Nat)} {cs : List Cl}
theorem PrInv.step (h : PrInv W ok r st cs w) (hO : Only (fun b => b = r ∨ w.heap.size ≤ b) w w') (hR : RdAt ok r w' st') (hl : ∀ l', st' = some l' → ∃ l, st = some l ∧ l'.length ≤ l.length) : PrInv W ok r st' cs w' := by
  have n1 : ¬ (W.heap.size = r ∨ w.heap.size ≤ W.heap.size) := by have := h.bT.lt; have := h.lo; omega
  have n2 : ¬ (W.heap.size + 1 = r ∨ w.heap.size ≤ W.heap.size + 1) := by have := h.oT.lt; have := h.lo; omega
  obtain ⟨v, c0, o0⟩ := h.f
  have hs := h.on.size
  refine ⟨hR, h.bT.keep (hO.block _ h.bT.lt n1), hO.cell h.bc n1, h.oT.keep (hO.block _ h.oT.lt n2), ⟨v, hO.cell c0 n2, own_grow o0 (fun k hk hk2 => hO.block k hk2 (fun e => by have := own_base o0 k hk; have := h.lo; omega))⟩,
    h.on.then_ hO (fun i e => ?_), h.lo, h.okB, fun l' e => ?_⟩
  · rcases e with e | e
    · exact .inl e
    · exact .inr (Nat.le_trans hs e)
  · obtain ⟨l, e2, hle⟩ := hl l' e
    have := h.len l e2
    omega
theorem PrInv.push {w4 : World} {v : Value} {o : Cl} {A : Option Addr} {c : Nat} {X : Obj} (h : PrInv W ok r st cs w) (hcv : w.cell? ⟨W.heap.size + 1, 0, none⟩ = some v) (ho : w.ownsRow W.heap.size 54 5 v cs.length (cs.flatMap Cl.enc))
    (ho' : w4.ownsRow W.heap.size 54 5 (.slice A (cs.length + 1) c) (cs.length + 1) (cs.flatMap Cl.enc ++ Cl.enc o)) (hg : (w.alloc X).grownBy w4 v.ownBlock) (hl : ∀ l, st = some l → l.length + (cs.length + 1) ≤ 1000000) :
    PrInv W ok r st (cs ++ [o]) (w4.setCell ⟨W.heap.size + 1, 0, none⟩ (.slice A (cs.length + 1) c)) := by
  have hT : TOnly W.heap.size 54 w w4 := (TOnly.below (below_alloc (Below.refl _ _) X)).trans (TOnly.grown (ho.alloc X) hg)
  have hO4 := hT.ty _ _ (by decide) h.oT
  have hB4 := hT.ty _ _ (by decide) h.bT
  have hR4 : RdAt ok r w4 st := h.rd.only hT.on (TOnly.not (by decide) h.rd.ty) (fun k hk e => by have := (h.okB k hk).1; omega)
  have hs := h.on.size
  have hO : Only (· = W.heap.size + 1) w4 (w4.setCell ⟨W.heap.size + 1, 0, none⟩ (.slice A (cs.length + 1) c)) := Only.set (S := (· = W.heap.size + 1)) (Only.refl _ _) (.inl rfl) _
  refine ⟨hR4.only hO (by have := h.lo; omega) (fun k hk e => by have := (h.okB k hk).1; omega), hB4.set _ _, hO.cell (hT.cell (by decide) h.bT h.bc) (by show ¬ W.heap.size = _; omega), hO4.set _ _, ⟨_, cell_set_same (hT.cell (by decide) h.oT hcv) rfl, ?_⟩, ?_, h.lo, h.okB, ?_⟩
  · have := own_setT (i := 0) (u := .slice A (cs.length + 1) c) ho' hO4 (by decide)
    simpa using this
  · have h1 : Only (· = r) W w4 := h.on.then_ hT.on (fun i e => .inr e.1)
    exact h1.set (.inr (by show _ ≤ W.heap.size + 1; omega)) _
  · intro l e
    have := hl l e
    simpa using this
theorem PrInv.oA {w4 : World} {v : Value} {X : Obj} (h : PrInv W ok r st cs w) (ho : w.ownsRow W.heap.size 54 5 v cs.length (cs.flatMap Cl.enc)) (hg : (w.alloc X).grownBy w4 v.ownBlock) (u : Value) (hu : w.cell? ⟨W.heap.size + 1, 0, none⟩ = some u) :
    w4.cell? ⟨W.heap.size + 1, 0, none⟩ = some u ∧ w4.frozen? ⟨W.heap.size + 1, 0, none⟩ = false := by
  have hT : TOnly W.heap.size 54 w w4 := (TOnly.below (below_alloc (Below.refl _ _) X)).trans (TOnly.grown (ho.alloc X) hg)
  exact ⟨hT.cell (by decide) h.oT hu, (hT.ty _ _ (by decide) h.oT).frozen 0⟩
end
/-- Between the fields of one call that is read. -/
structure Stg (W w : World) (ok : Nat → Prop) (r o : Nat) (st : Option (List Nat)) (cs : List Value) (x : World) : Prop where
  rd : RdAt ok r x st
  bx : Bx o 54 cs x
  bc : x.cell? ⟨W.heap.size, 0, none⟩ = some (.pointer (some ⟨r, 0, none⟩))
  on : Only (fun b => b = r ∨ w.heap.size ≤ b) w x
  lo : r < W.heap.size ∧ W.heap.size < w.heap.size ∧ w.heap.size ≤ o
  okB : ∀ k, ok k → k < W.heap.size
theorem Stg.pre {W w x : World} {ok : Nat → Prop} {r o : Nat} {st : Option (List Nat)} {cs : List Value} (h : Stg W w ok r o st cs x) (i : Nat) (u : Value) : RdAt ok r (x.setCell ⟨o, i, none⟩ u) st :=
  h.rd.only (S := (· = o)) (Only.set (S := (· = o)) (Only.refl _ x) (p := ⟨o, i, none⟩) (.inl rfl) u) (by have := h.lo; omega) (fun k hk e => by have := h.okB k hk; have := h.lo; omega)
theorem Stg.next {W w x x' : World} {ok : Nat → Prop} {r o i : Nat} {st st' : Option (List Nat)} {cs : List Value} {u : Value} (h : Stg W w ok r o st cs x) (hR : RdAt ok r x' st') (hO : Only (· = r) (x.setCell ⟨o, i, none⟩ u) x') : Stg W w ok r o st' (cs.set i u) x' :=
  ⟨hR, (h.bx.set i u).only hO (by have := h.lo; omega), hO.cell ((cell_set_ne x _ ⟨o, i, none⟩ u (by have := h.lo; show W.heap.size ≠ o; omega)).trans h.bc) (by have := h.lo; show ¬ W.heap.size = r; omega),
    (h.on.set (.inr h.lo.2.2) u).trans (hO.mono (fun _ => Or.inl)), h.lo, h.okB⟩
set_option maxRecDepth 100000 in
set_option maxHeartbeats 3200000 in
theorem program1_calls {W : World} {ok : Nat → Prop} {r : Nat} (s : Option (List Nat) × List Cl) (w : World) (hs : s.1 ≠ none) (h : PrInv W ok r s.1 s.2 w) :
    Calls Try.prog 46 #[.pointer (some ⟨W.heap.size, 0, none⟩), .pointer (some ⟨W.heap.size + 1, 0, none⟩)] w fun e w' => e = .returned (.tuple #[]) ∧ PrInv W ok r (clF s).1 (clF s).2 w' := by
  obtain ⟨i0, hi0, hz0, hs0, hb0⟩ := info_parts info_cl
  have hu : Try.prog.underlying 49 = some (.slice 54) := Try.underlying49
  obtain ⟨st, cs⟩ := s
  obtain ⟨l0, rfl⟩ : ∃ l, st = some l := by
    cases st with
    | none => exact absurd rfl hs
    | some l => exact ⟨l, rfl⟩
  have hlen := h.len l0 rfl
  simp only at hlen
  have hI := Lib.hid h
  have rbc := h.bc
  have hlo := h.on.size
  have lr := h.lo
  have lb := h.bT.lt
  have lo := h.oT.lt
  have hF : Hid (clF (some l0, cs) = ((rdBool (rdNum (rdNum (rdNum (rdNum (some l0)).2).2).2).2).2, cs ++ [⟨(rdNum (some l0)).1, (rdNum (rdNum (some l0)).2).1, (rdNum (rdNum (rdNum (some l0)).2).2).1, (rdNum (rdNum (rdNum (rdNum (some l0)).2).2).2).1, (rdBool (rdNum (rdNum (rdNum (rdNum (some l0)).2).2).2).2).1⟩])) := Lib.hid rfl
  have hFl := Lib.hid (clF_len (s := (some l0, cs)))
  have hok := Lib.hid (fun k hk => (hI.out.okB k hk).1)
  clear h hs
  go_enter Try.func46, Try.ntmps46
  go_wp2_with fail
  refine (rnumber_calls r _ _ hI.out.rd).mono ?_
  rintro e w1 ⟨rfl, hR1, hO1⟩
  have rb1 := hO1.cell rbc (by show ¬ W.heap.size = r; omega)
  have z1 := hO1.size
  have lb1 : W.heap.size < w1.heap.size := by omega
  have lo1 : W.heap.size + 1 < w1.heap.size := by omega
  have n1 : w1.heap.size ≠ r := by omega
  clear rbc
  go_wp2_with fail
  refine (rnumber_calls r _ _ (hR1.below (by (repeat (with_reducible first | exact Below.refl _ _ | assumption | apply below_alloc | apply below_drewN | apply below_drew1 | (refine below_set ?_ (by simp only [alloc_size]; omega)) | (refine below_step ?_ (by assumption))))))).mono ?_
  rintro e w2 ⟨rfl, hR2, hO2⟩
  have S2 : Hid (Stg W w ok r w1.heap.size (rdNum (rdNum (some l0)).2).2 [.int .i64 (rdNum (some l0)).1, .int .i64 0, .int .i64 0, .int .i64 0, .bool false] w2) := Lib.hid
    ⟨hR2, (Bx.new w1 [.int .i64 (rdNum (some l0)).1, .int .i64 0, .int .i64 0, .int .i64 0, .bool false] 54).only hO2 n1, hO2.cell (cell_alloc_of rb1 _) (by show ¬ W.heap.size = r; omega), ((hO1.mono (fun _ => Or.inl)).alloc _).trans (hO2.mono (fun _ => Or.inl)), ⟨lr, lb, z1⟩, hok.out⟩
  clear hR2 hO2 hR1 hO1 rb1
  have rb2 := S2.out.bc
  have lt2 := S2.out.bx.ty.lt
  have fz2 := S2.out.bx.ty.frozen 1
  have x21 := S2.out.bx.cell 1 _ rfl
  go_wp2_with fail
  refine (rnumber_calls r _ _ (S2.out.pre 1 _)).mono ?_
  rintro e w3 ⟨rfl, hR3, hO3⟩
  have S3 := Lib.hid (S2.out.next hR3 hO3)
  clear hR3 hO3 rb2 fz2 x21
  have rb3 := S3.out.bc
  have lt3 := S3.out.bx.ty.lt
  have fz3 := S3.out.bx.ty.frozen 2
  have x32 := S3.out.bx.cell 2 _ rfl
  go_wp2_with fail
  refine (rnumber_calls r _ _ (S3.out.pre 2 _)).mono ?_
  rintro e w4 ⟨rfl, hR4, hO4⟩
  have S4 := Lib.hid (S3.out.next hR4 hO4)
  clear hR4 hO4 rb3 fz3 x32
  have rb4 := S4.out.bc
  have lt4 := S4.out.bx.ty.lt
  have fz4 := S4.out.bx.ty.frozen 3
  have x43 := S4.out.bx.cell 3 _ rfl
  go_wp2_with fail
  refine (rbool_calls r _ _ (S4.out.pre 3 _)).mono ?_
  rintro e w5 ⟨rfl, hR5, hO5⟩
  have S5 := Lib.hid (S4.out.next hR5 hO5)
  clear hR5 hO5 rb4 fz4 x43
  have rb5 := S5.out.bc
  have lt5 := S5.out.bx.ty.lt
  have fz5 := S5.out.bx.ty.frozen 4
  have x50 := S5.out.bx.cell 0 _ rfl
  have x51 := S5.out.bx.cell 1 _ rfl
  have x52 := S5.out.bx.cell 2 _ rfl
  have x53 := S5.out.bx.cell 3 _ rfl
  have x54 := S5.out.bx.cell 4 _ rfl
  have O6 := S5.out.on.set (p := ⟨w1.heap.size, 4, none⟩) (.inr z1) (.bool (rdBool (rdNum (rdNum (rdNum (rdNum (some l0)).2).2).2).2).1)
  have R6 := S5.out.pre 4 (.bool (rdBool (rdNum (rdNum (rdNum (rdNum (some l0)).2).2).2).2).1)
  have G4 := hI.out.step O6 R6 (fun l' e => by obtain ⟨l, e1, e2⟩ := hFl.out l' e; exact ⟨l, e1, by omega⟩)
  obtain ⟨v4, c4, o4⟩ := G4.f
  have G4' := Lib.hid G4
  have c3 : w5.cell? ⟨W.heap.size + 1, 0, none⟩ = some v4 := (cell_set_ne _ _ _ _ (by show W.heap.size + 1 ≠ w1.heap.size; omega)).symm.trans c4
  have c4' := Lib.hid c4
  have z4 := O6.size
  clear G4 c4 O6 R6 rb5
  go_wp2_with (first | (at_builtin; refine wpList_append_uni rfl _ _ 49 rfl W.heap.size 54 i0 _ 5 40 hu hi0 hz0 hs0 hb0 rfl (by decide) _ _ _ rfl (o4.alloc _) _ 1 (Cl.enc ⟨(rdNum (some l0)).1, (rdNum (rdNum (some l0)).2).1, (rdNum (rdNum (rdNum (some l0)).2).2).1, (rdNum (rdNum (rdNum (rdNum (some l0)).2).2).2).1, (rdBool (rdNum (rdNum (rdNum (rdNum (some l0)).2).2).2).2).1⟩) rfl rfl (cl_src (alloc_set_at _ _ _ _)) (by unfold maxLen; omega) (by omega) (by rw [alloc_size]; omega) ?_) | fail)
  intro A c w7 o7 g7 h7
  have hq := G4'.out.oA o4 g7 _ c4'.out
  obtain ⟨q1, q2⟩ := hq
  have hfin := Lib.hid (G4'.out.push c4'.out o4 o7 g7 (fun l e => by obtain ⟨l1, e1, e2⟩ := hFl.out l (by rw [hF.out]; exact e); obtain rfl := Option.some.inj e1; omega))
  go_wp2_with fail
  go_end0
  rw [hF.out]
  exact ⟨rfl, hfin.out⟩
theorem each_program {W : World} {ok : Nat → Prop} {r : Nat} : Each ok r 46 #[.pointer (some ⟨W.heap.size, 0, none⟩), .pointer (some ⟨W.heap.size + 1, 0, none⟩)] clF (fun s w => PrInv W ok r s.1 s.2 w) where
  rd := fun s w h => h.rd
  num := fun st st' z w w' h hR hO hl => h.step (hO.mono (fun _ => Or.inl)) hR (fun l' e => by obtain ⟨l, h1, h2⟩ := hl l' e; exact ⟨l, h1, Nat.le_of_lt h2⟩)
  enter := fun _ => by kernel_rfl
  each := fun s w hs h => program1_calls s w hs h
set_option maxRecDepth 100000 in
set_option maxHeartbeats 1600000 in
theorem program_calls {ok : Nat → Prop} {r : Nat} (st : Option (List Nat)) (W : World) (h : RdAt ok r W st) (hok : ∀ k, ok k → k < W.heap.size ∧ k ≠ r) (hlen : ∀ l, st = some l → l.length ≤ 1000000) :
    Calls Try.prog 31 #[.pointer (some ⟨r, 0, none⟩)] W fun e w' => ∃ A c, e = .returned (.slice A (listF clF (st, [])).2.length c) ∧ (listF clF (st, [])).2.length ≤ c ∧ kCl.C (OfT W.heap.size 54 w') w' A (listF clF (st, [])).2 ∧ RdAt ok r w' (listF clF (st, [])).1 ∧ Only (· = r) W w' := by
  have hlr := h.ty.lt
  have hI : PrInv W ok r st [] ((W.alloc (.cells #[.pointer (some ⟨r, 0, none⟩)] 63)).alloc (.cells #[.slice none 0 0] 49)) := by
    have e1 : (W.alloc (.cells #[.pointer (some ⟨r, 0, none⟩)] 63)).heap.size = W.heap.size + 1 := alloc_size _ _
    refine ⟨h.below (by (repeat (with_reducible first | exact Below.refl _ _ | assumption | apply below_alloc | apply below_drewN | apply below_drew1 | (refine below_set ?_ (by simp only [alloc_size]; omega)) | (refine below_step ?_ (by assumption))))), (IsT.new W _ _).alloc _, cell_alloc_of (box_cell W [_] _ rfl) _, ?_, ⟨.slice none 0 0, ?_, World.ownsRow_nil _ _ _ _⟩, ?_, hlr, hok, ?_⟩
    · have := IsT.new (W.alloc (.cells #[.pointer (some ⟨r, 0, none⟩)] 63)) #[.slice none 0 0] 49
      rwa [e1] at this
    · have := box_cell (W.alloc (.cells #[.pointer (some ⟨r, 0, none⟩)] 63)) [.slice none 0 0] 49 (i := 0) rfl
      rwa [e1] at this
    · exact ((Only.refl _ _).alloc _).alloc _
    · intro l e; have := hlen l e; simpa using this
  have HI := Lib.hid hI
  clear h hI
  go_enter Try.func31, Try.ntmps31
  go_wp2_with fail
  refine (list_calls each_program (st, []) _ HI.out).mono ?_
  rintro e w1 ⟨rfl, hP⟩
  obtain ⟨v, c0, o0⟩ := hP.f
  have H := Lib.hid hP
  have O0 := Lib.hid o0
  clear hP o0
  go_wp2_with fail
  go_ret
  obtain ⟨A, c, rfl, hc, hC⟩ := C_of_own (enc := Cl.enc) (hl := fun _ => rfl) (h1 := by intro x u hu; simp [Cl.enc] at hu; rcases hu with rfl | rfl | rfl | rfl | rfl <;> rfl) (h0 := by decide) (ok := OfT W.heap.size 54 w1) O0.out (fun k hk => ⟨own_base O0.out k hk, own_ty O0.out hk⟩)
  exact ⟨A, c, rfl, hc, hC, H.out.rd, H.out.on⟩
end Go.Proofs.Ytikfkkinhipfjaa
