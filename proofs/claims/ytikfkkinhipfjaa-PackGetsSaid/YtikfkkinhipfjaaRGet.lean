/- The walk of the reference's Get of layer 6. -/
import Derived.Test.YtikfkkinhipfjaaShJ
import Derived.Test.YtikfkkinhipfjaaRefC
import Derived.Test.YtikfkkinhipfjaaLawPuts
namespace Go.Proofs.Ytikfkkinhipfjaa
open Go.RowKit Go.ChangeShapes
set_option linter.unusedVariables false
set_option linter.unusedSimpArgs false

theorem scr_of {s : Scr} (hl : lens s) (hw : ∀ n ∈ scrN s, (Lit.int .i64 n).wf = true) (r : List Nat) : getS (putB s ++ r) = (some r, s) := by
  obtain ⟨l0, l1, l2, l3⟩ := hl
  have e : putB s ++ r = numB (s.objs.length : Int) ++ (numsB (s.objs.flatMap obN) ++ (numB (s.progs.length : Int) ++ (numsB (s.progs.flatMap rowN) ++ (numB (s.picks.length : Int) ++ (numsB (s.picks.flatMap pkN) ++ r))))) := by
    simp [putB, scrN, numsB_append, numsB]
  have w0 : ∀ o ∈ s.objs, ∀ n ∈ obN o, (Lit.int .i64 n).wf = true := fun o ho n hn => hw n (by simp only [scrN, List.mem_append, List.mem_flatMap]; exact .inl (.inl (.inl (.inl (.inr ⟨o, ho, hn⟩)))))
  have w1 : ∀ l ∈ s.progs, l.length ≤ 65536 ∧ ∀ n ∈ rowN l, (Lit.int .i64 n).wf = true := fun o ho => ⟨l3 o ho, fun n hn => hw n (by simp only [scrN, List.mem_append, List.mem_flatMap]; exact .inl (.inl (.inr ⟨o, ho, hn⟩)))⟩
  have w2 : ∀ o ∈ s.picks, ∀ n ∈ pkN o, (Lit.int .i64 n).wf = true := fun o ho n hn => hw n (by simp only [scrN, List.mem_append, List.mem_flatMap]; exact .inr ⟨o, ho, hn⟩)
  rw [e]
  unfold getS
  simp only
  rw [listF_put obF_put s.objs _ l0 w0]
  simp only
  have h2 : listF rowF (some (numB (s.progs.length : Int) ++ (numsB (s.progs.flatMap rowN) ++ (numB (s.picks.length : Int) ++ (numsB (s.picks.flatMap pkN) ++ r)))), []) = (some (numB (s.picks.length : Int) ++ (numsB (s.picks.flatMap pkN) ++ r)), s.progs) := by
    unfold listF
    simp only
    rw [rdNum_put _ (wf_of (by omega) (by omega)), if_neg (by simp; omega)]
    simp only [Int.toNat_natCast]
    rw [manyF_rows s.progs [] _ w1]
    simp
  rw [h2]
  simp only
  rw [listF_put pkF_put s.picks r l2 w2]
theorem manyF_all {α : Type} {f : Option (List Nat) × List α → Option (List Nat) × List α} {Q : α → Prop} (hn : ∀ acc, (f (none, acc)).1 = none) (hf : ∀ l l' acc, (∀ o ∈ acc, Q o) → (f (some l, acc)).1 = some l' → ∀ o ∈ (f (some l, acc)).2, Q o) :
    ∀ (n : Nat) (l l' : List Nat) (acc : List α), (∀ o ∈ acc, Q o) → (manyF f n (some l, acc)).1 = some l' → ∀ o ∈ (manyF f n (some l, acc)).2, Q o
  | 0, l, l', acc, ha, h => by simpa [manyF] using ha
  | n + 1, l, l', acc, ha, h => by
    rw [manyF, if_neg (by simp)] at h ⊢
    cases h1 : (f (some l, acc)).1 with
    | none =>
      have e : f (some l, acc) = (none, (f (some l, acc)).2) := by rw [← h1]
      rw [e] at h
      cases n <;> simp [manyF] at h
    | some l1 =>
      have h2 := hf l l1 acc ha h1
      have e : f (some l, acc) = (some l1, (f (some l, acc)).2) := by rw [← h1]
      rw [e] at h ⊢
      exact manyF_all hn hf n l1 l' _ h2 h
theorem listF_all {α : Type} {f : Option (List Nat) × List α → Option (List Nat) × List α} {Q : α → Prop} (hn : ∀ acc, (f (none, acc)).1 = none) (hf : ∀ l l' acc, (∀ o ∈ acc, Q o) → (f (some l, acc)).1 = some l' → ∀ o ∈ (f (some l, acc)).2, Q o)
    {l l' : List Nat} (h : (listF f (some l, [])).1 = some l') : ∀ o ∈ (listF f (some l, [])).2, Q o := by
  unfold listF at h ⊢
  simp only at h ⊢
  split at h
  · cases h
  · rename_i h1
    rw [if_neg h1]
    cases h2 : (rdNum (some l)).2 with
    | none =>
      rw [h2] at h
      exfalso
      revert h
      generalize (rdNum (some l)).1.toNat = k
      cases k <;> simp [manyF]
    | some l1 =>
      rw [h2] at h
      exact manyF_all hn hf _ l1 l' [] (by simp) h
theorem manyF_count {α : Type} {f : Option (List Nat) × List α → Option (List Nat) × List α} (hl : ∀ l acc, (f (some l, acc)).2.length = acc.length + 1) : ∀ (n : Nat) (l l' : List Nat) (acc : List α), (manyF f n (some l, acc)).1 = some l' → (manyF f n (some l, acc)).2.length = acc.length + n
  | 0, l, l', acc, h => by simp [manyF]
  | n + 1, l, l', acc, h => by
    rw [manyF, if_neg (by simp)] at h ⊢
    cases h1 : (f (some l, acc)).1 with
    | none =>
      have e : f (some l, acc) = (none, (f (some l, acc)).2) := by rw [← h1]
      rw [e] at h
      cases n <;> simp [manyF] at h
    | some l1 =>
      have e : f (some l, acc) = (some l1, (f (some l, acc)).2) := by rw [← h1]
      have := hl l acc
      rw [e] at h ⊢
      rw [manyF_count hl n l1 l' _ h]
      omega
theorem listF_count {α : Type} {f : Option (List Nat) × List α → Option (List Nat) × List α} (hl : ∀ l acc, (f (some l, acc)).2.length = acc.length + 1) {l l' : List Nat} (h : (listF f (some l, [])).1 = some l') : (listF f (some l, [])).2.length ≤ 65536 := by
  unfold listF at h ⊢
  simp only at h ⊢
  split at h
  · cases h
  · rename_i h1
    rw [if_neg h1]
    cases h2 : (rdNum (some l)).2 with
    | none =>
      rw [h2] at h
      exfalso
      revert h
      generalize (rdNum (some l)).1.toNat = k
      cases k <;> simp [manyF]
    | some l1 =>
      rw [h2] at h
      rw [manyF_count hl _ l1 l' [] h]
      simp; omega
theorem row_all {l l' : List Nat} {acc : List (List Cl)} (ha : ∀ o ∈ acc, o.length ≤ 65536) (h : (rowF (some l, acc)).1 = some l') : ∀ o ∈ (rowF (some l, acc)).2, o.length ≤ 65536 := by
  simp only [rowF] at h ⊢
  have hl := listF_count (f := clF) (fun l acc => by simp [clF]) h
  intro o ho
  rcases List.mem_append.1 ho with h1 | h1
  · exact ha o h1
  · rw [List.mem_singleton.1 h1]; exact hl
theorem getS_lens {l l' : List Nat} (h : (getS l).1 = some l') : lens (getS l).2 := by
  unfold getS at h ⊢
  simp only at h ⊢
  cases h1 : (listF obF (some l, [])).1 with
  | none => rw [h1, show (listF rowF (none, [])).1 = none from listF_none _, listF_none] at h; cases h
  | some l1 =>
    rw [h1] at h
    try rw [h1]
    cases h2 : (listF rowF (some l1, [])).1 with
    | none => rw [h2, listF_none] at h; cases h
    | some l2 =>
      rw [h2] at h
      try rw [h2]
      exact ⟨listF_count (f := obF) (fun l acc => by simp [obF]) h1, listF_count (f := rowF) (fun l acc => by simp [rowF]) h2, listF_count (f := pkF) (fun l acc => by simp [pkF]) h, listF_all (f := rowF) (Q := fun o => o.length ≤ 65536) rowF_none (fun l l' acc ha hh => row_all ha hh) h2⟩
/-! what Get comes to -/
theorem getR_no {l : List Nat} (h : (getS l).1 ≠ some []) : getR l = (some 2, noS) := by
  unfold getR
  rw [if_neg h]
theorem no_dec {l : List Nat} (hx : ∀ x ∈ l, x < 256) (h : ¬ Dec l) : getR l = (some 2, noS) := getR_no (fun h1 => h (by
  obtain ⟨e, hw⟩ := getS_inv hx h1
  rw [List.append_nil] at e
  exact ⟨scrN (getS l).2, e, hw⟩))
theorem no_shape {l : List Nat} {ns : List Int} (hx : ∀ x ∈ l, x < 256) (e : l = numsB ns) (hw : ∀ n ∈ ns, (Lit.int .i64 n).wf = true) (h : ¬ H0 ns) : getR l = (some 2, noS) := getR_no (fun h1 => h (by
  obtain ⟨e1, hw1⟩ := getS_inv hx h1
  rw [List.append_nil] at e1
  have : numsB ns = numsB (scrN (getS l).2) := e.symm.trans e1
  rw [numsB_inj hw hw1 this]
  exact good_of (getS_lens h1)))
theorem yes_shape {l : List Nat} {s : Scr} (e : l = numsB (scrN s)) (hw : ∀ n ∈ scrN s, (Lit.int .i64 n).wf = true) (hl : lens s) : getR l = (match checkE s with | none => (none, s) | some c => (some c, noS)) := by
  have := scr_of hl hw []
  rw [List.append_nil] at this
  unfold getR
  rw [e, show numsB (scrN s) = putB s from rfl, this]
  simp only [if_true]
  cases checkE s <;> rfl
set_option maxRecDepth 100000 in
set_option maxHeartbeats 3200000 in
theorem rget_calls {ok : Nat → Prop} (l : List Nat) (A : Option Addr) (c : Nat) (w : World) (h : kByte.C ok w A l) (hx : ∀ x ∈ l, x < 256) (hc : l.length ≤ c) (hl : l.length ≤ 1000000) :
    Calls Try.prog 15 #[.slice A l.length c] w fun e w' => ∃ A0 A1 A2 c0 c1 c2, e = .returned (.tuple #[scrV (getR l).2 A0 A1 A2 c0 c1 c2, .int .i64 (codeI (getR l).1)]) ∧ ScrAt (w.heap.size ≤ ·) w' (getR l).2 A0 A1 A2 c0 c1 c2 ∧ Below w.heap.size w w' := by
  have hS := Lib.hid h.bound
  have hX := Lib.hid hx
  clear h hx
  go_enter Try.func15, Try.ntmps15
  go_wp2_with fail
  have bx := Lib.hid (Bx.new w [.slice none 0 0, .slice none 0 0, .slice none 0 0] 26)
  have bA : Below w.heap.size w (w.alloc (.cells #[.slice none 0 0, .slice none 0 0, .slice none 0 0] 26)) := by (repeat (with_reducible first | exact Below.refl _ _ | assumption | apply below_alloc | apply below_drewN | apply below_drew1 | (refine below_set ?_ (by simp only [alloc_size]; omega)) | (refine below_step ?_ (by assumption))))
  refine (rread_calls l A c _ (hS.out.below bA) hX.out hc hl).mono ?_
  rintro e w1 ⟨hb1, ⟨v, rfl, hno⟩ | ⟨v, ns, rfl, hns, hw, hnl, ho⟩⟩
  · have hE := Lib.hid (no_dec hX.out hno)
    have B1 := Lib.hid (bx.out.only (S := fun _ => False) (Only.of_below hb1) id)
    have BB := Lib.hid (below_step bA hb1)
    have x0 := B1.out.cell 0 _ rfl
    have x1 := B1.out.cell 1 _ rfl
    have x2 := B1.out.cell 2 _ rfl
    have xf := fun i => B1.out.ty.frozen i
    go_wp2_with fail
    refine bodyPost_ret (v := .tuple #[scrV noS none none none 0 0 0, .int .i64 2]) ?_ rfl ?_
    · simp [results, Try.results15, go_sem, scrV, noS, x0, x1, x2]
    · exact ⟨none, none, none, 0, 0, 0, by rw [hE.out]; rfl, by rw [hE.out]; exact noS_at _ _, below_set (below_set (below_set BB.out (Nat.le_refl _)) (Nat.le_refl _)) (Nat.le_refl _)⟩
  · obtain ⟨A1', c1', rfl, hlc, hC⟩ := at_i64o ho
    have B1 := Lib.hid (bx.out.only (S := fun _ => False) (Only.of_below hb1) id)
    have BB := Lib.hid (below_step bA hb1)
    have HC := Lib.hid hC
    have hnl' : ns.length ≤ 1000000 := by omega
    have HN := Lib.hid hns
    have HW := Lib.hid hw
    have zz1 : w.heap.size + 1 ≤ w1.heap.size := by have := hb1.size; rw [alloc_size] at this; exact this
    clear ho hC hns hw hb1
    go_wp2_with fail
    refine (shape_calls ns A1' c1' _ HC.out hlc hnl').mono ?_
    rintro e w2 ⟨hb2, ⟨⟨s, D0, D1, D2, d0, d1, d2, rfl⟩, hno⟩ | ⟨s, D0, D1, D2, d0, d1, d2, rfl, hs, hlen, hD⟩⟩
    · have hE := Lib.hid (no_shape hX.out HN.out HW.out hno)
      have B2 := Lib.hid (B1.out.only (S := fun _ => False) (Only.of_below hb2) id)
      have BB2 := Lib.hid (below_step BB.out hb2)
      have x0 := B2.out.cell 0 _ rfl
      have x1 := B2.out.cell 1 _ rfl
      have x2 := B2.out.cell 2 _ rfl
      have xf := fun i => B2.out.ty.frozen i
      have lt2 : w.heap.size < w2.heap.size := by have := hb2.size; omega
      clear hno hb2
      unfold scrV
      go_wp2_with fail
      have p0 : ∀ X, ((((w2.setCell ⟨w.heap.size, 0, none⟩ (.slice none 0 0)).setCell ⟨w.heap.size, 1, none⟩ (.slice none 0 0)).setCell ⟨w.heap.size, 2, none⟩ (.slice none 0 0)).alloc X).cell? ⟨w.heap.size, 0, none⟩ = some (.slice none 0 0) := fun X => cell_alloc_of (cell_set_off (cell_set_off (cell_set_same x0 rfl) (by decide)) (by decide)) X
      have p1 : ∀ X, ((((w2.setCell ⟨w.heap.size, 0, none⟩ (.slice none 0 0)).setCell ⟨w.heap.size, 1, none⟩ (.slice none 0 0)).setCell ⟨w.heap.size, 2, none⟩ (.slice none 0 0)).alloc X).cell? ⟨w.heap.size, 1, none⟩ = some (.slice none 0 0) := fun X => cell_alloc_of (cell_set_off (cell_set_same (cell_set_off x1 (by decide)) rfl) (by decide)) X
      have p2 : ∀ X, ((((w2.setCell ⟨w.heap.size, 0, none⟩ (.slice none 0 0)).setCell ⟨w.heap.size, 1, none⟩ (.slice none 0 0)).setCell ⟨w.heap.size, 2, none⟩ (.slice none 0 0)).alloc X).cell? ⟨w.heap.size, 2, none⟩ = some (.slice none 0 0) := fun X => cell_alloc_of (cell_set_same (cell_set_off (cell_set_off x2 (by decide)) (by decide)) rfl) X
      refine bodyPost_ret (v := .tuple #[scrV noS none none none 0 0 0, .int .i64 2]) ?_ rfl ?_
      · simp [results, Try.results15, go_sem, scrV, noS, p0, p1, p2]
      · exact ⟨none, none, none, 0, 0, 0, by rw [hE.out]; rfl, by rw [hE.out]; exact noS_at _ _, below_alloc (below_set (below_set (below_set BB2.out (Nat.le_refl _)) (Nat.le_refl _)) (Nat.le_refl _)) _⟩
    · subst hs
      have hE := Lib.hid (yes_shape HN.out HW.out hlen)
      have B2 := Lib.hid (B1.out.only (S := fun _ => False) (Only.of_below hb2) id)
      have BB2 := Lib.hid (below_step BB.out hb2)
      have hz := HC.out.len
      have HD := Lib.hid hD.bound
      have lt2 : w.heap.size < w2.heap.size := by have := hb2.size; omega
      have zz := BB.out.size
      have z2 := hb2.size
      clear hb2 hD
      unfold scrV
      go_wp2_with fail
      have bY := Lib.hid (InBox.new w2 s D0 D1 D2 d0 d1 d2 26)
      refine (rcheck_calls s D0 D1 D2 d0 d1 d2 _ (HD.out.below (by (repeat (with_reducible first | exact Below.refl _ _ | assumption | apply below_alloc | apply below_drewN | apply below_drew1 | (refine below_set ?_ (by simp only [alloc_size]; omega)) | (refine below_step ?_ (by assumption))))))).mono ?_
      rintro e w3 ⟨rfl, hb3⟩
      have bb3 : Below w2.heap.size w2 w3 := below_step (by (repeat (with_reducible first | exact Below.refl _ _ | assumption | apply below_alloc | apply below_drewN | apply below_drew1 | (refine below_set ?_ (by simp only [alloc_size]; omega)) | (refine below_step ?_ (by assumption))))) hb3
      have B3 := Lib.hid (B2.out.only (S := fun _ => False) (Only.of_below bb3) id)
      have BB3 := Lib.hid (below_step BB2.out bb3)
      have S3 := Lib.hid ((HD.out.below bb3).mono (ok' := fun k => w.heap.size ≤ k ∧ k ≠ w.heap.size) (fun k hk => ⟨by have := hk.1; omega, by have := hk.1; omega⟩))
      have x0 := B3.out.cell 0 _ rfl
      have x1 := B3.out.cell 1 _ rfl
      have x2 := B3.out.cell 2 _ rfl
      have xf := fun i => B3.out.ty.frozen i
      have g0 := cell_below_of bY.out.x0 hb3
      have g1 := cell_below_of bY.out.x1 hb3
      have g2 := cell_below_of bY.out.x2 hb3
      cases hce : checkE s with
      | none =>
        have hE' : Hid (getR l = (none, s)) := Lib.hid (by rw [hE.out, hce])
        clear hce
        simp only [codeI]
        go_wp2_with fail
        refine bodyPost_ret (v := .tuple #[scrV s D0 D1 D2 d0 d1 d2, .int .i64 0]) ?_ rfl ?_
        · simp [results, Try.results15, go_sem, scrV, noS, x0, x1, x2]
        · refine ⟨D0, D1, D2, d0, d1, d2, by rw [hE'.out]; rfl, ?_, below_set (below_set (below_set BB3.out (Nat.le_refl _)) (Nat.le_refl _)) (Nat.le_refl _)⟩
          rw [hE'.out]
          have hO : Only (· = w.heap.size) w3 (((w3.setCell ⟨w.heap.size, 0, none⟩ (.slice D0 s.objs.length d0)).setCell ⟨w.heap.size, 1, none⟩ (.slice D1 s.progs.length d1)).setCell ⟨w.heap.size, 2, none⟩ (.slice D2 s.picks.length d2)) :=
            (((Only.refl (· = w.heap.size) w3).set (p := ⟨w.heap.size, 0, none⟩) (.inl rfl) _).set (p := ⟨w.heap.size, 1, none⟩) (.inl rfl) _).set (p := ⟨w.heap.size, 2, none⟩) (.inl rfl) _
          exact (S3.out.only hO (fun k hk e => hk.2 e)).mono (fun k hk => hk.1)
      | some ce =>
        have hE' : Hid (getR l = (some ce, noS)) := Lib.hid (by rw [hE.out, hce])
        have hce1 := (check_ok s) ce hce
        have hne : (ce != 0) = true := by rw [bne_iff_ne]; omega
        clear hce g0 g1 g2
        simp only [codeI]
        go_wp2_with fail
        refine bodyPost_ret (v := .tuple #[scrV noS none none none 0 0 0, .int .i64 ce]) ?_ rfl ?_
        · simp [results, Try.results15, go_sem, scrV, noS, x0, x1, x2]
        · exact ⟨none, none, none, 0, 0, 0, by rw [hE'.out]; rfl, by rw [hE'.out]; exact noS_at _ _, below_set (below_set (below_set BB3.out (Nat.le_refl _)) (Nat.le_refl _)) (Nat.le_refl _)⟩
end Go.Proofs.Ytikfkkinhipfjaa
