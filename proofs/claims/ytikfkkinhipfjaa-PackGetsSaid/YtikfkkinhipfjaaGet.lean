/- The walk of pack.Get. -/
import Derived.Test.YtikfkkinhipfjaaGetB
namespace Go.Proofs.Ytikfkkinhipfjaa
open Go.RowKit Go.ChangeShapes
set_option linter.unusedVariables false
set_option linter.unusedSimpArgs false

def noS : Scr := ⟨[], [], []⟩
def getR (l : List Nat) : Option Int × Scr :=
  if (getS l).1 = some [] then (match checkE (getS l).2 with | none => (none, (getS l).2) | some c => (some c, noS)) else (some 2, noS)
/-- What Get comes to. -/
def GetPost (l : List Nat) (w : World) (e : Ending) (w' : World) : Prop :=
  ∃ A0 A1 A2 c0 c1 c2, e = .returned (.tuple #[scrV (getR l).2 A0 A1 A2 c0 c1 c2, errV (getR l).1]) ∧ ScrAt (w.heap.size ≤ ·) w' (getR l).2 A0 A1 A2 c0 c1 c2 ∧ Below w.heap.size w w'
theorem each_get1 {Z : World} {B : Nat} {ok : Nat → Prop} {r rb sb : Nat} {ps : List (List Cl)} {ks : List Pk} : Each ok r 27 #[.pointer (some ⟨rb, 0, none⟩), .pointer (some ⟨sb, 0, none⟩)] obF (fun s w => GetInv Z B ok r rb sb s.1 s.2 ps ks w) where
  rd := fun s w h => h.rd
  num := fun st st' z w w' h hR hO hl => h.step (hO.mono (fun _ => Or.inl)) hR (fun l' e => by obtain ⟨l, h1, h2⟩ := hl l' e; exact ⟨l, h1, Nat.le_of_lt h2⟩)
  enter := fun _ => by kernel_rfl
  each := fun s w hs h => get1_calls s w hs h
theorem each_get2 {Z : World} {B : Nat} {ok : Nat → Prop} {r rb sb : Nat} {os : List Ob} {ks : List Pk} : Each ok r 30 #[.pointer (some ⟨sb, 0, none⟩), .pointer (some ⟨rb, 0, none⟩)] rowF (fun s w => GetInv Z B ok r rb sb s.1 os s.2 ks w) where
  rd := fun s w h => h.rd
  num := fun st st' z w w' h hR hO hl => h.step (hO.mono (fun _ => Or.inl)) hR (fun l' e => by obtain ⟨l, h1, h2⟩ := hl l' e; exact ⟨l, h1, Nat.le_of_lt h2⟩)
  enter := fun _ => by kernel_rfl
  each := fun s w hs h => get2_calls s w hs h
theorem each_get3 {Z : World} {B : Nat} {ok : Nat → Prop} {r rb sb : Nat} {os : List Ob} {ps : List (List Cl)} : Each ok r 32 #[.pointer (some ⟨rb, 0, none⟩), .pointer (some ⟨sb, 0, none⟩)] pkF (fun s w => GetInv Z B ok r rb sb s.1 os ps s.2 w) where
  rd := fun s w h => h.rd
  num := fun st st' z w w' h hR hO hl => h.step (hO.mono (fun _ => Or.inl)) hR (fun l' e => by obtain ⟨l, h1, h2⟩ := hl l' e; exact ⟨l, h1, Nat.le_of_lt h2⟩)
  enter := fun _ => by kernel_rfl
  each := fun s w hs h => get3_calls s w hs h
theorem rows_C {B n : Nat} {w : World} {v : Value} {ps : List (List Cl)} {hs : List Value} (hT : IsT B 26 w) (ho : w.ownsRow B 49 1 v ps.length hs) (hr : RowsAt B ps hs w) (hn : ps.length ≤ 1000000) :
    ∃ A c, v = .slice A ps.length c ∧ ps.length ≤ c ∧ (Kd.slice kCl).C (fun k => B ≤ k ∧ k ≠ B) w A ps := by
  have hlen : hs.length = ps.length := by have := ho.1; omega
  rcases ho.2 with ⟨rfl, h0⟩ | ⟨g, cap, cur, rfl, hg, hh, hnc, hcm, hcs, ht⟩
  · have : ps = [] := by simpa using h0
    subst this
    exact ⟨none, 0, rfl, by simp, Kd.C.nil _ _ _ _⟩
  · refine ⟨some ⟨g, 0, none⟩, cap, rfl, hnc, C_of_cells (css := hs.map (fun u => [u])) (by simpa using hlen) ?_ hh ?_ (by omega) ⟨hg, fun e => absurd (hT.uniq (e ▸ (⟨cur, hh⟩ : IsT g 49 w))) (by decide)⟩⟩
    · intro i x c hx hc
      rw [List.getElem?_map] at hc
      obtain ⟨A', c', h1, h2, h3⟩ := hr i x hx
      rw [h1] at hc
      obtain rfl : [Value.slice A' x.length c'] = c := by simpa using hc
      exact ⟨A', c', rfl, h2, h3.mono (fun k hk => ⟨hk.1, fun e => absurd (hT.uniq (e ▸ hk.2)) (by decide)⟩)⟩
    · intro j u hu
      have hf : (hs.map (fun u => [u])).flatten = hs := by
        clear hlen hr ht hu ho
        induction hs with
        | nil => rfl
        | cons a l ih => simp only [List.map_cons, List.flatten_cons, ih]; rfl
      rw [hf, ← ht] at hu
      obtain ⟨hj, rfl⟩ := List.getElem?_eq_some_iff.1 hu
      rw [List.getElem_take]
      rw [List.length_take] at hj
      simp
/-- The script that was read, as a value. -/
theorem GetInv.scr {Z : World} {B : Nat} {ok : Nat → Prop} {r rb sb : Nat} {l : List Nat} {s : Scr} {w : World} (h : GetInv Z B ok r rb sb (some l) s.objs s.progs s.picks w) :
    ∃ A0 A1 A2 c0 c1 c2, w.cell? ⟨sb, 0, none⟩ = some (.slice A0 s.objs.length c0) ∧ w.cell? ⟨sb, 1, none⟩ = some (.slice A1 s.progs.length c1) ∧ w.cell? ⟨sb, 2, none⟩ = some (.slice A2 s.picks.length c2) ∧ ScrAt (fun k => B ≤ k ∧ k ≠ B) w s A0 A1 A2 c0 c1 c2 := by
  have hT := h.xc.1.ty
  obtain ⟨v0, g0, o0⟩ := h.f0
  obtain ⟨v1, hs, g1, o1, k1⟩ := h.f1
  obtain ⟨v2, g2, o2⟩ := h.f2
  have hl := h.len l rfl
  obtain ⟨A0, c0, rfl, l0, C0⟩ := C_of_own (enc := Ob.enc) (hl := fun _ => rfl) (h1 := by intro x u hu; simp [Ob.enc] at hu; rcases hu with rfl | rfl | rfl <;> rfl) (h0 := by decide) (ok := (fun k => B ≤ k ∧ k ≠ B)) o0 (fun k hk => ⟨own_base o0 k hk, fun e => absurd (hT.uniq (e ▸ own_ty o0 hk)) (by decide)⟩)
  obtain ⟨A1, c1, rfl, l1, C1⟩ := rows_C (n := 0) hT o1 k1 (by omega)
  obtain ⟨A2, c2, rfl, l2, C2⟩ := C_of_own (enc := Pk.enc) (hl := fun _ => rfl) (h1 := by intro x u hu; simp [Pk.enc] at hu; rcases hu with rfl | rfl <;> rfl) (h0 := by decide) (ok := (fun k => B ≤ k ∧ k ≠ B)) o2 (fun k hk => ⟨own_base o2 k hk, fun e => absurd (hT.uniq (e ▸ own_ty o2 hk)) (by decide)⟩)
  exact ⟨A0, A1, A2, c0, c1, c2, g0, g1, g2, C0, l0, C1, l1, C2, l2⟩
theorem ScrAt.only {ok : Nat → Prop} {w w1 : World} {s : Scr} {A0 A1 A2 : Option Addr} {c0 c1 c2 : Nat} {S : Nat → Prop} (h : ScrAt ok w s A0 A1 A2 c0 c1 c2) (hO : Only S w w1) (hs : ∀ k, ok k → ¬ S k) : ScrAt ok w1 s A0 A1 A2 c0 c1 c2 :=
  ⟨h.o.only hO hs, h.ol, h.p.only hO hs, h.pl, h.k.only hO hs, h.kl⟩
theorem ScrAt.mono {ok ok' : Nat → Prop} {w : World} {s : Scr} {A0 A1 A2 : Option Addr} {c0 c1 c2 : Nat} (h : ScrAt ok w s A0 A1 A2 c0 c1 c2) (hk : ∀ k, ok k → ok' k) : ScrAt ok' w s A0 A1 A2 c0 c1 c2 :=
  ⟨h.o.mono hk, h.ol, h.p.mono hk, h.pl, h.k.mono hk, h.kl⟩
theorem noS_at (w : World) (B : Nat) : ScrAt (B ≤ ·) w noS none none none 0 0 0 := ⟨Kd.C.nil _ _ _ _, by decide, Kd.C.nil _ _ _ _, by decide, Kd.C.nil _ _ _ _, by decide⟩
theorem get_start {ok : Nat → Prop} (l : List Nat) (A : Option Addr) (c : Nat) (w : World) (h : kByte.C ok w A l) (hx : ∀ x ∈ l, x < 256) (hc : l.length ≤ c) (hl : l.length ≤ 1000000) (hok : ∀ k, ok k → k < w.heap.size) :
    GetInv w w.heap.size ok (w.heap.size + 1) (w.heap.size + 1 + 1) (w.heap.size + 1 + 1 + 1) (some l) [] [] [] ((((w.alloc (.cells #[.slice none 0 0, .slice none 0 0, .slice none 0 0] 26)).alloc (.cells #[.slice A l.length c, .bool false] 65)).alloc (.cells #[.pointer (some ⟨w.heap.size + 1, 0, none⟩)] 63)).alloc (.cells #[.slice none 0 0, .slice none 0 0, .slice none 0 0] 26)) := by
  have b0 := Bx.new w [.slice none 0 0, .slice none 0 0, .slice none 0 0] 26
  generalize hw1 : w.alloc (.cells [.slice none 0 0, .slice none 0 0, .slice none 0 0].toArray 26) = w1 at b0
  have e1 : w1.heap.size = w.heap.size + 1 := by rw [← hw1, alloc_size]
  have bl1 : Below w.heap.size w w1 := by rw [← hw1]; (repeat (with_reducible first | exact Below.refl _ _ | assumption | apply below_alloc | apply below_drewN | apply below_drew1 | (refine below_set ?_ (by simp only [alloc_size]; omega)) | (refine below_step ?_ (by assumption))))
  have b1 := Bx.new w1 [.slice A l.length c, .bool false] 65
  rw [e1] at b1
  generalize hw2 : w1.alloc (.cells [.slice A l.length c, .bool false].toArray 65) = w2 at b1
  have e2 : w2.heap.size = w.heap.size + 1 + 1 := by rw [← hw2, alloc_size, e1]
  have bl2 : Below w1.heap.size w1 w2 := by rw [← hw2]; (repeat (with_reducible first | exact Below.refl _ _ | assumption | apply below_alloc | apply below_drewN | apply below_drew1 | (refine below_set ?_ (by simp only [alloc_size]; omega)) | (refine below_step ?_ (by assumption))))
  have b2 := Bx.new w2 [.pointer (some ⟨w.heap.size + 1, 0, none⟩)] 63
  rw [e2] at b2
  generalize hw3 : w2.alloc (.cells [.pointer (some ⟨w.heap.size + 1, 0, none⟩)].toArray 63) = w3 at b2
  have e3 : w3.heap.size = w.heap.size + 1 + 1 + 1 := by rw [← hw3, alloc_size, e2]
  have bl3 : Below w2.heap.size w2 w3 := by rw [← hw3]; (repeat (with_reducible first | exact Below.refl _ _ | assumption | apply below_alloc | apply below_drewN | apply below_drew1 | (refine below_set ?_ (by simp only [alloc_size]; omega)) | (refine below_step ?_ (by assumption))))
  have b3 := Bx.new w3 [.slice none 0 0, .slice none 0 0, .slice none 0 0] 26
  rw [e3] at b3
  generalize hw4 : w3.alloc (.cells [.slice none 0 0, .slice none 0 0, .slice none 0 0].toArray 26) = w4 at b3
  have e4 : w4.heap.size = w.heap.size + 1 + 1 + 1 + 1 := by rw [← hw4, alloc_size, e3]
  have bl4 : Below w3.heap.size w3 w4 := by rw [← hw4]; (repeat (with_reducible first | exact Below.refl _ _ | assumption | apply below_alloc | apply below_drewN | apply below_drew1 | (refine below_set ?_ (by simp only [alloc_size]; omega)) | (refine below_step ?_ (by assumption))))
  clear hw1 hw2 hw3 hw4
  have bx : ∀ {o T : Nat} {cs : List Value} {a b : World}, Bx o T cs a → Below a.heap.size a b → Bx o T cs b := fun h hb => h.only (S := fun _ => False) (Only.of_below hb) id
  have b0' := bx (bx (bx b0 bl2) bl3) bl4
  have b1' := bx (bx b1 bl3) bl4
  have b2' := bx b2 bl4
  have bl := below_step (below_step (below_step bl1 bl2) bl3) bl4
  refine ⟨⟨A, c, b1'.cell 0 _ rfl, b1'.cell 1 _ rfl, b1'.ty, hc, h.below bl, hx, fun hk => ?_⟩, b2'.ty, b2'.cell 0 _ rfl, b3.ty, ⟨_, b3.cell 0 _ rfl, World.ownsRow_nil _ _ _ _⟩, ⟨_, [], b3.cell 1 _ rfl, World.ownsRow_nil _ _ _ _, fun i l' hl' => by simp at hl'⟩, ⟨_, b3.cell 2 _ rfl, World.ownsRow_nil _ _ _ _⟩,
    ⟨by omega, by omega, by omega, bl.size⟩, ⟨b0', by omega⟩, hok, bl, fun l' e => by obtain rfl := Option.some.inj e; simpa using hl⟩
  have := hok _ hk
  omega
set_option maxRecDepth 100000 in
set_option maxHeartbeats 3200000 in
theorem get_calls {ok : Nat → Prop} (l : List Nat) (A : Option Addr) (c : Nat) (w : World) (h : kByte.C ok w A l) (hx : ∀ x ∈ l, x < 256) (hc : l.length ≤ c) (hl : l.length ≤ 1000000) (hok : ∀ k, ok k → k < w.heap.size) :
    Calls Try.prog 14 #[.slice A l.length c] w (GetPost l w) := by
  have hI0 := Lib.hid (get_start l A c w h hx hc hl hok)
  clear h hx hok
  have hS : Hid (getS l = ((listF pkF ((listF rowF ((listF obF (some l, [])).1, [])).1, [])).1, ⟨(listF obF (some l, [])).2, (listF rowF ((listF obF (some l, [])).1, [])).2, (listF pkF ((listF rowF ((listF obF (some l, [])).1, [])).1, [])).2⟩)) := Lib.hid rfl
  go_enter Try.func14, Try.ntmps14
  go_wp2_with fail
  refine (list_calls each_get1 (some l, []) _ hI0.out).mono ?_
  rintro e w1 ⟨rfl, hG1⟩
  generalize (listF obF (some l, [])).2 = os at hG1 hS
  generalize (listF obF (some l, [])).1 = st1 at hG1 hS
  have d1 := hG1.rbc
  have I1 := Lib.hid hG1
  clear hG1
  go_wp2_with fail
  refine (list_calls each_get2 (st1, []) _ I1.out).mono ?_
  rintro e w2 ⟨rfl, hG2⟩
  generalize (listF rowF (st1, [])).2 = ps at hG2 hS
  generalize (listF rowF (st1, [])).1 = st2 at hG2 hS
  have d2 := hG2.rbc
  have I2 := Lib.hid hG2
  clear hG2 d1 I1
  go_wp2_with fail
  refine (list_calls each_get3 (st2, []) _ I2.out).mono ?_
  rintro e w3 ⟨rfl, hG3⟩
  generalize (listF pkF (st2, [])).2 = ks at hG3 hS
  generalize (listF pkF (st2, [])).1 = st3 at hG3 hS
  have d3 := hG3.rbc
  have hfl := hG3.rd.flag
  have I3 := Lib.hid hG3
  have x0 := hG3.xc.1.cell 0 _ rfl
  have x1 := hG3.xc.1.cell 1 _ rfl
  have x2 := hG3.xc.1.cell 2 _ rfl
  have xf := fun i => hG3.xc.1.ty.frozen i
  clear hG3 d2 I2
  cases st3 with
  | none =>
    have hE : Hid (getR l = (some 2, noS)) := Lib.hid (by unfold getR; rw [hS.out]; simp)
    go_wp2_with fail
    refine bodyPost_ret (v := .tuple #[scrV noS none none none 0 0 0, errV (some 2)]) ?_ rfl ?_
    · simp [results, Try.results14, go_sem, scrV, noS, errV, x0, x1, x2]
    · exact ⟨none, none, none, 0, 0, 0, by rw [hE.out], by rw [hE.out]; exact noS_at _ _, below_set (below_set (below_set I3.out.bl (Nat.le_refl _)) (Nat.le_refl _)) (Nat.le_refl _)⟩
  | some l3 =>
    obtain ⟨A3, c3, r0, r1, rT, rc, rC, _, _⟩ := I3.out.rd
    have rl := rC.len
    cases l3 with
    | cons y l3 =>
      have hE : Hid (getR l = (some 2, noS)) := Lib.hid (by unfold getR; rw [hS.out]; simp)
      clear rC rT
      go_wp2_with fail
      refine bodyPost_ret (v := .tuple #[scrV noS none none none 0 0 0, errV (some 2)]) ?_ rfl ?_
      · simp [results, Try.results14, go_sem, scrV, noS, errV, x0, x1, x2]
      · exact ⟨none, none, none, 0, 0, 0, by rw [hE.out], by rw [hE.out]; exact noS_at _ _, below_set (below_set (below_set I3.out.bl (Nat.le_refl _)) (Nat.le_refl _)) (Nat.le_refl _)⟩
    | nil =>
      obtain ⟨A0, A1, A2, c0, c1, c2, g0, g1, g2, gS⟩ := GetInv.scr (s := ⟨os, ps, ks⟩) I3.out
      have GS := Lib.hid gS
      simp only at g0 g1 g2
      have zo := gS.o.len
      have zp := gS.p.len
      have zk := gS.k.len
      simp only at zo zp zk
      clear gS rC rT
      go_wp2_with fail
      refine (check_calls ⟨os, ps, ks⟩ A0 A1 A2 c0 c1 c2 _ GS.out).mono ?_
      rintro e w4 ⟨rfl, hb4⟩
      cases hce : checkE ⟨os, ps, ks⟩ with
      | none =>
        have hE : Hid (getR l = (none, ⟨os, ps, ks⟩)) := Lib.hid (by unfold getR; rw [hS.out]; simp [hce])
        have HB := Lib.hid hb4
        have y0 := cell_below_of x0 hb4
        have y1 := cell_below_of x1 hb4
        have y2 := cell_below_of x2 hb4
        have k0 := cell_below_of g0 hb4
        have k1 := cell_below_of g1 hb4
        have k2 := cell_below_of g2 hb4
        have yf := fun i => (I3.out.xc.1.ty.below hb4).frozen i
        have d4 := cell_below_of d3 hb4
        clear x0 x1 x2 g0 g1 g2 d3 hce xf hb4
        simp only [errV]
        go_wp2_with fail
        refine bodyPost_ret (v := .tuple #[scrV ⟨os, ps, ks⟩ A0 A1 A2 c0 c1 c2, errV none]) ?_ rfl ?_
        · simp [results, Try.results14, go_sem, scrV, noS, errV, y0, y1, y2]
        · refine ⟨A0, A1, A2, c0, c1, c2, by rw [hE.out], ?_, below_set (below_set (below_set (below_step I3.out.bl HB.out) (Nat.le_refl _)) (Nat.le_refl _)) (Nat.le_refl _)⟩
          rw [hE.out]
          have hO : Only (· = w.heap.size) w4 (((w4.setCell ⟨w.heap.size, 0, none⟩ (.slice A0 os.length c0)).setCell ⟨w.heap.size, 1, none⟩ (.slice A1 ps.length c1)).setCell ⟨w.heap.size, 2, none⟩ (.slice A2 ks.length c2)) :=
            (((Only.refl (· = w.heap.size) w4).set (p := ⟨w.heap.size, 0, none⟩) (.inl rfl) _).set (p := ⟨w.heap.size, 1, none⟩) (.inl rfl) _).set (p := ⟨w.heap.size, 2, none⟩) (.inl rfl) _
          exact ((GS.out.below HB.out).only hO (fun k hk e => hk.2 e)).mono (fun k hk => hk.1)
      | some ce =>
        have hE : Hid (getR l = (some ce, noS)) := Lib.hid (by unfold getR; rw [hS.out]; simp [hce])
        have HB := Lib.hid hb4
        have y0 := cell_below_of x0 hb4
        have y1 := cell_below_of x1 hb4
        have y2 := cell_below_of x2 hb4
        have yf := fun i => (I3.out.xc.1.ty.below hb4).frozen i
        clear x0 x1 x2 g0 g1 g2 d3 hce xf hb4
        simp only [errV]
        go_wp2_with fail
        refine bodyPost_ret (v := .tuple #[scrV noS none none none 0 0 0, errV (some ce)]) ?_ rfl ?_
        · simp [results, Try.results14, go_sem, scrV, noS, errV, y0, y1, y2]
        · exact ⟨none, none, none, 0, 0, 0, by rw [hE.out], by rw [hE.out]; exact noS_at _ _, below_set (below_set (below_set (below_step I3.out.bl HB.out) (Nat.le_refl _)) (Nat.le_refl _)) (Nat.le_refl _)⟩
end Go.Proofs.Ytikfkkinhipfjaa
