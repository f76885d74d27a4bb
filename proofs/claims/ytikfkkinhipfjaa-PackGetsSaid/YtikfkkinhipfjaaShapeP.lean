/- A script of numbers, by the reference: the plain law, and what holds of the memory. -/
import Derived.Test.YtikfkkinhipfjaaRead
namespace Go.Proofs.Ytikfkkinhipfjaa
open Go.RowKit Go.ChangeShapes
set_option linter.unusedVariables false
set_option linter.unusedSimpArgs false

def Many {α : Type} (f : α → List Int) (G : List Int → Prop) : Nat → List Int → Prop
  | 0, r => G r
  | k + 1, r => ∃ o r', r = f o ++ r' ∧ Many f G k r'
def Head (P : Nat → List Int → Prop) (r : List Int) : Prop := ∃ k : Nat, k ≤ 65536 ∧ ∃ r', r = (k : Int) :: r' ∧ P k r'
def ManyH (G : List Int → Prop) : Nat → List Int → Prop
  | 0, r => G r
  | k + 1, r => Head (Many clN (ManyH G k)) r
def H3 (r : List Int) : Prop := r = []
def H2 : List Int → Prop := Head (Many pkN H3)
def H1 : List Int → Prop := Head (ManyH H2)
def H0 : List Int → Prop := Head (Many obN H1)
def lens (s : Scr) : Prop := s.objs.length ≤ 65536 ∧ s.progs.length ≤ 65536 ∧ s.picks.length ≤ 65536 ∧ ∀ l ∈ s.progs, l.length ≤ 65536
theorem many_flat {α : Type} {f : α → List Int} {G : List Int → Prop} : ∀ (xs : List α) (r : List Int), G r → Many f G xs.length (xs.flatMap f ++ r)
  | [], r, h => h
  | x :: xs, r, h => ⟨x, xs.flatMap f ++ r, by simp, many_flat xs r h⟩
theorem manyH_flat {G : List Int → Prop} : ∀ (xs : List (List Cl)) (r : List Int), (∀ l ∈ xs, l.length ≤ 65536) → G r → ManyH G xs.length (xs.flatMap rowN ++ r)
  | [], r, _, h => h
  | x :: xs, r, hl, h => ⟨x.length, hl x (by simp), x.flatMap clN ++ (xs.flatMap rowN ++ r), by simp [rowN], many_flat x _ (manyH_flat xs r (fun l h => hl l (by simp [h])) h)⟩
theorem good_of {s : Scr} (h : lens s) : H0 (scrN s) := by
  obtain ⟨h0, h1, h2, h3⟩ := h
  refine ⟨s.objs.length, h0, s.objs.flatMap obN ++ ([(s.progs.length : Int)] ++ (s.progs.flatMap rowN ++ ([(s.picks.length : Int)] ++ s.picks.flatMap pkN))), by simp [scrN], many_flat _ _ ⟨s.progs.length, h1, _, rfl, manyH_flat _ _ h3 ⟨s.picks.length, h2, _, rfl, ?_⟩⟩⟩
  have := many_flat (f := pkN) (G := H3) s.picks [] rfl
  simpa using this
/-! what a part asks -/
theorem Head.nil {P : Nat → List Int → Prop} : ¬ Head P [] := fun ⟨_, _, _, h, _⟩ => by cases h
theorem Head.out {P : Nat → List Int → Prop} {m : Int} {r : List Int} (hm : m < 0 ∨ 65536 < m) : ¬ Head P (m :: r) := fun ⟨k, hk, _, h, _⟩ => by
  have : m = (k : Int) := by injection h
  omega
theorem Head.tail {P : Nat → List Int → Prop} {m : Nat} {r : List Int} (h : Head P ((m : Int) :: r)) : P m r := by
  obtain ⟨k, _, r', e, h⟩ := h
  injection e with e1 e2
  obtain rfl : m = k := by omega
  rw [e2]; exact h
theorem ob_short {G : List Int → Prop} {k : Nat} {r : List Int} (h : Many obN G (k + 1) r) : ∃ a b c r', r = a :: b :: c :: r' ∧ (b = 0 ∨ b = 1) := by
  obtain ⟨o, r', rfl, _⟩ := h
  exact ⟨_, _, _, r', rfl, by cases o.fair <;> simp [bitI]⟩
theorem cl_short {G : List Int → Prop} {k : Nat} {r : List Int} (h : Many clN G (k + 1) r) : ∃ a b c d e r', r = a :: b :: c :: d :: e :: r' ∧ (e = 0 ∨ e = 1) := by
  obtain ⟨o, r', rfl, _⟩ := h
  exact ⟨_, _, _, _, _, r', rfl, by cases o.breaks <;> simp [bitI]⟩
theorem pk_short {G : List Int → Prop} {k : Nat} {r : List Int} (h : Many pkN G (k + 1) r) : ∃ a b r', r = a :: b :: r' := by
  obtain ⟨o, r', rfl, _⟩ := h
  exact ⟨_, _, r', rfl⟩
theorem bit_one {b : Int} (h : b = 0 ∨ b = 1) : bitI (b == 1) = b := by rcases h with rfl | rfl <;> rfl
theorem ob_step {G : List Int → Prop} {k : Nat} {a b c : Int} {r : List Int} (h : Many obN G (k + 1) (a :: b :: c :: r)) : Many obN G k r := by
  obtain ⟨o, r', e, h⟩ := h
  simp only [obN, List.cons_append, List.nil_append, List.cons.injEq] at e
  rw [e.2.2.2]; exact h
theorem cl_step {G : List Int → Prop} {k : Nat} {a b c d e : Int} {r : List Int} (h : Many clN G (k + 1) (a :: b :: c :: d :: e :: r)) : Many clN G k r := by
  obtain ⟨o, r', e, h⟩ := h
  simp only [clN, List.cons_append, List.nil_append, List.cons.injEq] at e
  rw [e.2.2.2.2.2]; exact h
theorem pk_step {G : List Int → Prop} {k : Nat} {a b : Int} {r : List Int} (h : Many pkN G (k + 1) (a :: b :: r)) : Many pkN G k r := by
  obtain ⟨o, r', e, h⟩ := h
  simp only [pkN, List.cons_append, List.nil_append, List.cons.injEq] at e
  rw [e.2.2]; exact h
/-! the memory -/
structure ShInv (Z : World) (sb : Nat) (os : List Ob) (ps : List (List Cl)) (ks : List Pk) (w : World) : Prop where
  sbT : IsT sb 26 w
  f0 : ∃ v, w.cell? ⟨sb, 0, none⟩ = some v ∧ w.ownsRow Z.heap.size 48 3 v os.length (os.flatMap Ob.enc)
  f1 : ∃ v hs, w.cell? ⟨sb, 1, none⟩ = some v ∧ w.ownsRow Z.heap.size 49 1 v ps.length hs ∧ RowsAt Z.heap.size ps hs w
  f2 : ∃ v, w.cell? ⟨sb, 2, none⟩ = some v ∧ w.ownsRow Z.heap.size 56 2 v ks.length (ks.flatMap Pk.enc)
  lo : Z.heap.size < sb
  xc : Bx Z.heap.size 26 [.slice none 0 0, .slice none 0 0, .slice none 0 0] w
  bl : Below Z.heap.size Z w
section
variable {Z : World} {sb : Nat} {os : List Ob} {ps : List (List Cl)} {ks : List Pk} {w w' : World}
theorem ShInv.below (h : ShInv Z sb os ps ks w) (hb : Below w.heap.size w w') : ShInv Z sb os ps ks w' := by
  obtain ⟨v0, c0, o0⟩ := h.f0
  obtain ⟨v1, hs, c1, o1, k1⟩ := h.f1
  obtain ⟨v2, c2, o2⟩ := h.f2
  exact ⟨h.sbT.below hb, ⟨v0, cell_below_of c0 hb, own_below o0 hb⟩, ⟨v1, hs, cell_below_of c1 hb, own_below o1 hb, k1.keep (fun k hk => hb.block k hk.lt)⟩, ⟨v2, cell_below_of c2 hb, own_below o2 hb⟩, h.lo, h.xc.only (S := fun _ => False) (Only.of_below hb) id, below_step h.bl hb⟩
theorem ShInv.push0 {w4 : World} {v : Value} {o : Ob} {A : Option Addr} {c : Nat} {X : Obj} (h : ShInv Z sb os ps ks w) (hcv : w.cell? ⟨sb, 0, none⟩ = some v) (ho : w.ownsRow Z.heap.size 48 3 v os.length (os.flatMap Ob.enc))
    (ho' : w4.ownsRow Z.heap.size 48 3 (.slice A (os.length + 1) c) (os.length + 1) (os.flatMap Ob.enc ++ Ob.enc o)) (hg : (w.alloc X).grownBy w4 v.ownBlock) : ShInv Z sb (os ++ [o]) ps ks (w4.setCell ⟨sb, 0, none⟩ (.slice A (os.length + 1) c)) := by
  have hT : TOnly Z.heap.size 48 w w4 := (TOnly.below (below_alloc (Below.refl _ _) X)).trans (TOnly.grown (ho.alloc X) hg)
  have hs := hT.ty _ _ (by decide) h.sbT
  obtain ⟨v1, hs1, c1, o1, r1⟩ := h.f1
  obtain ⟨v2, c2, o2⟩ := h.f2
  refine ⟨hs.set _ _, ⟨_, cell_set_same (hT.cell (by decide) h.sbT hcv) rfl, ?_⟩, ⟨v1, hs1, cell_set_off (hT.cell (by decide) h.sbT c1) (by decide), own_setT (hT.own (by decide) o1) hs (by decide), rows_setT (rows_T r1 hT (by decide)) hs (by decide)⟩,
    ⟨v2, cell_set_off (hT.cell (by decide) h.sbT c2) (by decide), own_setT (hT.own (by decide) o2) hs (by decide)⟩, h.lo, (h.xc.tonly hT (by decide)).other (Nat.ne_of_lt h.lo), below_set (h.bl.trans (hT.bl h.bl.size)) (Nat.le_of_lt h.lo)⟩
  have := own_setT (i := 0) (u := .slice A (os.length + 1) c) ho' hs (by decide)
  simpa using this
theorem ShInv.push2 {w4 : World} {v : Value} {o : Pk} {A : Option Addr} {c : Nat} {X : Obj} (h : ShInv Z sb os ps ks w) (hcv : w.cell? ⟨sb, 2, none⟩ = some v) (ho : w.ownsRow Z.heap.size 56 2 v ks.length (ks.flatMap Pk.enc))
    (ho' : w4.ownsRow Z.heap.size 56 2 (.slice A (ks.length + 1) c) (ks.length + 1) (ks.flatMap Pk.enc ++ Pk.enc o)) (hg : (w.alloc X).grownBy w4 v.ownBlock) : ShInv Z sb os ps (ks ++ [o]) (w4.setCell ⟨sb, 2, none⟩ (.slice A (ks.length + 1) c)) := by
  have hT : TOnly Z.heap.size 56 w w4 := (TOnly.below (below_alloc (Below.refl _ _) X)).trans (TOnly.grown (ho.alloc X) hg)
  have hs := hT.ty _ _ (by decide) h.sbT
  obtain ⟨v0, c0, o0⟩ := h.f0
  obtain ⟨v1, hs1, c1, o1, r1⟩ := h.f1
  refine ⟨hs.set _ _, ⟨v0, cell_set_off (hT.cell (by decide) h.sbT c0) (by decide), own_setT (hT.own (by decide) o0) hs (by decide)⟩, ⟨v1, hs1, cell_set_off (hT.cell (by decide) h.sbT c1) (by decide), own_setT (hT.own (by decide) o1) hs (by decide), rows_setT (rows_T r1 hT (by decide)) hs (by decide)⟩,
    ⟨_, cell_set_same (hT.cell (by decide) h.sbT hcv) rfl, ?_⟩, h.lo, (h.xc.tonly hT (by decide)).other (Nat.ne_of_lt h.lo), below_set (h.bl.trans (hT.bl h.bl.size)) (Nat.le_of_lt h.lo)⟩
  have := own_setT (i := 2) (u := .slice A (ks.length + 1) c) ho' hs (by decide)
  simpa using this
theorem ShInv.push1 {w4 : World} {v : Value} {hs0 : List Value} {l : List Cl} {A A2 : Option Addr} {c c2 : Nat} {X : Obj} (h : ShInv Z sb os ps ks w) (hcv : w.cell? ⟨sb, 1, none⟩ = some v) (ho : w.ownsRow Z.heap.size 49 1 v ps.length hs0) (hrows : RowsAt Z.heap.size ps hs0 w)
    (hnew : kCl.C (OfT Z.heap.size 54 w) w A2 l) (hlc : l.length ≤ c2) (ho' : w4.ownsRow Z.heap.size 49 1 (.slice A (ps.length + 1) c) (ps.length + 1) (hs0 ++ [.slice A2 l.length c2])) (hg : (w.alloc X).grownBy w4 v.ownBlock) :
    ShInv Z sb os (ps ++ [l]) ks (w4.setCell ⟨sb, 1, none⟩ (.slice A (ps.length + 1) c)) := by
  have hT : TOnly Z.heap.size 49 w w4 := (TOnly.below (below_alloc (Below.refl _ _) X)).trans (TOnly.grown (ho.alloc X) hg)
  have hs := hT.ty _ _ (by decide) h.sbT
  obtain ⟨v0, c0, o0⟩ := h.f0
  obtain ⟨v2, c2', o2⟩ := h.f2
  have hlen : hs0.length = ps.length := by have := ho.1; omega
  have hrows' : RowsAt Z.heap.size (ps ++ [l]) (hs0 ++ [.slice A2 l.length c2]) w := by
    intro i l' hl'
    by_cases hi : i < ps.length
    · rw [List.getElem?_append_left hi] at hl'
      obtain ⟨A', c', g1, g2, g3⟩ := hrows i l' hl'
      exact ⟨A', c', by rw [List.getElem?_append_left (by omega)]; exact g1, g2, g3⟩
    · rw [List.getElem?_append_right (by omega)] at hl'
      have hi0 : i = ps.length := by
        have := (List.getElem?_eq_some_iff.1 hl').1
        simp at this; omega
      subst hi0
      rw [Nat.sub_self] at hl'
      obtain rfl : l = l' := by simpa using hl'
      exact ⟨A2, c2, by rw [List.getElem?_append_right (by omega), hlen, Nat.sub_self]; rfl, hlc, hnew⟩
  refine ⟨hs.set _ _, ⟨v0, cell_set_off (hT.cell (by decide) h.sbT c0) (by decide), own_setT (hT.own (by decide) o0) hs (by decide)⟩, ⟨_, _, cell_set_same (hT.cell (by decide) h.sbT hcv) rfl, ?_, rows_setT (rows_T hrows' hT (by decide)) hs (by decide)⟩,
    ⟨v2, cell_set_off (hT.cell (by decide) h.sbT c2') (by decide), own_setT (hT.own (by decide) o2) hs (by decide)⟩, h.lo, (h.xc.tonly hT (by decide)).other (Nat.ne_of_lt h.lo), below_set (h.bl.trans (hT.bl h.bl.size)) (Nat.le_of_lt h.lo)⟩
  have := own_setT (i := 1) (u := .slice A (ps.length + 1) c) ho' hs (by decide)
  simpa using this
/-- The box at an append's end. -/
theorem ShInv.sbA {T s n : Nat} {w5 : World} {v : Value} {xs : List Value} {X : Obj} (h : ShInv Z sb os ps ks w) (ho : w.ownsRow Z.heap.size T s v n xs) (hg : (w.alloc X).grownBy w5 v.ownBlock) (hn : 26 ≠ T) (i : Nat) (u : Value) (hu : w.cell? ⟨sb, i, none⟩ = some u) :
    w5.cell? ⟨sb, i, none⟩ = some u ∧ w5.frozen? ⟨sb, i, none⟩ = false := by
  have hT : TOnly Z.heap.size T w w5 := (TOnly.below (below_alloc (Below.refl _ _) X)).trans (TOnly.grown (ho.alloc X) hg)
  exact ⟨hT.cell hn h.sbT hu, (hT.ty _ _ hn h.sbT).frozen i⟩
/-- The script as it is. -/
theorem ShInv.scr {s : Scr} (h : ShInv Z sb s.objs s.progs s.picks w) (hl : lens s) :
    ∃ A0 A1 A2 c0 c1 c2, w.cell? ⟨sb, 0, none⟩ = some (.slice A0 s.objs.length c0) ∧ w.cell? ⟨sb, 1, none⟩ = some (.slice A1 s.progs.length c1) ∧ w.cell? ⟨sb, 2, none⟩ = some (.slice A2 s.picks.length c2) ∧ ScrAt (fun k => Z.heap.size ≤ k ∧ k ≠ Z.heap.size) w s A0 A1 A2 c0 c1 c2 := by
  have hT := h.xc.ty
  obtain ⟨v0, g0, o0⟩ := h.f0
  obtain ⟨v1, hs, g1, o1, k1⟩ := h.f1
  obtain ⟨v2, g2, o2⟩ := h.f2
  obtain ⟨A0, c0, rfl, l0, C0⟩ := C_of_own (enc := Ob.enc) (hl := fun _ => rfl) (h1 := by intro x u hu; simp [Ob.enc] at hu; rcases hu with rfl | rfl | rfl <;> rfl) (h0 := by decide) (ok := (fun k => Z.heap.size ≤ k ∧ k ≠ Z.heap.size)) o0 (fun k hk => ⟨own_base o0 k hk, fun e => absurd (hT.uniq (e ▸ own_ty o0 hk)) (by decide)⟩)
  obtain ⟨A1, c1, rfl, l1, C1⟩ := rows_C (n := 0) hT o1 k1 (by have := hl.2.1; omega)
  obtain ⟨A2, c2, rfl, l2, C2⟩ := C_of_own (enc := Pk.enc) (hl := fun _ => rfl) (h1 := by intro x u hu; simp [Pk.enc] at hu; rcases hu with rfl | rfl <;> rfl) (h0 := by decide) (ok := (fun k => Z.heap.size ≤ k ∧ k ≠ Z.heap.size)) o2 (fun k hk => ⟨own_base o2 k hk, fun e => absurd (hT.uniq (e ▸ own_ty o2 hk)) (by decide)⟩)
  exact ⟨A0, A1, A2, c0, c1, c2, g0, g1, g2, C0, l0, C1, l1, C2, l2⟩
end
/-- Numbers behind others. -/
theorem at_rest {ok : Nat → Prop} {w : World} {ad : Addr} {ns pre r : List Int} {j : Nat} {n : Int} (h : kI64.C ok w (some ad) ns) (e : ns = pre ++ r) (hj : r[j]? = some n) : w.cell? (ad.add (pre.length + j)) = some (.int .i64 n) ∧ pre.length + j < ns.length := by
  have hl : j < r.length := (List.getElem?_eq_some_iff.1 hj).1
  have hlt : pre.length + j < ns.length := by rw [e, List.length_append]; omega
  obtain ⟨ad', m, e1, e2, e3, _⟩ := at_i64 h _ hlt
  obtain rfl := Option.some.inj e1
  rw [e, List.getElem?_append_right (by omega), Nat.add_sub_cancel_left, hj] at e2
  obtain rfl := Option.some.inj e2
  exact ⟨e3, hlt⟩
end Go.Proofs.Ytikfkkinhipfjaa
