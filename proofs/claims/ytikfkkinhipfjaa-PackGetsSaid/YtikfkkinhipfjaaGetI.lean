/- What holds of the memory between the closures of pack.Get. -/
import Derived.Test.YtikfkkinhipfjaaRdB
import Derived.Test.YtikfkkinhipfjaaTy
import Derived.Test.YtikfkkinhipfjaaScrG
namespace Go.Proofs.Ytikfkkinhipfjaa
open Go.RowKit Go.ChangeShapes
set_option linter.unusedVariables false
set_option linter.unusedSimpArgs false

theorem RdAt.only {ok : Nat → Prop} {r : Nat} {w w' : World} {st : Option (List Nat)} {S : Nat → Prop} (h : RdAt ok r w st) (hO : Only S w w') (hr : ¬ S r) (hk : ∀ k, ok k → ¬ S k) : RdAt ok r w' st := by
  cases st with
  | none =>
    obtain ⟨⟨v, h0⟩, h1, hT⟩ := h
    exact ⟨⟨v, hO.cell h0 hr⟩, hO.cell h1 hr, hT.keep (hO.block r hT.lt hr)⟩
  | some l =>
    obtain ⟨A, c, h0, h1, hT, hc, hC, hx, hr'⟩ := h
    exact ⟨A, c, hO.cell h0 hr, hO.cell h1 hr, hT.keep (hO.block r hT.lt hr), hc, hC.only hO hk, hx, hr'⟩
theorem RdAt.below {ok : Nat → Prop} {r : Nat} {w w' : World} {st : Option (List Nat)} (h : RdAt ok r w st) (hb : Below w.heap.size w w') : RdAt ok r w' st :=
  h.only (S := fun _ => False) (Only.of_below hb) id (fun _ _ => id)
theorem alloc_set_at (w : World) (p : Addr) (u : Value) (o : Obj) : ((w.setCell p u).alloc o).heap[w.heap.size]? = some o := by
  have := alloc_heap_at (w.setCell p u) o
  rwa [show (w.setCell p u).heap.size = w.heap.size from by simp [World.setCell]] at this
theorem cell_set_ne (w : World) (a p : Addr) (u : Value) (h : a.block ≠ p.block) : (w.setCell p u).cell? a = w.cell? a := World.cell?_of_block (Below.heap_setCell w p u _ h)
/-- A block of the call's own, cell by cell. -/
structure Bx (o T : Nat) (cs : List Value) (w : World) : Prop where
  ty : IsT o T w
  cell : ∀ i v, cs[i]? = some v → w.cell? ⟨o, i, none⟩ = some v
theorem Bx.new (w : World) (cs : List Value) (T : Nat) : Bx w.heap.size T cs (w.alloc (.cells cs.toArray T)) := ⟨IsT.new _ _ _, fun i v h => box_cell w cs T h⟩
theorem Bx.only {o T : Nat} {cs : List Value} {w w' : World} {S : Nat → Prop} (h : Bx o T cs w) (hO : Only S w w') (hs : ¬ S o) : Bx o T cs w' := ⟨h.ty.keep (hO.block o h.ty.lt hs), fun i v hv => hO.cell (h.cell i v hv) hs⟩
theorem Bx.set {o T : Nat} {cs : List Value} {w : World} (h : Bx o T cs w) (i : Nat) (u : Value) : Bx o T (cs.set i u) (w.setCell ⟨o, i, none⟩ u) := by
  refine ⟨h.ty.set _ _, fun j v hv => ?_⟩
  by_cases e : j = i
  · subst e
    rw [List.getElem?_set] at hv
    simp only [if_true] at hv
    split at hv
    · rename_i hl
      obtain rfl := Option.some.inj hv
      exact cell_set_same (h.cell j _ (List.getElem?_eq_getElem hl)) rfl
    · cases hv
  · rw [List.getElem?_set_ne (Ne.symm e)] at hv
    exact cell_set_off (h.cell j v hv) e
theorem Bx.tonly {o T U B : Nat} {cs : List Value} {w w' : World} (h : Bx o T cs w) (hT : TOnly B U w w') (hn : T ≠ U) : Bx o T cs w' := ⟨hT.ty _ _ hn h.ty, fun i v hv => hT.cell hn h.ty (h.cell i v hv)⟩
theorem Bx.other {o T g i : Nat} {cs : List Value} {w : World} {u : Value} (h : Bx o T cs w) (hn : o ≠ g) : Bx o T cs (w.setCell ⟨g, i, none⟩ u) := h.only (S := (· = g)) (Only.set (S := (· = g)) (Only.refl _ _) (p := ⟨g, i, none⟩) (.inl rfl) u) hn
/-- The rows of the programs. -/
def RowsAt (B : Nat) (ps : List (List Cl)) (hs : List Value) (w : World) : Prop :=
  ∀ (i : Nat) l, ps[i]? = some l → ∃ A c, hs[i]? = some (.slice A l.length c) ∧ l.length ≤ c ∧ kCl.C (OfT B 54 w) w A l
structure GetInv (Z : World) (B : Nat) (ok : Nat → Prop) (r rb sb : Nat) (st : Option (List Nat)) (os : List Ob) (ps : List (List Cl)) (ks : List Pk) (w : World) : Prop where
  rd : RdAt ok r w st
  rbT : IsT rb 63 w
  rbc : w.cell? ⟨rb, 0, none⟩ = some (.pointer (some ⟨r, 0, none⟩))
  sbT : IsT sb 26 w
  f0 : ∃ v, w.cell? ⟨sb, 0, none⟩ = some v ∧ w.ownsRow B 48 3 v os.length (os.flatMap Ob.enc)
  f1 : ∃ v hs, w.cell? ⟨sb, 1, none⟩ = some v ∧ w.ownsRow B 49 1 v ps.length hs ∧ RowsAt B ps hs w
  f2 : ∃ v, w.cell? ⟨sb, 2, none⟩ = some v ∧ w.ownsRow B 56 2 v ks.length (ks.flatMap Pk.enc)
  lo : B ≤ r ∧ B ≤ rb ∧ B ≤ sb ∧ B ≤ w.heap.size
  xc : Bx B 26 [.slice none 0 0, .slice none 0 0, .slice none 0 0] w ∧ B ≠ sb
  okB : ∀ k, ok k → k < B
  bl : Below B Z w
  len : ∀ l, st = some l → l.length + os.length + ps.length + ks.length ≤ 1000000
theorem own_grow {w w' : World} {B U s n : Nat} {v : Value} {xs : List Value} (h : w.ownsRow B U s v n xs) (hk : ∀ k, v.ownBlock = some k → k < w.heap.size → w'.heap[k]? = w.heap[k]?) : w'.ownsRow B U s v n xs := by
  refine ⟨h.1, ?_⟩
  rcases h.2 with hn | ⟨g, cap, cur, rfl, hb, hgg, rest⟩
  · exact .inl hn
  · exact .inr ⟨g, cap, cur, rfl, hb, (hk g rfl (Array.getElem?_eq_some_iff.1 hgg).1).trans hgg, rest⟩
theorem RowsAt.keep {B : Nat} {ps : List (List Cl)} {hs : List Value} {w w' : World} (h : RowsAt B ps hs w) (hk : ∀ k, IsT k 54 w → w'.heap[k]? = w.heap[k]?) : RowsAt B ps hs w' := fun i l hl => by
  obtain ⟨A, c, h1, h2, h3⟩ := h i l hl
  exact ⟨A, c, h1, h2, C_ofT h3 (Nat.le_refl _) (fun k hk2 => hk k hk2.2)⟩
section
variable {Z : World} {B : Nat} {ok : Nat → Prop} {r rb sb : Nat} {st st' : Option (List Nat)} {os : List Ob} {ps : List (List Cl)} {ks : List Pk} {w w' : World}
theorem ob_src {w : World} {b : Nat} {o : Ob} {fr : Nat × Nat} (h : w.heap[b]? = some (.cells #[.int .i64 o.kind, .bool o.fair, .int .i64 o.n] 48 fr)) : Src w (.slice (some ⟨b, 0, none⟩) 1 1) 1 (Ob.enc o) :=
  Src.of_block (cs := Ob.enc o) h (by intro u hu; simp [Ob.enc] at hu; rcases hu with rfl | rfl | rfl <;> rfl)
theorem pk_src {w : World} {b : Nat} {o : Pk} {fr : Nat × Nat} (h : w.heap[b]? = some (.cells #[.int .i64 o.kind, .int .i64 o.n] 56 fr)) : Src w (.slice (some ⟨b, 0, none⟩) 1 1) 1 (Pk.enc o) :=
  Src.of_block (cs := Pk.enc o) h (by intro u hu; simp [Pk.enc] at hu; rcases hu with rfl | rfl <;> rfl)
theorem cl_src {w : World} {b : Nat} {o : Cl} {fr : Nat × Nat} (h : w.heap[b]? = some (.cells #[.int .i64 o.kind, .int .i64 o.obj, .int .i64 o.n, .int .i64 o.wait, .bool o.breaks] 54 fr)) : Src w (.slice (some ⟨b, 0, none⟩) 1 1) 1 (Cl.enc o) :=
  Src.of_block (cs := Cl.enc o) h (by intro u hu; simp [Cl.enc] at hu; rcases hu with rfl | rfl | rfl | rfl | rfl <;> rfl)
/-- A change of the reader's block and of new ones alone. -/
theorem GetInv.step (h : GetInv Z B ok r rb sb st os ps ks w) (hO : Only (fun b => b = r ∨ w.heap.size ≤ b) w w') (hR : RdAt ok r w' st') (hl : ∀ l', st' = some l' → ∃ l, st = some l ∧ l'.length ≤ l.length) : GetInv Z B ok r rb sb st' os ps ks w' := by
  have hk : ∀ k U, U ≠ 65 → IsT k U w → w'.heap[k]? = w.heap[k]? := fun k U hn hT => hO.block k hT.lt (fun e => by
    rcases e with e | e
    · subst e; exact hn (hT.uniq h.rd.ty)
    · have := hT.lt; omega)
  have hc : ∀ k i U v, U ≠ 65 → IsT k U w → w.cell? ⟨k, i, none⟩ = some v → w'.cell? ⟨k, i, none⟩ = some v := fun k i U v hn hT hv => (World.cell?_of_block (hk k U hn hT)).trans hv
  have ho : ∀ U s n v xs, U ≠ 65 → w.ownsRow B U s v n xs → w'.ownsRow B U s v n xs := fun U s n v xs hn hv => own_grow hv (fun k hk' _ => hk k U hn (own_ty hv hk'))
  obtain ⟨v0, c0, o0⟩ := h.f0
  obtain ⟨v1, hs, c1, o1, k1⟩ := h.f1
  obtain ⟨v2, c2, o2⟩ := h.f2
  refine ⟨hR, h.rbT.keep (hk _ _ (by decide) h.rbT), hc _ _ _ _ (by decide) h.rbT h.rbc, h.sbT.keep (hk _ _ (by decide) h.sbT), ⟨v0, hc _ _ _ _ (by decide) h.sbT c0, ho _ _ _ _ _ (by decide) o0⟩,
    ⟨v1, hs, hc _ _ _ _ (by decide) h.sbT c1, ho _ _ _ _ _ (by decide) o1, k1.keep (fun k hT => hk k _ (by decide) hT)⟩, ⟨v2, hc _ _ _ _ (by decide) h.sbT c2, ho _ _ _ _ _ (by decide) o2⟩,
    ⟨h.lo.1, h.lo.2.1, h.lo.2.2.1, Nat.le_trans h.lo.2.2.2 hO.size⟩, ⟨h.xc.1.only hO (fun e => by
      rcases e with e | e
      · exact absurd ((e ▸ h.xc.1.ty).uniq h.rd.ty) (by decide)
      · have := h.xc.1.ty.lt; omega), h.xc.2⟩, h.okB, h.bl.trans (hO.below h.lo.2.2.2 (fun i e => by rcases e with e | e; (· rw [e]; exact h.lo.1); (· exact Nat.le_trans h.lo.2.2.2 e))), fun l' e => ?_⟩
  obtain ⟨l, e2, hle⟩ := hl l' e
  have := h.len l e2
  omega
theorem GetInv.below (h : GetInv Z B ok r rb sb st os ps ks w) (hb : Below w.heap.size w w') : GetInv Z B ok r rb sb st os ps ks w' :=
  h.step (Only.of_below hb) (h.rd.below hb) (fun l e => ⟨l, e, Nat.le_refl _⟩)
/-- The bounds that stay. -/
theorem GetInv.keepT {T : Nat} (h : GetInv Z B ok r rb sb st os ps ks w) {g : Nat} {u : Value} {w4 : World} (hT : TOnly B T w w4) (h1 : 65 ≠ T) (h2 : 63 ≠ T) (h3 : 26 ≠ T) (i : Nat) (hi : i < 3) :
    RdAt ok r (w4.setCell ⟨sb, i, none⟩ u) st ∧ IsT rb 63 (w4.setCell ⟨sb, i, none⟩ u) ∧ (w4.setCell ⟨sb, i, none⟩ u).cell? ⟨rb, 0, none⟩ = some (.pointer (some ⟨r, 0, none⟩)) ∧ IsT sb 26 (w4.setCell ⟨sb, i, none⟩ u) := by
  have hs := hT.ty _ _ h3 h.sbT
  have hO : Only (· = sb) w4 (w4.setCell ⟨sb, i, none⟩ u) := Only.set (S := (· = sb)) (Only.refl _ _) (.inl rfl) _
  have hr4 : RdAt ok r w4 st := h.rd.only hT.on (TOnly.not h1 h.rd.ty) (fun k hk e => by have := h.okB k hk; omega)
  have hb4 := hT.ty _ _ h2 h.rbT
  have hc4 := hT.cell h2 h.rbT h.rbc
  have n1 : r ≠ sb := fun e => absurd ((e ▸ hr4.ty).uniq hs) (by decide)
  have n2 : rb ≠ sb := fun e => absurd ((e ▸ hb4).uniq hs) (by decide)
  exact ⟨hr4.only hO n1 (fun k hk e => by have := h.okB k hk; have := h.lo.2.2.1; omega), hb4.set _ _, hO.cell hc4 n2, hs.set _ _⟩
theorem own_setT {B U s n g i : Nat} {v u : Value} {xs : List Value} {w : World} {T : Nat} (h : w.ownsRow B U s v n xs) (hg : IsT g T w) (hn : U ≠ T) : (w.setCell ⟨g, i, none⟩ u).ownsRow B U s v n xs :=
  own_set h _ _ (fun e => hn ((own_ty h e).uniq hg))
theorem rows_setT {B g i : Nat} {u : Value} {w : World} {T : Nat} {ps : List (List Cl)} {hs : List Value} (h : RowsAt B ps hs w) (hg : IsT g T w) (hn : 54 ≠ T) : RowsAt B ps hs (w.setCell ⟨g, i, none⟩ u) :=
  h.keep (fun k hk => Below.heap_setCell _ _ _ _ (fun e => hn ((show k = g from e) ▸ hk |>.uniq hg)))
theorem rows_T {B T : Nat} {w w4 : World} {ps : List (List Cl)} {hs : List Value} (h : RowsAt B ps hs w) (hT : TOnly B T w w4) (hn : 54 ≠ T) : RowsAt B ps hs w4 :=
  h.keep (fun k hk => hT.on.block k hk.lt (TOnly.not hn hk))
theorem GetInv.push0 {w4 : World} {v : Value} {o : Ob} {A : Option Addr} {c : Nat} (h : GetInv Z B ok r rb sb st os ps ks w) (ho : w.ownsRow B 48 3 v os.length (os.flatMap Ob.enc))
    (ho' : w4.ownsRow B 48 3 (.slice A (os.length + 1) c) (os.length + 1) (os.flatMap Ob.enc ++ Ob.enc o)) (hg : w.grownBy w4 v.ownBlock) (hcv : ∃ u, w.cell? ⟨sb, 0, none⟩ = some u)
    (hl : ∀ l, st = some l → l.length + (os.length + 1) + ps.length + ks.length ≤ 1000000) : GetInv Z B ok r rb sb st (os ++ [o]) ps ks (w4.setCell ⟨sb, 0, none⟩ (.slice A (os.length + 1) c)) := by
  have hT : TOnly B 48 w w4 := TOnly.grown ho hg
  have hs := hT.ty _ _ (by decide) h.sbT
  obtain ⟨k1, k2, k3, k4⟩ := h.keepT (g := sb) (u := .slice A (os.length + 1) c) hT (by decide) (by decide) (by decide) 0 (by decide)
  obtain ⟨u, hu⟩ := hcv
  obtain ⟨v1, hs1, c1, o1, r1⟩ := h.f1
  obtain ⟨v2, c2, o2⟩ := h.f2
  refine ⟨k1, k2, k3, k4, ⟨_, cell_set_same (hT.cell (by decide) h.sbT hu) rfl, ?_⟩, ⟨v1, hs1, cell_set_off (hT.cell (by decide) h.sbT c1) (by decide), own_setT (hT.own (by decide) o1) hs (by decide), rows_setT (rows_T r1 hT (by decide)) hs (by decide)⟩,
    ⟨v2, cell_set_off (hT.cell (by decide) h.sbT c2) (by decide), own_setT (hT.own (by decide) o2) hs (by decide)⟩, ⟨h.lo.1, h.lo.2.1, h.lo.2.2.1, Nat.le_trans h.lo.2.2.2 (by simpa [World.setCell] using hT.on.size)⟩, ⟨(h.xc.1.tonly hT (by decide)).other h.xc.2, h.xc.2⟩, h.okB, below_set (h.bl.trans (hT.bl h.lo.2.2.2)) h.lo.2.2.1, ?_⟩
  · have := own_setT (i := 0) (u := .slice A (os.length + 1) c) ho' hs (by decide)
    simpa using this
  · intro l e
    have := hl l e
    simpa using this
theorem GetInv.push2 {w4 : World} {v : Value} {o : Pk} {A : Option Addr} {c : Nat} (h : GetInv Z B ok r rb sb st os ps ks w) (ho : w.ownsRow B 56 2 v ks.length (ks.flatMap Pk.enc))
    (ho' : w4.ownsRow B 56 2 (.slice A (ks.length + 1) c) (ks.length + 1) (ks.flatMap Pk.enc ++ Pk.enc o)) (hg : w.grownBy w4 v.ownBlock) (hcv : ∃ u, w.cell? ⟨sb, 2, none⟩ = some u)
    (hl : ∀ l, st = some l → l.length + os.length + ps.length + (ks.length + 1) ≤ 1000000) : GetInv Z B ok r rb sb st os ps (ks ++ [o]) (w4.setCell ⟨sb, 2, none⟩ (.slice A (ks.length + 1) c)) := by
  have hT : TOnly B 56 w w4 := TOnly.grown ho hg
  have hs := hT.ty _ _ (by decide) h.sbT
  obtain ⟨k1, k2, k3, k4⟩ := h.keepT (g := sb) (u := .slice A (ks.length + 1) c) hT (by decide) (by decide) (by decide) 2 (by decide)
  obtain ⟨u, hu⟩ := hcv
  obtain ⟨v1, hs1, c1, o1, r1⟩ := h.f1
  obtain ⟨v2, c2, o2⟩ := h.f0
  refine ⟨k1, k2, k3, k4, ⟨v2, cell_set_off (hT.cell (by decide) h.sbT c2) (by decide), own_setT (hT.own (by decide) o2) hs (by decide)⟩, ⟨v1, hs1, cell_set_off (hT.cell (by decide) h.sbT c1) (by decide), own_setT (hT.own (by decide) o1) hs (by decide), rows_setT (rows_T r1 hT (by decide)) hs (by decide)⟩,
    ⟨_, cell_set_same (hT.cell (by decide) h.sbT hu) rfl, ?_⟩, ⟨h.lo.1, h.lo.2.1, h.lo.2.2.1, Nat.le_trans h.lo.2.2.2 (by simpa [World.setCell] using hT.on.size)⟩, ⟨(h.xc.1.tonly hT (by decide)).other h.xc.2, h.xc.2⟩, h.okB, below_set (h.bl.trans (hT.bl h.lo.2.2.2)) h.lo.2.2.1, ?_⟩
  · have := own_setT (i := 2) (u := .slice A (ks.length + 1) c) ho' hs (by decide)
    simpa using this
  · intro l e
    have := hl l e
    simpa using this
theorem GetInv.push1 {w4 : World} {v : Value} {hs0 : List Value} {l : List Cl} {A A2 : Option Addr} {c c2 : Nat} (h : GetInv Z B ok r rb sb st os ps ks w) (ho : w.ownsRow B 49 1 v ps.length hs0) (hrows : RowsAt B ps hs0 w) (hnew : kCl.C (OfT B 54 w) w A2 l) (hlc : l.length ≤ c2)
    (ho' : w4.ownsRow B 49 1 (.slice A (ps.length + 1) c) (ps.length + 1) (hs0 ++ [.slice A2 l.length c2])) (hg : w.grownBy w4 v.ownBlock) (hcv : ∃ u, w.cell? ⟨sb, 1, none⟩ = some u)
    (hl : ∀ l, st = some l → l.length + os.length + (ps.length + 1) + ks.length ≤ 1000000) : GetInv Z B ok r rb sb st os (ps ++ [l]) ks (w4.setCell ⟨sb, 1, none⟩ (.slice A (ps.length + 1) c)) := by
  have hT : TOnly B 49 w w4 := TOnly.grown ho hg
  have hs := hT.ty _ _ (by decide) h.sbT
  obtain ⟨k1, k2, k3, k4⟩ := h.keepT (g := sb) (u := .slice A (ps.length + 1) c) hT (by decide) (by decide) (by decide) 1 (by decide)
  obtain ⟨u, hu⟩ := hcv
  obtain ⟨v0, c0, o0⟩ := h.f0
  obtain ⟨v2, c2', o2⟩ := h.f2
  have hlen : hs0.length = ps.length := by have := ho.1; omega
  have hrows' : RowsAt B (ps ++ [l]) (hs0 ++ [.slice A2 l.length c2]) w := by
    intro i l' hl'
    by_cases hi : i < ps.length
    · rw [List.getElem?_append_left hi] at hl'
      obtain ⟨A', c', g1, g2, g3⟩ := hrows i l' hl'
      exact ⟨A', c', by rw [List.getElem?_append_left (by omega)]; exact g1, g2, g3⟩
    · rw [List.getElem?_append_right (by omega)] at hl'
      have hi0 : i = ps.length := by
        have := (List.getElem?_eq_some_iff.1 hl').1
        simp at this; omega
      subst hi0
      rw [Nat.sub_self] at hl'
      obtain rfl : l = l' := by simpa using hl'
      exact ⟨A2, c2, by rw [List.getElem?_append_right (by omega), hlen, Nat.sub_self]; rfl, hlc, hnew⟩
  refine ⟨k1, k2, k3, k4, ⟨v0, cell_set_off (hT.cell (by decide) h.sbT c0) (by decide), own_setT (hT.own (by decide) o0) hs (by decide)⟩, ⟨_, _, cell_set_same (hT.cell (by decide) h.sbT hu) rfl, ?_, rows_setT (rows_T hrows' hT (by decide)) hs (by decide)⟩,
    ⟨v2, cell_set_off (hT.cell (by decide) h.sbT c2') (by decide), own_setT (hT.own (by decide) o2) hs (by decide)⟩, ⟨h.lo.1, h.lo.2.1, h.lo.2.2.1, Nat.le_trans h.lo.2.2.2 (by simpa [World.setCell] using hT.on.size)⟩, ⟨(h.xc.1.tonly hT (by decide)).other h.xc.2, h.xc.2⟩, h.okB, below_set (h.bl.trans (hT.bl h.lo.2.2.2)) h.lo.2.2.1, ?_⟩
  · have := own_setT (i := 1) (u := .slice A (ps.length + 1) c) ho' hs (by decide)
    simpa using this
  · intro l e
    have := hl l e
    simpa using this
theorem GetInv.sbA {T s n : Nat} {w5 : World} {v : Value} {xs : List Value} {X : Obj} (h : GetInv Z B ok r rb sb st os ps ks w) (ho : w.ownsRow B T s v n xs) (hg : (w.alloc X).grownBy w5 v.ownBlock) (hn : 26 ≠ T) (i : Nat) (u : Value) (hu : w.cell? ⟨sb, i, none⟩ = some u) :
    w5.cell? ⟨sb, i, none⟩ = some u ∧ w5.frozen? ⟨sb, i, none⟩ = false := by
  have hT : TOnly B T w w5 := (TOnly.below (below_alloc (Below.refl _ _) X)).trans (TOnly.grown (ho.alloc X) hg)
  exact ⟨hT.cell hn h.sbT hu, (hT.ty _ _ hn h.sbT).frozen i⟩
theorem GetInv.push0A {w4 : World} {v : Value} {o : Ob} {A : Option Addr} {c : Nat} {X : Obj} (h : GetInv Z B ok r rb sb st os ps ks w) (hcv : w.cell? ⟨sb, 0, none⟩ = some v) (ho : w.ownsRow B 48 3 v os.length (os.flatMap Ob.enc))
    (ho' : w4.ownsRow B 48 3 (.slice A (os.length + 1) c) (os.length + 1) (os.flatMap Ob.enc ++ Ob.enc o)) (hg : (w.alloc X).grownBy w4 v.ownBlock)
    (hl : ∀ l, st = some l → l.length + (os.length + 1) + ps.length + ks.length ≤ 1000000) : GetInv Z B ok r rb sb st (os ++ [o]) ps ks (w4.setCell ⟨sb, 0, none⟩ (.slice A (os.length + 1) c)) :=
  (h.below (below_alloc (Below.refl _ _) X)).push0 (ho.alloc X) ho' hg ⟨_, cell_alloc_of hcv X⟩ hl
theorem GetInv.push2A {w4 : World} {v : Value} {o : Pk} {A : Option Addr} {c : Nat} {X : Obj} (h : GetInv Z B ok r rb sb st os ps ks w) (hcv : w.cell? ⟨sb, 2, none⟩ = some v) (ho : w.ownsRow B 56 2 v ks.length (ks.flatMap Pk.enc))
    (ho' : w4.ownsRow B 56 2 (.slice A (ks.length + 1) c) (ks.length + 1) (ks.flatMap Pk.enc ++ Pk.enc o)) (hg : (w.alloc X).grownBy w4 v.ownBlock)
    (hl : ∀ l, st = some l → l.length + os.length + ps.length + (ks.length + 1) ≤ 1000000) : GetInv Z B ok r rb sb st os ps (ks ++ [o]) (w4.setCell ⟨sb, 2, none⟩ (.slice A (ks.length + 1) c)) :=
  (h.below (below_alloc (Below.refl _ _) X)).push2 (ho.alloc X) ho' hg ⟨_, cell_alloc_of hcv X⟩ hl
theorem GetInv.push1A {w4 : World} {v : Value} {hs0 : List Value} {l : List Cl} {A A2 : Option Addr} {c c2 : Nat} {X : Obj} (h : GetInv Z B ok r rb sb st os ps ks w) (hcv : w.cell? ⟨sb, 1, none⟩ = some v) (ho : w.ownsRow B 49 1 v ps.length hs0) (hrows : RowsAt B ps hs0 w) (hnew : kCl.C (OfT B 54 w) w A2 l) (hlc : l.length ≤ c2)
    (ho' : w4.ownsRow B 49 1 (.slice A (ps.length + 1) c) (ps.length + 1) (hs0 ++ [.slice A2 l.length c2])) (hg : (w.alloc X).grownBy w4 v.ownBlock)
    (hl : ∀ l, st = some l → l.length + os.length + (ps.length + 1) + ks.length ≤ 1000000) : GetInv Z B ok r rb sb st os (ps ++ [l]) ks (w4.setCell ⟨sb, 1, none⟩ (.slice A (ps.length + 1) c)) :=
  have hb : Below w.heap.size w (w.alloc X) := below_alloc (Below.refl _ _) X
  (h.below hb).push1 (ho.alloc X) (hrows.keep (fun k hk => hb.block k hk.lt)) (C_ofT hnew (Nat.le_refl _) (fun k hk => hb.block k hk.lt)) hlc ho' hg ⟨_, cell_alloc_of hcv X⟩ hl
end
end Go.Proofs.Ytikfkkinhipfjaa
