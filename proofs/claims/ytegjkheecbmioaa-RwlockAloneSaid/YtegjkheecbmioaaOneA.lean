/- What holds inside of the reference's 'one': an instruction on a frame. -/
import Derived.Test.YtegjkheecbmioaaWd
namespace Go.Proofs.Ytegjkheecbmioaa
open Go.RowKit
set_option linter.unusedVariables false
set_option linter.unusedSimpArgs false

def Fr.R (f : Fr) (k : Nat) : Int := f.r.getD k 0
def Fr.set (f : Fr) (k : Nat) (v : Int) : Fr := { f with r := f.r.set k v }
theorem Bx.alloc {o T : Nat} {cs : List Value} {w : World} (h : Bx o T cs w) (ob : Obj) : Bx o T cs (w.alloc ob) := h.below ((Below.refl _ _).alloc (Nat.le_refl _) ob)
theorem Bx.drew {o T : Nat} {cs : List Value} {w : World} (h : Bx o T cs w) : Bx o T cs w.drew := ⟨h.ty, h.cell⟩
structure Env (w0 : World) (B bW bT bL bF : Nat) (x : List Value) (f : Fr) (s : St) (w : World) : Prop where
  wa : WAt B bW bT bL s w
  fr : FrAt bF f w
  x5 : Bx w0.heap.size 95 x w
  x9 : ∃ a b, Bx (w0.heap.size + 1) 40 [.int .i64 a, .int .i64 b] w
  x11 : Bx (w0.heap.size + 2) 40 [.int .i64 (-1), .int .i64 0] w
  ch : Ch B (· = bF) w0 w
  lo : B ≤ bF ∧ bF < w0.heap.size
section
variable {w0 w w' : World} {B bW bT bL bF : Nat} {x : List Value} {f : Fr} {s : St}
theorem FrAt.get (h : FrAt bF f w) {k : Nat} (hk : k < 16) : w.cell? ⟨bF, 1 + k, none⟩ = some (.int .i64 (f.R k)) := by
  have hl : k < f.r.length := by rw [h.2]; exact hk
  refine h.1.cell (1 + k) _ ?_
  rw [Fr.enc, Nat.add_comm, List.getElem?_cons_succ, List.getElem?_map, List.getElem?_eq_getElem hl]
  simp [Fr.R, i64V, List.getD_eq_getElem?_getD, List.getElem?_eq_getElem hl]
theorem FrAt.at0 (h : FrAt bF f w) : w.cell? ⟨bF, 0, none⟩ = some (.int .i64 f.at_) := h.1.cell 0 _ rfl
theorem FrAt.fz (h : FrAt bF f w) (k : Nat) : w.frozen? ⟨bF, k, none⟩ = false := h.1.ty.frozen k
theorem Env.start (hw : WAt B bW bT bL s w) (hf : FrAt bF f w) (hB : B ≤ bF) (xs : List Value) : Env w B bW bT bL bF xs f s (((w.alloc (.cells xs.toArray 95)).alloc (.cells #[.int .i64 0, .int .i64 0] 40)).alloc (.cells #[.int .i64 (-1), .int .i64 0] 40)) := by
  have s1 := alloc_size w (.cells xs.toArray 95)
  have s2 := alloc_size (w.alloc (.cells xs.toArray 95)) (.cells #[.int .i64 0, .int .i64 0] 40)
  have b1 := Bx.new w xs 95
  have b2 := Bx.new (w.alloc (.cells xs.toArray 95)) [.int .i64 0, .int .i64 0] 40
  have b3 := Bx.new ((w.alloc (.cells xs.toArray 95)).alloc (.cells #[.int .i64 0, .int .i64 0] 40)) [.int .i64 (-1), .int .i64 0] 40
  rw [s1] at b2 s2
  rw [s2] at b3
  refine ⟨((hw.alloc _).alloc _).alloc _, ⟨((hf.1.alloc _).alloc _).alloc _, hf.2⟩, (b1.alloc _).alloc _, ⟨0, 0, b2.alloc _⟩, b3, (((Ch.refl _ _ _).alloc _).alloc _).alloc _, hB, hf.1.ty.lt⟩
theorem Env.drew (h : Env w0 B bW bT bL bF x f s w) : Env w0 B bW bT bL bF x f s w.drew :=
  ⟨h.wa.drew, ⟨⟨h.fr.1.ty, h.fr.1.cell⟩, h.fr.2⟩, ⟨h.x5.ty, h.x5.cell⟩, by obtain ⟨a, b, h9⟩ := h.x9; exact ⟨a, b, h9.ty, h9.cell⟩, ⟨h.x11.ty, h.x11.cell⟩, h.ch.drew, h.lo⟩
theorem Env.drewN (h : Env w0 B bW bT bL bF x f s w) (n : Nat) : Env w0 B bW bT bL bF x f s (w.drewN n) :=
  ⟨h.wa.drewN n, ⟨⟨h.fr.1.ty, h.fr.1.cell⟩, h.fr.2⟩, ⟨h.x5.ty, h.x5.cell⟩, by obtain ⟨a, b, h9⟩ := h.x9; exact ⟨a, b, h9.ty, h9.cell⟩, ⟨h.x11.ty, h.x11.cell⟩, h.ch.drewN n, h.lo⟩
/-- A store into the frame's block. -/
theorem Env.setF (h : Env w0 B bW bT bL bF x f s w) {f' : Fr} {k : Nat} {v : Int} (he : f.enc.set k (i64V v) = f'.enc) (hl : f'.r.length = 16) : Env w0 B bW bT bL bF x f' s (w.setCell ⟨bF, k, none⟩ (.int .i64 v)) := by
  have hlo := h.lo
  have h1 := h.fr.1.set k (i64V v)
  rw [he] at h1
  refine ⟨h.wa.other h.fr.1.ty (by decide) (by decide) (by decide) (by decide), ⟨h1, hl⟩, h.x5.other (by omega), ?_, h.x11.other (by omega), h.ch.set (.inl rfl) _, h.lo⟩
  obtain ⟨a, b, h9⟩ := h.x9
  exact ⟨a, b, h9.other (by omega)⟩
theorem Env.setR (h : Env w0 B bW bT bL bF x f s w) (k : Nat) (v : Int) : Env w0 B bW bT bL bF x (f.set k v) s (w.setCell ⟨bF, 1 + k, none⟩ (.int .i64 v)) :=
  h.setF (by simp [Fr.enc, Fr.set, Nat.add_comm 1 k, List.map_set]) (by simp [Fr.set, h.fr.2])
theorem Env.setAt (h : Env w0 B bW bT bL bF x f s w) (v : Int) : Env w0 B bW bT bL bF x { f with at_ := v } s (w.setCell ⟨bF, 0, none⟩ (.int .i64 v)) :=
  h.setF (by simp [Fr.enc]) h.fr.2
theorem Env.set9 (h : Env w0 B bW bT bL bF x f s w) (p q : Int) : Env w0 B bW bT bL bF x f s ((w.setCell ⟨w0.heap.size + 1, 0, none⟩ (.int .i64 p)).setCell ⟨w0.heap.size + 1, 1, none⟩ (.int .i64 q)) := by
  have hlo := h.lo
  obtain ⟨a, b, h9⟩ := h.x9
  have hW : ∀ (w : World) (j : Nat) (u : Value), Bx (w0.heap.size + 1) 40 [] w → WAt B bW bT bL s w → WAt B bW bT bL s (w.setCell ⟨w0.heap.size + 1, j, none⟩ u) := fun w j u hb hw => hw.other hb.ty (by decide) (by decide) (by decide) (by decide)
  have hne : Bx (w0.heap.size + 1) 40 [] w := ⟨h9.ty, by intro i v hv; cases hv⟩
  have n1 := h9.set 0 (.int .i64 p)
  have n2 := n1.set 1 (.int .i64 q)
  have hne1 : Bx (w0.heap.size + 1) 40 [] (w.setCell ⟨w0.heap.size + 1, 0, none⟩ (.int .i64 p)) := ⟨n1.ty, by intro i v hv; cases hv⟩
  refine ⟨hW _ _ _ hne1 (hW _ _ _ hne h.wa), ⟨(h.fr.1.other (by omega)).other (by omega), h.fr.2⟩, (h.x5.other (by omega)).other (by omega), ⟨p, q, n2⟩, (h.x11.other (by omega)).other (by omega), ?_, h.lo⟩
  refine ⟨?_, fun b U hb => (h.ch.ty b U hb).set _ _ |>.set _ _⟩
  exact (h.ch.on.set (.inr (Nat.le_succ _)) _).set (.inr (Nat.le_succ _)) _
theorem Env.setC (h : Env w0 B bW bT bL bF x f s w) {g cap k : Nat} {u : Int} (hv : w.cell? ⟨bW, 0, none⟩ = some (.slice (some ⟨g, 0, none⟩) s.cells.length cap)) :
    Env w0 B bW bT bL bF x f { s with cells := s.cells.set k u } (w.setCell ⟨g, k, none⟩ (.int .i64 u)) := by
  obtain ⟨v, hv', ho⟩ := h.wa.cC
  rw [hv] at hv'
  obtain rfl := Option.some.inj hv'
  have hg := own_ty ho (g := g) rfl
  have hgB : B ≤ g := own_base ho g rfl
  have ne : ∀ {k U : Nat}, IsT k U w → U ≠ 2 → k ≠ g := fun hk hn e => hn ((e ▸ hk).uniq hg)
  obtain ⟨a, b, h9⟩ := h.x9
  exact ⟨h.wa.setC hv, ⟨h.fr.1.other (ne h.fr.1.ty (by decide)), h.fr.2⟩, h.x5.other (ne h.x5.ty (by decide)), ⟨a, b, h9.other (ne h9.ty (by decide))⟩, h.x11.other (ne h.x11.ty (by decide)),
    h.ch.set (.inr ⟨hgB, .inr (.inr (.inr hg))⟩) _, h.lo⟩
theorem Env.setT (h : Env w0 B bW bT bL bF x f s w) {i : Nat} {p p' : Prk} {j : Nat} {u : Value} (hp : s.thr[i]? = some p)
    (hj : (j = 0 ∧ u = .bool p'.permit ∧ p' = { p with permit := p'.permit }) ∨ (j = 1 ∧ u = .bool p'.flag ∧ p' = { p with flag := p'.flag }) ∨ (j = 2 ∧ u = .bool p'.blocked ∧ p' = { p with blocked := p'.blocked }) ∨ (j = 3 ∧ u = .int .i64 p'.dl ∧ p' = { p with dl := p'.dl })) :
    Env w0 B bW bT bL bF x f { s with thr := s.thr.set i p' } (w.setCell ⟨bL, i * 4 + j, none⟩ u) := by
  have ne : ∀ {k U : Nat}, IsT k U w → U ≠ 71 → k ≠ bL := fun hk hn e => hn ((e ▸ hk).uniq h.wa.tL)
  obtain ⟨a, b, h9⟩ := h.x9
  exact ⟨h.wa.setT hp hj, ⟨h.fr.1.other (ne h.fr.1.ty (by decide)), h.fr.2⟩, h.x5.other (ne h.x5.ty (by decide)), ⟨a, b, h9.other (ne h9.ty (by decide))⟩, h.x11.other (ne h.x11.ty (by decide)),
    h.ch.set (.inr ⟨h.wa.bB.2.2.1, .inr (.inr (.inl h.wa.tL))⟩) _, h.lo⟩
/-- What a method of the world has done. -/
theorem Env.call (h : Env w0 B bW bT bL bF x f s w) {s' : St} (hw : WAt B bW bT bL s' w') (hc : Ch B (fun _ => False) w w') : Env w0 B bW bT bL bF x f s' w' := by
  obtain ⟨a, b, h9⟩ := h.x9
  exact ⟨hw, ⟨hc.box h.fr.1 id (by decide) (by decide) (by decide) (by decide), h.fr.2⟩, hc.box h.x5 id (by decide) (by decide) (by decide) (by decide), ⟨a, b, hc.box h9 id (by decide) (by decide) (by decide) (by decide)⟩,
    hc.box h.x11 id (by decide) (by decide) (by decide) (by decide), h.ch.trans (hc.mono (fun _ h => h.elim)), h.lo⟩
end
/-- How 'one' ended. -/
def OnePost (w0 : World) (B bW bT bL bF : Nat) (how nk nv came : Int) (f : Fr) (s : St) (e : Ending) (w : World) : Prop :=
  e = .returned (.tuple #[.int .i64 how, .agg #[.int .i64 nk, .int .i64 nv], .int .i64 came]) ∧ WAt B bW bT bL s w ∧ FrAt bF f w ∧ Ch B (· = bF) w0 w
end Go.Proofs.Ytegjkheecbmioaa
