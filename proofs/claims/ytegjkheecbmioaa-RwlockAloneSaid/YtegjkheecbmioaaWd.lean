/- The reference's world of cells and threads: plain, and in memory. -/
import Derived.Test.YtegjkheecbmioaaTxJ
import Derived.Test.YtegjkheecbmioaaZer
namespace Go.Proofs.Ytegjkheecbmioaa
open Go.RowKit
set_option linter.unusedVariables false
set_option linter.unusedSimpArgs false

structure Prk where
  permit : Bool
  flag : Bool
  blocked : Bool
  dl : Int
deriving DecidableEq
structure St where
  cells : List Int
  thr : List Prk
  now : Int
deriving DecidableEq
structure Fr where
  at_ : Int
  r : List Int
deriving DecidableEq
def i64V (n : Int) : Value := .int .i64 n
/-- Blocks that the world's methods may write. -/
def Own4 (B : Nat) (w : World) (b : Nat) : Prop := B ≤ b ∧ (IsT b 77 w ∨ IsT b 74 w ∨ IsT b 71 w ∨ IsT b 2 w)
theorem Own4.of_ty {B : Nat} {w w' : World} {b : Nat} (h : Own4 B w b) (ht : ∀ b U, IsT b U w → IsT b U w') : Own4 B w' b := ⟨h.1, by rcases h.2 with h | h | h | h; (· exact .inl (ht _ _ h)); (· exact .inr (.inl (ht _ _ h))); (· exact .inr (.inr (.inl (ht _ _ h)))); (· exact .inr (.inr (.inr (ht _ _ h))))⟩
theorem Own4.lt {B : Nat} {w : World} {b : Nat} (h : Own4 B w b) : b < w.heap.size := by rcases h.2 with h | h | h | h <;> exact h.lt
theorem Own4.not {B U : Nat} {w : World} {b : Nat} (hb : IsT b U w) (h0 : U ≠ 77) (h1 : U ≠ 74) (h2 : U ≠ 71) (h3 : U ≠ 2) : ¬ Own4 B w b := fun h => by
  rcases h.2 with h | h | h | h
  · exact h0 (hb.uniq h)
  · exact h1 (hb.uniq h)
  · exact h2 (hb.uniq h)
  · exact h3 (hb.uniq h)
structure Ch (B : Nat) (F : Nat → Prop) (w w' : World) : Prop where
  on : Only (fun b => F b ∨ Own4 B w b) w w'
  ty : ∀ b U, IsT b U w → IsT b U w'
namespace Ch
variable {B : Nat} {F : Nat → Prop} {a b c : World}
theorem refl (B : Nat) (F : Nat → Prop) (w : World) : Ch B F w w := ⟨Only.refl _ _, fun _ _ h => h⟩
theorem back (h : Ch B F a b) {k : Nat} (hk : k < a.heap.size) (ho : Own4 B b k) : F k ∨ Own4 B a k := by
  by_cases hs : F k ∨ Own4 B a k
  · exact hs
  · have hb := h.on.block k hk hs
    right
    have e : ∀ U, IsT k U b → IsT k U a := fun U ⟨cur, hc⟩ => ⟨cur, hb ▸ hc⟩
    exact ⟨ho.1, by rcases ho.2 with h | h | h | h; (· exact .inl (e _ h)); (· exact .inr (.inl (e _ h))); (· exact .inr (.inr (.inl (e _ h)))); (· exact .inr (.inr (.inr (e _ h))))⟩
theorem trans (h : Ch B F a b) (k : Ch B F b c) : Ch B F a c := by
  refine ⟨⟨k.on.os.trans h.on.os, k.on.tape.trans h.on.tape, k.on.output.trans h.on.output, Nat.le_trans h.on.size k.on.size, fun i hi hs => ?_⟩, fun b U hU => k.ty b U (h.ty b U hU)⟩
  refine (k.on.block i (Nat.lt_of_lt_of_le hi h.on.size) (fun h2 => ?_)).trans (h.on.block i hi hs)
  rcases h2 with h2 | h2
  · exact hs (.inl h2)
  · exact hs (h.back hi h2)
theorem below (h : Below a.heap.size a b) : Ch B F a b := ⟨Only.of_below h, fun k U hk => hk.below h⟩
theorem alloc (h : Ch B F a b) (o : Obj) : Ch B F a (b.alloc o) := h.trans (Ch.below ((Below.refl _ _).alloc (Nat.le_refl _) o))
theorem drew (h : Ch B F a b) : Ch B F a b.drew := ⟨h.on.drew, h.ty⟩
theorem drewN (h : Ch B F a b) (n : Nat) : Ch B F a (b.drewN n) := ⟨h.on.drewN n, h.ty⟩
theorem set (h : Ch B F a b) {p : Addr} (hp : F p.block ∨ Own4 B b p.block) (u : Value) : Ch B F a (b.setCell p u) :=
  h.trans ⟨(Only.refl _ _).set (.inl hp) u, fun k U hk => hk.set p u⟩
theorem grown {s n : Nat} {v : Value} {xs : List Value} (h : Ch B F a b) (ho : b.ownsRow B 2 s v n xs) (hg : b.grownBy c v.ownBlock) (hr : ∀ k, v.ownBlock = some k → IsT k 2 c) : Ch B F a c :=
  h.trans ⟨(Only.refl _ _).grown hg (fun k hk => .inl (.inr ⟨own_base ho k hk, .inr (.inr (.inr (own_ty ho hk)))⟩)), fun k U hk => by
    by_cases e : v.ownBlock = some k
    · have := hk.uniq (own_ty ho e)
      rw [this]
      exact hr k e
    · exact hk.keep (hg.block k hk.lt (fun e2 => e e2.symm))⟩
theorem mono {G : Nat → Prop} (h : Ch B F a b) (hf : ∀ k, F k → G k) : Ch B G a b := ⟨h.on.mono (fun k hk => hk.imp (hf k) id), h.ty⟩
theorem isT (h : Ch B F a b) {k U : Nat} (hk : IsT k U a) : IsT k U b := h.ty _ _ hk
/-- What no method of the world writes stays. -/
theorem box (h : Ch B F a b) {o T : Nat} {cs : List Value} (hb : Bx o T cs a) (hF : ¬ F o) (h0 : T ≠ 77) (h1 : T ≠ 74) (h2 : T ≠ 71) (h3 : T ≠ 2) : Bx o T cs b :=
  hb.only h.on (fun e => by rcases e with e | e; (· exact hF e); (· exact Own4.not hb.ty h0 h1 h2 h3 e))
theorem own (h : Ch B F a b) {B' T s n : Nat} {v : Value} {xs : List Value} (ho : a.ownsRow B' T s v n xs) (hF : ∀ k, v.ownBlock = some k → ¬ F k) (h0 : T ≠ 77) (h1 : T ≠ 74) (h2 : T ≠ 71) (h3 : T ≠ 2) : b.ownsRow B' T s v n xs :=
  own_only ho h.on (fun k hk e => by rcases e with e | e; (· exact hF k hk e); (· exact Own4.not (own_ty ho hk) h0 h1 h2 h3 e))
theorem old (h : Ch B F a b) {α : Type} {d : Kd α} {ok : Nat → Prop} {A : Option Addr} {xs : List α} (hk : ∀ k, ok k → k < B) (hF : ∀ k, F k → B ≤ k) (hc : d.C ok a A xs) : d.C ok b A xs :=
  hc.keep (fun k ho hl => h.on.block k hl (fun e => by have := hk k ho; rcases e with e | e; (· have := hF k e; omega); (· have := e.1; omega)))
theorem bl (h : Ch B F a b) (hB : B ≤ a.heap.size) (hF : ∀ k, F k → B ≤ k) : Below B a b := h.on.below hB (fun k hk => by rcases hk with e | e; (· exact hF k e); (· exact e.1))
end Ch
/-- The world at its block: its cells, its threads. -/
structure WAt (B bW bT bL : Nat) (s : St) (w : World) : Prop where
  tW : IsT bW 77 w
  tT : IsT bT 74 w
  tL : IsT bL 71 w
  cC : ∃ v, w.cell? ⟨bW, 0, none⟩ = some v ∧ w.ownsRow B 2 1 v s.cells.length (s.cells.map i64V)
  cM : w.cell? ⟨bW, 1, none⟩ = some (.int .i64 4096)
  cT : w.cell? ⟨bW, 2, none⟩ = some (.pointer (some ⟨bT, 0, none⟩))
  cL : w.cell? ⟨bT, 0, none⟩ = some (.slice (some ⟨bL, 0, none⟩) s.thr.length s.thr.length)
  cN : w.cell? ⟨bT, 1, none⟩ = some (.int .i64 s.now)
  th : ∀ i p, s.thr[i]? = some p → w.cell? ⟨bL, i * 4, none⟩ = some (.bool p.permit) ∧ w.cell? ⟨bL, i * 4 + 1, none⟩ = some (.bool p.flag) ∧ w.cell? ⟨bL, i * 4 + 2, none⟩ = some (.bool p.blocked) ∧ w.cell? ⟨bL, i * 4 + 3, none⟩ = some (.int .i64 p.dl)
  bB : B ≤ bW ∧ B ≤ bT ∧ B ≤ bL ∧ B ≤ w.heap.size
  tl : s.thr.length ≤ 8
section
variable {B bW bT bL : Nat} {s : St} {w w' : World}
theorem WAt.keep (h : WAt B bW bT bL s w) (hk : ∀ k, Own4 B w k → w'.heap[k]? = w.heap[k]?) (hs : w.heap.size ≤ w'.heap.size) : WAt B bW bT bL s w' := by
  have kW := hk bW ⟨h.bB.1, .inl h.tW⟩
  have kT := hk bT ⟨h.bB.2.1, .inr (.inl h.tT)⟩
  have kL := hk bL ⟨h.bB.2.2.1, .inr (.inr (.inl h.tL))⟩
  obtain ⟨v, hv, ho⟩ := h.cC
  exact ⟨h.tW.keep kW, h.tT.keep kT, h.tL.keep kL, ⟨v, (World.cell?_of_block kW).trans hv, by
      refine ⟨ho.1, ?_⟩
      rcases ho.2 with hn | ⟨g, cap, cur, rfl, hb, hg, rest⟩
      · exact .inl hn
      · exact .inr ⟨g, cap, cur, rfl, hb, (hk g ⟨hb, .inr (.inr (.inr ⟨cur, hg⟩))⟩).trans hg, rest⟩⟩,
    (World.cell?_of_block kW).trans h.cM, (World.cell?_of_block kW).trans h.cT, (World.cell?_of_block kT).trans h.cL, (World.cell?_of_block kT).trans h.cN,
    fun i p hp => by
      obtain ⟨a, b, c, d⟩ := h.th i p hp
      exact ⟨(World.cell?_of_block kL).trans a, (World.cell?_of_block kL).trans b, (World.cell?_of_block kL).trans c, (World.cell?_of_block kL).trans d⟩,
    ⟨h.bB.1, h.bB.2.1, h.bB.2.2.1, Nat.le_trans h.bB.2.2.2 hs⟩, h.tl⟩
theorem WAt.below (h : WAt B bW bT bL s w) (hb : Below w.heap.size w w') : WAt B bW bT bL s w' := h.keep (fun k hk => hb.block k hk.lt) hb.size
theorem WAt.alloc (h : WAt B bW bT bL s w) (o : Obj) : WAt B bW bT bL s (w.alloc o) := h.below ((Below.refl _ _).alloc (Nat.le_refl _) o)
theorem WAt.drew (h : WAt B bW bT bL s w) : WAt B bW bT bL s w.drew := h.keep (fun _ _ => rfl) (Nat.le_refl _)
theorem WAt.drewN (h : WAt B bW bT bL s w) (n : Nat) : WAt B bW bT bL s (w.drewN n) := h.keep (fun _ _ => rfl) (Nat.le_refl _)
/-- A store elsewhere. -/
theorem WAt.other (h : WAt B bW bT bL s w) {g j U : Nat} {u : Value} (hg : IsT g U w) (h0 : U ≠ 77) (h1 : U ≠ 74) (h2 : U ≠ 71) (h3 : U ≠ 2) : WAt B bW bT bL s (w.setCell ⟨g, j, none⟩ u) :=
  h.keep (fun k hk => Below.heap_setCell _ _ _ _ (fun e => by
    have e : k = g := e
    subst e
    exact Own4.not hg h0 h1 h2 h3 hk)) (by simp [World.setCell])
theorem i64_at {w : World} {v : Value} {xs : List Int} {k : Nat} {x : Int} (h : w.ownsRow B 2 1 v xs.length (xs.map i64V)) (hx : xs[k]? = some x) :
    ∃ g cap, v = .slice (some ⟨g, 0, none⟩) xs.length cap ∧ xs.length ≤ cap ∧ w.cell? ⟨g, k, none⟩ = some (.int .i64 x) ∧ IsT g 2 w ∧ B ≤ g := by
  have hl : k < xs.length := (List.getElem?_eq_some_iff.1 hx).1
  rcases h.2 with ⟨_, h0⟩ | ⟨g, cap, cur, rfl, hb, hh, hnc, hcm, hcs, ht⟩
  · omega
  · refine ⟨g, cap, rfl, hnc, ?_, ⟨cur, hh⟩, hb⟩
    have h1 : (xs.map i64V)[k]? = some (i64V x) := by rw [List.getElem?_map, hx]; rfl
    rw [← ht, Nat.mul_one, List.getElem?_take_of_lt (by omega)] at h1
    have h1 : cur[k]? = some (i64V x) := by simpa using h1
    simp [World.cell?, hh, h1, i64V]
/-- Cell k is written. -/
theorem WAt.setC (h : WAt B bW bT bL s w) {g cap k : Nat} {u : Int} (hv : w.cell? ⟨bW, 0, none⟩ = some (.slice (some ⟨g, 0, none⟩) s.cells.length cap)) :
    WAt B bW bT bL { s with cells := s.cells.set k u } (w.setCell ⟨g, k, none⟩ (.int .i64 u)) := by
  obtain ⟨v, hv', ho⟩ := h.cC
  rw [hv] at hv'
  obtain rfl := Option.some.inj hv'
  have hgt := own_ty ho (g := g) rfl
  have ne : ∀ {k U : Nat}, IsT k U w → U ≠ 2 → k ≠ g := fun hk hn e => hn ((e ▸ hk).uniq hgt)
  have cl : ∀ {p U : Nat} {j : Nat} {x : Value}, IsT p U w → U ≠ 2 → w.cell? ⟨p, j, none⟩ = some x → (w.setCell ⟨g, k, none⟩ (.int .i64 u)).cell? ⟨p, j, none⟩ = some x := fun hp hn hx => (cell_set_ne _ _ _ _ (ne hp hn)).trans hx
  refine ⟨h.tW.set _ _, h.tT.set _ _, h.tL.set _ _, ⟨_, cl h.tW (by decide) hv, ?_⟩, cl h.tW (by decide) h.cM, cl h.tW (by decide) h.cT, cl h.tT (by decide) h.cL, cl h.tT (by decide) h.cN,
    fun i p hp => by obtain ⟨a, b, c, d⟩ := h.th i p hp; exact ⟨cl h.tL (by decide) a, cl h.tL (by decide) b, cl h.tL (by decide) c, cl h.tL (by decide) d⟩, ⟨h.bB.1, h.bB.2.1, h.bB.2.2.1, by have := h.bB.2.2.2; simpa [World.setCell] using this⟩, h.tl⟩
  have := (World.ownsRow.stored ho k (.int .i64 u)).1
  rw [List.map_set, List.length_set]
  exact this
/-- Field j of thread i is written. -/
theorem WAt.setT (h : WAt B bW bT bL s w) {i : Nat} {p p' : Prk} {j : Nat} {u : Value} (hp : s.thr[i]? = some p)
    (hj : (j = 0 ∧ u = .bool p'.permit ∧ p' = { p with permit := p'.permit }) ∨ (j = 1 ∧ u = .bool p'.flag ∧ p' = { p with flag := p'.flag }) ∨ (j = 2 ∧ u = .bool p'.blocked ∧ p' = { p with blocked := p'.blocked }) ∨ (j = 3 ∧ u = .int .i64 p'.dl ∧ p' = { p with dl := p'.dl })) :
    WAt B bW bT bL { s with thr := s.thr.set i p' } (w.setCell ⟨bL, i * 4 + j, none⟩ u) := by
  obtain ⟨v, hv, ho⟩ := h.cC
  have ne : ∀ {k U : Nat}, IsT k U w → U ≠ 71 → k ≠ bL := fun hk hn e => hn ((e ▸ hk).uniq h.tL)
  have cl : ∀ {p U : Nat} {q : Nat} {x : Value}, IsT p U w → U ≠ 71 → w.cell? ⟨p, q, none⟩ = some x → (w.setCell ⟨bL, i * 4 + j, none⟩ u).cell? ⟨p, q, none⟩ = some x := fun hp hn hx => (cell_set_ne _ _ _ _ (ne hp hn)).trans hx
  refine ⟨h.tW.set _ _, h.tT.set _ _, h.tL.set _ _, ⟨v, cl h.tW (by decide) hv, own_set ho _ _ (fun e => absurd ((own_ty ho e).uniq h.tL) (by decide))⟩, cl h.tW (by decide) h.cM, cl h.tW (by decide) h.cT, by rw [List.length_set]; exact cl h.tT (by decide) h.cL, cl h.tT (by decide) h.cN,
    fun k q hq => ?_, ⟨h.bB.1, h.bB.2.1, h.bB.2.2.1, by have := h.bB.2.2.2; simpa [World.setCell] using this⟩, by rw [List.length_set]; exact h.tl⟩
  by_cases e : k = i
  · subst e
    have hl : k < s.thr.length := (List.getElem?_eq_some_iff.1 hp).1
    have hqp : p' = q := by simpa [List.getElem?_set, hl] using hq
    subst hqp
    obtain ⟨a, b, c, d⟩ := h.th k p hp
    rcases hj with ⟨rfl, rfl, e1⟩ | ⟨rfl, rfl, e1⟩ | ⟨rfl, rfl, e1⟩ | ⟨rfl, rfl, e1⟩
    · exact ⟨cell_set_same a rfl, (cell_set_off b (by omega)).trans (by rw [e1]), (cell_set_off c (by omega)).trans (by rw [e1]), (cell_set_off d (by omega)).trans (by rw [e1])⟩
    · exact ⟨(cell_set_off a (by omega)).trans (by rw [e1]), cell_set_same b rfl, (cell_set_off c (by omega)).trans (by rw [e1]), (cell_set_off d (by omega)).trans (by rw [e1])⟩
    · exact ⟨(cell_set_off a (by omega)).trans (by rw [e1]), (cell_set_off b (by omega)).trans (by rw [e1]), cell_set_same c rfl, (cell_set_off d (by omega)).trans (by rw [e1])⟩
    · exact ⟨(cell_set_off a (by omega)).trans (by rw [e1]), (cell_set_off b (by omega)).trans (by rw [e1]), (cell_set_off c (by omega)).trans (by rw [e1]), cell_set_same d rfl⟩
  · rw [List.getElem?_set_ne (Ne.symm e)] at hq
    obtain ⟨a, b, c, d⟩ := h.th k q hq
    rcases hj with ⟨rfl, _⟩ | ⟨rfl, _⟩ | ⟨rfl, _⟩ | ⟨rfl, _⟩ <;> exact ⟨cell_set_off a (by omega), cell_set_off b (by omega), cell_set_off c (by omega), cell_set_off d (by omega)⟩
end
/-- A frame at its block. -/
def Fr.enc (f : Fr) : List Value := i64V f.at_ :: f.r.map i64V
def FrAt (b : Nat) (f : Fr) (w : World) : Prop := Bx b 68 f.enc w ∧ f.r.length = 16
end Go.Proofs.Ytegjkheecbmioaa
