/- Small laws on worlds, and what it means that a slice in memory reads as a list. Of no program. -/
import Derived.WalkKit
import Derived.WalkSpells
import Derived.WalkLawsBesides
import Derived.Deep.QuietTactic
import Derived.BigQuiet
import Derived.Lib.Hide
import Derived.Lib.IfaceEq
import Derived.Lib.IfaceNeq
import Derived.KernelRfl
namespace Go.Proofs.Ytegjkheecbmioaa
open Go.RowKit
set_option linter.unusedVariables false
set_option linter.unusedSimpArgs false

/-! ### worlds -/
theorem alloc_size (w : World) (o : Obj) : (w.alloc o).heap.size = w.heap.size + 1 := by
  show (w.heap.push o).size = _
  simp
theorem below_alloc {w W : World} (h : Below w.heap.size w W) (o : Obj) : Below w.heap.size w (W.alloc o) := h.alloc h.size o
theorem below_allocN {n : Nat} {w W : World} (h : Below n w W) (hn : n ≤ W.heap.size) (o : Obj) : Below n w (W.alloc o) := h.alloc hn o
theorem below_drew1 {n : Nat} {w W : World} (h : Below n w W) : Below n w W.drew := h.drew
theorem below_drewN {n : Nat} {w W : World} (h : Below n w W) (m : Nat) : Below n w (W.drewN m) := ⟨h.os, h.tape, h.output, h.size, h.block⟩
theorem below_step {w W w2 : World} (h : Below w.heap.size w W) (k : Below W.heap.size W w2) : Below w.heap.size w w2 :=
  h.trans (k.mono h.size)
theorem below_set {n : Nat} {w W : World} {g j : Nat} {v : Value} (h : Below n w W) (hg : n ≤ g) : Below n w (W.setCell ⟨g, j, none⟩ v) := h.setCell hg _
theorem below_grown {n : Nat} {w W W' : World} {row : Option Nat} (h : Below n w W) (hg : W.grownBy W' row) (hB : n ≤ W.heap.size) (hr : ∀ k, row = some k → n ≤ k) : Below n w W' := h.grown hg hB hr
theorem cell_lt {w : World} {a : Addr} {v : Value} (h : w.cell? a = some v) : a.block < w.heap.size := by
  unfold World.cell? at h
  split at h
  · rename_i h1; exact (Array.getElem?_eq_some_iff.1 h1).1
  · simp at h

/-- Blocks of w that are not in S are in w' as they were. -/
structure Only (S : Nat → Prop) (w w' : World) : Prop where
  os : w'.os = w.os
  tape : w'.tape = w.tape
  output : w'.output = w.output
  size : w.heap.size ≤ w'.heap.size
  block : ∀ k, k < w.heap.size → ¬ S k → w'.heap[k]? = w.heap[k]?
namespace Only
theorem refl (S : Nat → Prop) (w : World) : Only S w w := ⟨rfl, rfl, rfl, Nat.le_refl _, fun _ _ _ => rfl⟩
theorem trans {S : Nat → Prop} {a b c : World} (h : Only S a b) (k : Only S b c) : Only S a c :=
  ⟨k.os.trans h.os, k.tape.trans h.tape, k.output.trans h.output, Nat.le_trans h.size k.size, fun i hi hs => (k.block i (Nat.lt_of_lt_of_le hi h.size) hs).trans (h.block i hi hs)⟩
/-- A later step may turn what is new, too. -/
theorem then_ {S S2 : Nat → Prop} {a b c : World} (h : Only S a b) (k : Only S2 b c) (hs : ∀ i, S2 i → S i ∨ a.heap.size ≤ i) : Only S a c :=
  ⟨k.os.trans h.os, k.tape.trans h.tape, k.output.trans h.output, Nat.le_trans h.size k.size, fun i hi hn => (k.block i (Nat.lt_of_lt_of_le hi h.size) (fun h2 => by rcases hs i h2 with h3 | h3; exact hn h3; omega)).trans (h.block i hi hn)⟩
theorem mono {S S2 : Nat → Prop} {a b : World} (h : Only S a b) (hs : ∀ i, S i → S2 i) : Only S2 a b := ⟨h.os, h.tape, h.output, h.size, fun i hi hn => h.block i hi (fun h2 => hn (hs i h2))⟩
theorem of_below {S : Nat → Prop} {a b : World} (h : Below a.heap.size a b) : Only S a b := ⟨h.os, h.tape, h.output, h.size, fun i hi _ => h.block i hi⟩
theorem below {S : Nat → Prop} {n : Nat} {a b : World} (h : Only S a b) (hn : n ≤ a.heap.size) (hs : ∀ i, S i → n ≤ i) : Below n a b := ⟨h.os, h.tape, h.output, h.size, fun i hi => h.block i (by omega) (fun h2 => by have := hs i h2; omega)⟩
theorem alloc {S : Nat → Prop} {a b : World} (h : Only S a b) (o : Obj) : Only S a (b.alloc o) := h.trans (of_below ((Below.refl _ _).alloc (Nat.le_refl _) o))
theorem drew {S : Nat → Prop} {a b : World} (h : Only S a b) : Only S a b.drew := ⟨h.os, h.tape, h.output, h.size, h.block⟩
theorem drewN {S : Nat → Prop} {a b : World} (h : Only S a b) (m : Nat) : Only S a (b.drewN m) := ⟨h.os, h.tape, h.output, h.size, h.block⟩
theorem set {S : Nat → Prop} {a b : World} (h : Only S a b) {p : Addr} (hp : S p.block ∨ a.heap.size ≤ p.block) (u : Value) : Only S a (b.setCell p u) :=
  ⟨h.os, h.tape, h.output, Nat.le_trans h.size (by simp [World.setCell]), fun k hk hs => (Below.heap_setCell _ _ _ _ (by rintro rfl; rcases hp with hp | hp; exact hs hp; omega)).trans (h.block k hk hs)⟩
theorem grown {S : Nat → Prop} {a b c : World} {row : Option Nat} (h : Only S a b) (hg : b.grownBy c row) (hr : ∀ k, row = some k → S k ∨ a.heap.size ≤ k) : Only S a c :=
  ⟨hg.os.trans h.os, hg.tape.trans h.tape, hg.output.trans h.output, Nat.le_trans h.size hg.size, fun i hi hs => (hg.block i (Nat.lt_of_lt_of_le hi h.size) (fun e => by rcases hr i e.symm with h2 | h2; exact hs h2; omega)).trans (h.block i hi hs)⟩
theorem cell {S : Nat → Prop} {a b : World} (h : Only S a b) {p : Addr} {v : Value} (hc : a.cell? p = some v) (hp : ¬ S p.block) : b.cell? p = some v :=
  (World.cell?_of_block (h.block p.block (cell_lt hc) hp)).trans hc
end Only

theorem box_cell (w : World) (cs : List Value) (T : Nat) {i : Nat} {v : Value} (h : cs[i]? = some v) : (w.alloc (.cells cs.toArray T)).cell? ⟨w.heap.size, i, none⟩ = some v := by
  show World.cell? { w with heap := w.heap.push (.cells cs.toArray T) } ⟨w.heap.size, i, none⟩ = some v
  simp [World.cell?, h]
/-- A box's cell, later on. -/
theorem box_later {w w1 : World} {cs : List Value} {T : Nat} (hb : Below (w.alloc (.cells cs.toArray T)).heap.size (w.alloc (.cells cs.toArray T)) w1) {i : Nat} {v : Value} (h : cs[i]? = some v) :
    w1.cell? ⟨w.heap.size, i, none⟩ = some v := (hb.cell (p := ⟨w.heap.size, i, none⟩) (by rw [alloc_size]; exact Nat.lt_succ_self _)).trans (box_cell w cs T h)
theorem box_below {w w1 : World} {o : Obj} (hb : Below (w.alloc o).heap.size (w.alloc o) w1) : Below w.heap.size w w1 := below_step (below_alloc (Below.refl _ _) o) hb
theorem box_lt {w w1 : World} {o : Obj} (hb : Below (w.alloc o).heap.size (w.alloc o) w1) : w.heap.size < w1.heap.size := Nat.lt_of_lt_of_le (by rw [alloc_size]; exact Nat.lt_succ_self _) hb.size
theorem alloc_heap_at (w : World) (o : Obj) : (w.alloc o).heap[w.heap.size]? = some o := by
  show (w.heap.push o)[w.heap.size]? = some o
  simp
theorem alloc_heap_lt (w : World) (o : Obj) {k : Nat} {x : Obj} (h : w.heap[k]? = some x) : (w.alloc o).heap[k]? = some x := by
  have hk : k < w.heap.size := (Array.getElem?_eq_some_iff.1 h).1
  rw [Below.heap_alloc _ _ _ hk, h]
theorem cell_alloc_of {w : World} {a : Addr} {v : Value} (h : w.cell? a = some v) (o : Obj) : (w.alloc o).cell? a = some v :=
  (((Below.refl _ _).alloc (Nat.le_refl _) o).cell (cell_lt h)).trans h
theorem cell_below_of {w w1 : World} {a : Addr} {v : Value} (h : w.cell? a = some v) (hb : Below w.heap.size w w1) : w1.cell? a = some v := (hb.cell (cell_lt h)).trans h
theorem cell_set_of {w : World} {a p : Addr} {v u : Value} (h : w.cell? a = some v) (hp : a.block ≠ p.block) : (w.setCell p u).cell? a = some v :=
  (World.cell?_of_block (Below.heap_setCell w p u _ hp)).trans h
theorem cell_set_same {w : World} {a : Addr} {v u : Value} (h : w.cell? a = some u) (hs : a.spot = none) : (w.setCell a v).cell? a = some v := by
  unfold World.cell? at h
  split at h
  · rename_i c T f hb
    simp only [hs] at h
    have hlt : a.off < c.size := (Array.getElem?_eq_some_iff.1 (by simpa using h)).1
    simp [World.cell?, World.setCell, Array.getElem?_modify, hb, hs, hlt]
  · simp at h
theorem cell_set_off {w : World} {g i j : Nat} {v u : Value} (h : w.cell? ⟨g, i, none⟩ = some v) (hij : i ≠ j) : (w.setCell ⟨g, j, none⟩ u).cell? ⟨g, i, none⟩ = some v := by
  unfold World.cell? at h
  split at h
  · rename_i c T f hb
    have hb' : w.heap[g]? = some (.cells c T f) := hb
    have h' : c[i]? = some v := by simpa using h
    simp [World.cell?, World.setCell, Array.getElem?_modify, hb', Array.getElem?_setIfInBounds, Ne.symm hij, h']
  · simp at h
theorem add_block (ad : Addr) (m : Nat) : (ad.add m).block = ad.block := by unfold Addr.add; split <;> rfl
theorem add_field (ad : Addr) (m j : Nat) (hj : 0 < j) : ad.add (m + j) = ⟨(ad.add m).block, (ad.add m).off + j, none⟩ := by
  unfold Addr.add
  by_cases hm : m = 0
  · subst hm
    simp [Nat.ne_of_gt hj]
  · rw [if_neg (by omega), if_neg hm]
    simp [Nat.add_assoc]

/-! ### kinds of elements, rows of them -/
/-- How a value of a kind lies in cells. 'ok': the blocks that it may reach. -/
structure Kd (α : Type) where
  sz : Nat
  K : (Nat → Prop) → World → α → List Value → Prop
  len : ∀ {ok w x cs}, K ok w x cs → cs.length = sz
  one : ∀ {ok w x cs}, K ok w x cs → ∀ u ∈ cs, u.oneCell' = true
  mono : ∀ {ok ok' : Nat → Prop} {w x cs}, (∀ k, ok k → ok' k) → K ok w x cs → K ok' w x cs
  keep : ∀ {ok : Nat → Prop} {w w1 : World} {x cs}, (∀ k, ok k → k < w.heap.size → w1.heap[k]? = w.heap[k]?) → K ok w x cs → K ok w1 x cs
  pos : 0 < sz
  bound : ∀ {ok : Nat → Prop} {w : World} {x cs}, K ok w x cs → K (fun k => ok k ∧ k < w.heap.size) w x cs
namespace Kd
/-- Cells that hang on the value alone. -/
def fn {α : Type} (sz : Nat) (enc : α → List Value) (hl : ∀ x, (enc x).length = sz) (h1 : ∀ x, ∀ u ∈ enc x, u.oneCell' = true) (h0 : 0 < sz) : Kd α where
  sz := sz
  K := fun _ _ x cs => cs = enc x
  len := by rintro ok w x cs rfl; exact hl x
  one := by rintro ok w x cs rfl; exact h1 x
  mono := fun _ h => h
  keep := fun _ h => h
  pos := h0
  bound := fun h => h
/-- A slice in memory reads as a list. -/
def C {α : Type} (d : Kd α) (ok : Nat → Prop) (w : World) (A : Option Addr) (xs : List α) : Prop :=
  xs.length ≤ 9223372036854775807 ∧ (xs ≠ [] → ∃ ad, A = some ad ∧ ok ad.block ∧ ∀ (j : Nat) p, xs[j]? = some p → ∃ c, d.K ok w p c ∧ ∀ i u, c[i]? = some u → w.cell? (ad.add (j * d.sz + i)) = some u)
section
variable {α : Type} {d : Kd α} {ok ok' : Nat → Prop} {w w1 : World} {A : Option Addr} {xs : List α}
theorem C.len (h : d.C ok w A xs) : xs.length ≤ 9223372036854775807 := h.1
theorem C.keep (h : d.C ok w A xs) (hk : ∀ k, ok k → k < w.heap.size → w1.heap[k]? = w.heap[k]?) : d.C ok w1 A xs :=
  ⟨h.1, fun hx => by
    obtain ⟨ad, e, ho, hc⟩ := h.2 hx
    refine ⟨ad, e, ho, fun j p hj => ?_⟩
    obtain ⟨c, hK, hcell⟩ := hc j p hj
    exact ⟨c, d.keep hk hK, fun i u hu => by
      have h1 := hcell i u hu
      have hlt := cell_lt h1
      rw [add_block] at hlt
      exact (World.cell?_of_block (by rw [add_block]; exact hk _ ho hlt)).trans h1⟩⟩
theorem C.mono (h : d.C ok w A xs) (hk : ∀ k, ok k → ok' k) : d.C ok' w A xs :=
  ⟨h.1, fun hx => by
    obtain ⟨ad, e, ho, hc⟩ := h.2 hx
    refine ⟨ad, e, hk _ ho, fun j p hj => ?_⟩
    obtain ⟨c, hK, hcell⟩ := hc j p hj
    exact ⟨c, d.mono hk hK, hcell⟩⟩
theorem C.below (h : d.C ok w A xs) (hb : Below w.heap.size w w1) : d.C ok w1 A xs := h.keep (fun k _ hk => hb.block k hk)
theorem C.only (h : d.C ok w A xs) {S : Nat → Prop} (hb : Only S w w1) (hs : ∀ k, ok k → ¬ S k) : d.C ok w1 A xs := h.keep (fun k ho hk => hb.block k hk (hs k ho))
theorem C.get (h : d.C ok w A xs) (i : Nat) (hi : i < xs.length) : ∃ ad c, A = some ad ∧ ok ad.block ∧ d.K ok w xs[i] c ∧ ∀ j u, c[j]? = some u → w.cell? (ad.add (i * d.sz + j)) = some u := by
  obtain ⟨ad, e, ho, hc⟩ := h.2 (by intro h0; subst h0; simp at hi)
  obtain ⟨c, hK, hcell⟩ := hc i _ (List.getElem?_eq_getElem hi)
  exact ⟨ad, c, e, ho, hK, hcell⟩
theorem C.bound (h : d.C ok w A xs) : d.C (fun k => ok k ∧ k < w.heap.size) w A xs :=
  ⟨h.1, fun hx => by
    obtain ⟨ad, e, ho, hc⟩ := h.2 hx
    refine ⟨ad, e, ⟨ho, ?_⟩, fun j p hj => ?_⟩
    · cases xs with
      | nil => exact absurd rfl hx
      | cons x l =>
        obtain ⟨c, hK, hcell⟩ := hc 0 x rfl
        have hl := d.len hK
        have hp := d.pos
        have h1 := hcell 0 (c[0]'(by omega)) (List.getElem?_eq_getElem (by omega))
        have := cell_lt h1
        rwa [add_block] at this
    · obtain ⟨c, hK, hcell⟩ := hc j p hj
      exact ⟨c, d.bound hK, hcell⟩⟩
theorem C.nil (d : Kd α) (ok : Nat → Prop) (w : World) (A : Option Addr) : d.C ok w A [] := ⟨by simp, fun h => absurd rfl h⟩
end
/-- A slice as an element. -/
def slice {α : Type} (d : Kd α) : Kd (List α) where
  sz := 1
  K := fun ok w xs cs => ∃ A c, cs = [.slice A xs.length c] ∧ xs.length ≤ c ∧ d.C ok w A xs
  len := by rintro ok w x cs ⟨A, c, rfl, _⟩; rfl
  one := by
    rintro ok w x cs ⟨A, c, rfl, _⟩ u hu
    rw [List.mem_singleton.1 hu]
    rfl
  mono := by rintro ok ok' w x cs hk ⟨A, c, rfl, hl, h⟩; exact ⟨A, c, rfl, hl, h.mono hk⟩
  keep := by rintro ok w w1 x cs hk ⟨A, c, rfl, hl, h⟩; exact ⟨A, c, rfl, hl, h.keep hk⟩
  pos := by decide
  bound := by rintro ok w x cs ⟨A, c, rfl, hl, h⟩; exact ⟨A, c, rfl, hl, h.bound⟩
def int (k : IntKind) : Kd Int := fn 1 (fun x => [.int k x]) (fun _ => rfl) (fun _ u hu => by rw [List.mem_singleton.1 hu]; rfl) (by decide)
def str : Kd ByteArray := fn 1 (fun x => [.string x]) (fun _ => rfl) (fun _ u hu => by rw [List.mem_singleton.1 hu]; rfl) (by decide)
end Kd

theorem flat_get {css : List (List Value)} {sz : Nat} (h : ∀ c, c ∈ css → c.length = sz) {i : Nat} {c : List Value} (hi : css[i]? = some c) (j : Nat) (hj : j < sz) : css.flatten[i * sz + j]? = c[j]? := by
  induction css generalizing i with
  | nil => simp at hi
  | cons a l ih =>
    have ha : a.length = sz := h a List.mem_cons_self
    cases i with
    | zero =>
      have : a = c := by simpa using hi
      subst this
      rw [List.flatten_cons, Nat.zero_mul, Nat.zero_add, List.getElem?_append_left (by omega)]
    | succ i =>
      have hi' : l[i]? = some c := by simpa using hi
      rw [List.flatten_cons, List.getElem?_append_right (by rw [ha, Nat.succ_mul]; omega), ← ih (fun c hc => h c (List.mem_cons_of_mem _ hc)) hi']
      congr 1
      rw [ha, Nat.succ_mul]
      omega
/-- A row that begins at the head of a block. -/
theorem C_of_cells {α : Type} {d : Kd α} {ok : Nat → Prop} {w : World} {b T : Nat} {fr : Nat × Nat} {xs : List α} {css : List (List Value)} {cur : Array Value} (hl : css.length = xs.length)
    (h : ∀ (i : Nat) x c, xs[i]? = some x → css[i]? = some c → d.K ok w x c) (hb : w.heap[b]? = some (.cells cur T fr)) (hcur : ∀ (j : Nat) (u : Value), css.flatten[j]? = some u → cur[j]? = some u) (hn : xs.length ≤ 9223372036854775807) (hok : ok b) : d.C ok w (some ⟨b, 0, none⟩) xs := by
  have hsz : ∀ c, c ∈ css → c.length = d.sz := by
    intro c hc
    obtain ⟨i, hi, rfl⟩ := List.mem_iff_getElem.1 hc
    exact d.len (h i _ _ (List.getElem?_eq_getElem (by omega)) (List.getElem?_eq_getElem hi))
  refine ⟨hn, fun _ => ⟨_, rfl, hok, fun j p hp => ?_⟩⟩
  have hj : j < css.length := by have := (List.getElem?_eq_some_iff.1 hp).1; omega
  refine ⟨css[j], h j _ _ hp (List.getElem?_eq_getElem hj), fun i u hu => ?_⟩
  have hi : i < d.sz := by have := (List.getElem?_eq_some_iff.1 hu).1; rw [hsz _ (List.getElem_mem hj)] at this; exact this
  have hg := flat_get hsz (List.getElem?_eq_getElem hj) i hi
  have : (Addr.add ⟨b, 0, none⟩ (j * d.sz + i)) = ⟨b, j * d.sz + i, none⟩ := by
    unfold Addr.add
    split
    · rename_i e; rw [e]
    · simp
  rw [this]
  simp only [World.cell?, hb]
  simpa using hcur _ _ (hg.trans hu)
theorem C_of_block {α : Type} {d : Kd α} {ok : Nat → Prop} {w : World} {b T : Nat} {fr : Nat × Nat} {xs : List α} {css : List (List Value)} (hl : css.length = xs.length)
    (h : ∀ (i : Nat) x c, xs[i]? = some x → css[i]? = some c → d.K ok w x c) (hb : w.heap[b]? = some (.cells css.flatten.toArray T fr)) (hn : xs.length ≤ 9223372036854775807) (hok : ok b) : d.C ok w (some ⟨b, 0, none⟩) xs :=
  C_of_cells hl h hb (fun j u hu => by simpa using hu) hn hok

/-- 'any' behind a name that the walk does not open. -/
def anyB {α : Type} (p : α → Bool) (l : List α) : Bool := l.any p
/-- Where the first element is of which p holds; else -1. -/
def idxI {α : Type} (p : α → Bool) (l : List α) : Int := match l.findIdx? p with | some i => (i : Int) | none => -1
theorem idxI_hit {α : Type} {p : α → Bool} {l : List α} {k : Nat} {x : α} (h : ∀ (j : Nat) y, j < k → l[j]? = some y → p y = false) (hk : l[k]? = some x) (hp : p x = true) : idxI p l = k := by
  have : l.findIdx? p = some k := by
    rw [List.findIdx?_eq_some_iff_getElem]
    obtain ⟨hl, rfl⟩ := List.getElem?_eq_some_iff.1 hk
    exact ⟨hl, hp, fun j hj => by simp [h j _ hj (List.getElem?_eq_getElem (by omega))]⟩
  simp [idxI, this]
theorem idxI_none {α : Type} {p : α → Bool} {l : List α} (h : ∀ (j : Nat) y, l[j]? = some y → p y = false) : idxI p l = -1 := by
  have : l.findIdx? p = none := by
    rw [List.findIdx?_eq_none_iff]
    intro x hx
    obtain ⟨j, hj, rfl⟩ := List.mem_iff_getElem.1 hx
    exact h j _ (List.getElem?_eq_getElem hj)
  simp [idxI, this]
theorem idxI_any {α : Type} (p : α → Bool) (l : List α) : decide (0 ≤ idxI p l) = l.any p := by
  unfold idxI
  cases h : l.findIdx? p with
  | none => rw [List.findIdx?_eq_none_iff] at h; rw [Bool.eq_iff_iff]; simp; exact h
  | some i => rw [List.findIdx?_eq_some_iff_getElem] at h; obtain ⟨hl, hp, _⟩ := h; rw [Bool.eq_iff_iff]; simp; exact ⟨_, List.getElem_mem hl, hp⟩
theorem ret_int {k : IntKind} {a b : Int} (h : a = b) : Ending.returned (.int k a) = .returned (.int k b) := by rw [h]
theorem ret_bool {a b : Bool} (h : a = b) : Ending.returned (.bool a) = .returned (.bool b) := by rw [h]
end Go.Proofs.Ytegjkheecbmioaa
