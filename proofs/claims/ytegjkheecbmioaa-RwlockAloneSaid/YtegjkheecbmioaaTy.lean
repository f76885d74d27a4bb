/- Changes that touch new blocks, and blocks of one type of elements. Of no program. -/
import Derived.Test.YtegjkheecbmioaaApp
namespace Go.Proofs.Ytegjkheecbmioaa
open Go.RowKit
set_option linter.unusedVariables false
set_option linter.unusedSimpArgs false

/-- Of the blocks of w only those of type T, from B on, may have turned; the other ones' types stay. -/
structure TOnly (B T : Nat) (w w' : World) : Prop where
  on : Only (fun b => B ≤ b ∧ IsT b T w) w w'
  ty : ∀ b U, U ≠ T → IsT b U w → IsT b U w'
theorem IsT.uniq {b U V : Nat} {w : World} (h : IsT b U w) (k : IsT b V w) : U = V := by
  obtain ⟨c1, h1⟩ := h
  obtain ⟨c2, h2⟩ := k
  rw [h1] at h2
  simp at h2
  exact h2.2
theorem own_ty {w : World} {b e s n : Nat} {v : Value} {x : List Value} (h : w.ownsRow b e s v n x) {g : Nat} (hg : v.ownBlock = some g) : IsT g e w := by
  rcases h.2 with ⟨rfl, _⟩ | ⟨g', cap, cur, rfl, _, hh, _⟩
  · cases hg
  · obtain rfl : g' = g := by simpa [Value.ownBlock] using hg
    exact ⟨cur, hh⟩
namespace TOnly
variable {B T : Nat} {a b c : World}
theorem refl (B T : Nat) (w : World) : TOnly B T w w := ⟨Only.refl _ _, fun _ _ _ h => h⟩
theorem below (h : Below a.heap.size a b) : TOnly B T a b := ⟨Only.of_below h, fun k U _ hk => hk.below h⟩
theorem of_old {k : Nat} (h : TOnly B T a b) (hk : k < a.heap.size) (hb : IsT k T b) : IsT k T a := by
  by_cases hs : B ≤ k ∧ IsT k T a
  · exact hs.2
  · have := h.on.block k hk hs
    obtain ⟨cur, hc⟩ := hb
    exact ⟨cur, this ▸ hc⟩
theorem trans (h : TOnly B T a b) (k : TOnly B T b c) : TOnly B T a c :=
  ⟨⟨k.on.os.trans h.on.os, k.on.tape.trans h.on.tape, k.on.output.trans h.on.output, Nat.le_trans h.on.size k.on.size, fun i hi hs =>
      (k.on.block i (Nat.lt_of_lt_of_le hi h.on.size) (fun h2 => hs ⟨h2.1, h.of_old hi h2.2⟩)).trans (h.on.block i hi hs)⟩, fun i U hn hU => k.ty i U hn (h.ty i U hn hU)⟩
theorem alloc (h : TOnly B T a b) (o : Obj) : TOnly B T a (b.alloc o) := h.trans (TOnly.below ((Below.refl _ _).alloc (Nat.le_refl _) o))
theorem drew (h : TOnly B T a b) : TOnly B T a b.drew := ⟨h.on.drew, h.ty⟩
theorem drewN (h : TOnly B T a b) (n : Nat) : TOnly B T a (b.drewN n) := ⟨h.on.drewN n, h.ty⟩
theorem then_below (h : TOnly B T a b) (k : Below b.heap.size b c) : TOnly B T a c := h.trans (TOnly.below k)
theorem set {p : Addr} (hp : IsT p.block T b) (hB : B ≤ p.block) (u : Value) : TOnly B T b (b.setCell p u) :=
  ⟨(Only.refl _ _).set (.inl ⟨hB, hp⟩) u, fun k U _ hk => hk.set p u⟩
theorem grown {s n : Nat} {v : Value} {xs : List Value} (ho : b.ownsRow B T s v n xs) (hg : b.grownBy c v.ownBlock) : TOnly B T b c :=
  ⟨(Only.refl _ _).grown hg (fun k hk => .inl ⟨own_base ho k hk, own_ty ho hk⟩), fun k U hn hk => hk.keep (hg.block k hk.lt (fun e => hn (hk.uniq (own_ty ho e.symm))))⟩
theorem of_only {S : Nat → Prop} (h : Only S a b) (hs : ∀ k, S k → B ≤ k ∧ IsT k T a) (ht : ∀ k U, U ≠ T → S k → IsT k U a → IsT k U b) : TOnly B T a b :=
  ⟨h.mono hs, fun k U hn hk => by
    by_cases e : S k
    · exact ht k U hn e hk
    · exact hk.keep (h.block k hk.lt e)⟩
theorem not {U k : Nat} (hn : U ≠ T) (hk : IsT k U a) : ¬ (B ≤ k ∧ IsT k T a) := fun h => hn (hk.uniq h.2)
theorem cell (h : TOnly B T a b) {U : Nat} {p : Addr} {v : Value} (hn : U ≠ T) (hk : IsT p.block U a) (hc : a.cell? p = some v) : b.cell? p = some v := h.on.cell hc (TOnly.not hn hk)
theorem own (h : TOnly B T a b) {B' U s n : Nat} {v : Value} {xs : List Value} (hn : U ≠ T) (ho : a.ownsRow B' U s v n xs) : b.ownsRow B' U s v n xs := own_only ho h.on (fun k hk => TOnly.not hn (own_ty ho hk))
theorem row (h : TOnly B T a b) {α : Type} {d : Kd α} {B' U : Nat} {A : Option Addr} {xs : List α} (hn : U ≠ T) (hc : d.C (OfT B' U a) a A xs) : d.C (OfT B' U b) b A xs :=
  (hc.keep (fun k hk hl => h.on.block k hl (TOnly.not hn hk.2))).mono (fun k hk => ⟨hk.1, h.ty k U hn hk.2⟩)
theorem old (h : TOnly B T a b) {α : Type} {d : Kd α} {ok : Nat → Prop} {A : Option Addr} {xs : List α} (hk : ∀ k, ok k → k < B) (hc : d.C ok a A xs) : d.C ok b A xs :=
  hc.keep (fun k ho hl => h.on.block k hl (fun e => by have := hk k ho; omega))
theorem bl (h : TOnly B T a b) (hB : B ≤ a.heap.size) : Below B a b := h.on.below hB (fun k hk => hk.1)
end TOnly
end Go.Proofs.Ytegjkheecbmioaa
