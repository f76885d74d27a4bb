/- The plain data of scripts, and how they lie in memory. -/
import Derived.Test.YtikfkkinhipfjaaErr
namespace Go.Proofs.Ytikfkkinhipfjaa
open Go.RowKit
set_option linter.unusedVariables false
set_option linter.unusedSimpArgs false

structure Ob where
  kind : Int
  fair : Bool
  n : Int
  deriving DecidableEq
structure Cl where
  kind : Int
  obj : Int
  n : Int
  wait : Int
  breaks : Bool
  deriving DecidableEq
structure Pk where
  kind : Int
  n : Int
  deriving DecidableEq
structure Scr where
  objs : List Ob
  progs : List (List Cl)
  picks : List Pk
  deriving DecidableEq

def Ob.enc (o : Ob) : List Value := [.int .i64 o.kind, .bool o.fair, .int .i64 o.n]
def Cl.enc (o : Cl) : List Value := [.int .i64 o.kind, .int .i64 o.obj, .int .i64 o.n, .int .i64 o.wait, .bool o.breaks]
def Pk.enc (o : Pk) : List Value := [.int .i64 o.kind, .int .i64 o.n]
def kOb : Kd Ob := Kd.fn 3 Ob.enc (fun _ => rfl) (by intro x u hu; simp [Ob.enc] at hu; rcases hu with rfl | rfl | rfl <;> rfl) (by decide)
def kCl : Kd Cl := Kd.fn 5 Cl.enc (fun _ => rfl) (by intro x u hu; simp [Cl.enc] at hu; rcases hu with rfl | rfl | rfl | rfl | rfl <;> rfl) (by decide)
def kPk : Kd Pk := Kd.fn 2 Pk.enc (fun _ => rfl) (by intro x u hu; simp [Pk.enc] at hu; rcases hu with rfl | rfl <;> rfl) (by decide)

section
variable {ok : Nat → Prop} {w : World} {A : Option Addr}
/-- What lies at an element of a row that is read. -/
theorem at_ob {xs : List Ob} (h : kOb.C ok w A xs) (i : Nat) (hi : i < xs.length) : ∃ ad o, A = some ad ∧ xs[i]? = some o ∧ w.cell? (ad.add (i * 3)) = some (.int .i64 o.kind) ∧
    w.cell? ⟨(ad.add (i * 3)).block, (ad.add (i * 3)).off + 1, none⟩ = some (.bool o.fair) ∧ w.cell? ⟨(ad.add (i * 3)).block, (ad.add (i * 3)).off + 2, none⟩ = some (.int .i64 o.n) := by
  obtain ⟨ad, c, e, _, hK, hc⟩ := h.get i hi
  obtain rfl : c = Ob.enc xs[i] := hK
  exact ⟨ad, xs[i], e, List.getElem?_eq_getElem hi, hc 0 _ rfl, by rw [← add_field _ _ 1 (by omega)]; exact hc 1 _ rfl, by rw [← add_field _ _ 2 (by omega)]; exact hc 2 _ rfl⟩
theorem at_cl {xs : List Cl} (h : kCl.C ok w A xs) (i : Nat) (hi : i < xs.length) : ∃ ad o, A = some ad ∧ xs[i]? = some o ∧ w.cell? (ad.add (i * 5)) = some (.int .i64 o.kind) ∧
    w.cell? ⟨(ad.add (i * 5)).block, (ad.add (i * 5)).off + 1, none⟩ = some (.int .i64 o.obj) ∧ w.cell? ⟨(ad.add (i * 5)).block, (ad.add (i * 5)).off + 2, none⟩ = some (.int .i64 o.n) ∧
    w.cell? ⟨(ad.add (i * 5)).block, (ad.add (i * 5)).off + 3, none⟩ = some (.int .i64 o.wait) ∧ w.cell? ⟨(ad.add (i * 5)).block, (ad.add (i * 5)).off + 4, none⟩ = some (.bool o.breaks) := by
  obtain ⟨ad, c, e, _, hK, hc⟩ := h.get i hi
  obtain rfl : c = Cl.enc xs[i] := hK
  exact ⟨ad, xs[i], e, List.getElem?_eq_getElem hi, hc 0 _ rfl, by rw [← add_field _ _ 1 (by omega)]; exact hc 1 _ rfl, by rw [← add_field _ _ 2 (by omega)]; exact hc 2 _ rfl,
    by rw [← add_field _ _ 3 (by omega)]; exact hc 3 _ rfl, by rw [← add_field _ _ 4 (by omega)]; exact hc 4 _ rfl⟩
theorem at_pk {xs : List Pk} (h : kPk.C ok w A xs) (i : Nat) (hi : i < xs.length) : ∃ ad o, A = some ad ∧ xs[i]? = some o ∧ w.cell? (ad.add (i * 2)) = some (.int .i64 o.kind) ∧
    w.cell? ⟨(ad.add (i * 2)).block, (ad.add (i * 2)).off + 1, none⟩ = some (.int .i64 o.n) := by
  obtain ⟨ad, c, e, _, hK, hc⟩ := h.get i hi
  obtain rfl : c = Pk.enc xs[i] := hK
  exact ⟨ad, xs[i], e, List.getElem?_eq_getElem hi, hc 0 _ rfl, by rw [← add_field _ _ 1 (by omega)]; exact hc 1 _ rfl⟩
theorem at_sl {α : Type} {d : Kd α} {xs : List (List α)} (h : (Kd.slice d).C ok w A xs) (i : Nat) (hi : i < xs.length) :
    ∃ ad A0 c0 l, A = some ad ∧ xs[i]? = some l ∧ w.cell? (ad.add i) = some (.slice A0 l.length c0) ∧ l.length ≤ c0 ∧ d.C ok w A0 l := by
  obtain ⟨ad, c, e, _, hK, hc⟩ := h.get i hi
  obtain ⟨A0, c0, rfl, hl, hC⟩ := hK
  exact ⟨ad, A0, c0, xs[i], e, List.getElem?_eq_getElem hi, by have hq := hc 0 _ rfl; rwa [show i * (Kd.slice d).sz + 0 = i from by simp [Kd.slice]] at hq, hl, hC⟩
end

/-- A script in memory: its three slices. -/
structure ScrAt (ok : Nat → Prop) (w : World) (s : Scr) (A0 A1 A2 : Option Addr) (c0 c1 c2 : Nat) : Prop where
  o : kOb.C ok w A0 s.objs
  ol : s.objs.length ≤ c0
  p : (Kd.slice kCl).C ok w A1 s.progs
  pl : s.progs.length ≤ c1
  k : kPk.C ok w A2 s.picks
  kl : s.picks.length ≤ c2
theorem ScrAt.bound {ok : Nat → Prop} {w : World} {s : Scr} {A0 A1 A2 : Option Addr} {c0 c1 c2 : Nat} (h : ScrAt ok w s A0 A1 A2 c0 c1 c2) : ScrAt (fun k => ok k ∧ k < w.heap.size) w s A0 A1 A2 c0 c1 c2 :=
  ⟨h.o.bound, h.ol, h.p.bound, h.pl, h.k.bound, h.kl⟩
theorem ScrAt.below {ok : Nat → Prop} {w w1 : World} {s : Scr} {A0 A1 A2 : Option Addr} {c0 c1 c2 : Nat} (h : ScrAt ok w s A0 A1 A2 c0 c1 c2) (hb : Below w.heap.size w w1) : ScrAt ok w1 s A0 A1 A2 c0 c1 c2 :=
  ⟨h.o.below hb, h.ol, h.p.below hb, h.pl, h.k.below hb, h.kl⟩
def scrV (s : Scr) (A0 A1 A2 : Option Addr) (c0 c1 c2 : Nat) : Value := .agg #[.slice A0 s.objs.length c0, .slice A1 s.progs.length c1, .slice A2 s.picks.length c2]
end Go.Proofs.Ytikfkkinhipfjaa
