/- The plain data of scripts, their kinds in memory, and small lemmas that the walks use. -/
import Derived.Test.YtmadkjmjohfkgaaProg
import Derived.WalkKit
import Derived.WalkSpells
import Derived.WalkLawsBesides
import Derived.Deep.QuietTactic
import Derived.BigQuiet
import Derived.Lib.Hide
import Derived.Lib.IfaceEq
import Derived.Lib.IfaceNeq
import Derived.KernelRfl
import Derived.Test.YtmadkjmjohfkgaaWWords
namespace Go.Proofs.Ytmadkjmjohfkgaa
open Go.RowKit Go.Proofs.YtmadkjmjohfkgaaW.PrintWords
set_option linter.unusedVariables false
set_option linter.unusedSimpArgs false

structure Ob where
  kind : Int
  fair : Bool
  n : Int
  deriving DecidableEq
structure Cl where
  kind : Int
  obj : Int
  n : Int
  wait : Int
  breaks : Bool
  deriving DecidableEq
structure Pk where
  kind : Int
  n : Int
  deriving DecidableEq
structure Scr where
  objs : List Ob
  progs : List (List Cl)
  picks : List Pk
  deriving DecidableEq

def Ob.z : Ob := ⟨0, false, 0⟩
def Cl.z : Cl := ⟨0, 0, 0, 0, false⟩
def Pk.z : Pk := ⟨0, 0⟩
def Ob.enc (o : Ob) : List Value := [.int .i64 o.kind, .bool o.fair, .int .i64 o.n]
def Cl.enc (o : Cl) : List Value := [.int .i64 o.kind, .int .i64 o.obj, .int .i64 o.n, .int .i64 o.wait, .bool o.breaks]
def Pk.enc (o : Pk) : List Value := [.int .i64 o.kind, .int .i64 o.n]

def kOb : Kd Ob := Kd.iso (Kd.pair (Kd.int .i64) (Kd.pair Kd.bool (Kd.int .i64))) (fun x : Ob => (x.kind, x.fair, x.n))
def kCl : Kd Cl := Kd.iso (Kd.pair (Kd.int .i64) (Kd.pair (Kd.int .i64) (Kd.pair (Kd.int .i64) (Kd.pair (Kd.int .i64) Kd.bool)))) (fun x : Cl => (x.kind, x.obj, x.n, x.wait, x.breaks))
def kPk : Kd Pk := Kd.iso (Kd.pair (Kd.int .i64) (Kd.int .i64)) (fun x : Pk => (x.kind, x.n))
theorem kOb_open {w : World} {x : Ob} {cs : List Value} (h : kOb.K w x cs) : cs = x.enc := by
  obtain ⟨_, _, rfl, rfl, ⟨_, _, rfl, rfl, rfl⟩⟩ := h
  exact rfl
theorem kCl_open {w : World} {x : Cl} {cs : List Value} (h : kCl.K w x cs) : cs = x.enc := by
  obtain ⟨_, _, rfl, rfl, ⟨_, _, rfl, rfl, ⟨_, _, rfl, rfl, ⟨_, _, rfl, rfl, rfl⟩⟩⟩⟩ := h
  exact rfl
theorem kPk_open {w : World} {x : Pk} {cs : List Value} (h : kPk.K w x cs) : cs = x.enc := by
  obtain ⟨_, _, rfl, rfl, rfl⟩ := h
  exact rfl

/-- What lies at an element of a row that is read. -/
theorem at_ob {w : World} {A : Option Addr} {n : Nat} {xs : List Ob} (h : kOb.C w A n xs) (i : Nat) (hi : i < n) : ∃ ad o, A = some ad ∧ xs[i]? = some o ∧ w.cell? (ad.add (i * 3)) = some (.int .i64 o.kind) ∧
    w.cell? ⟨(ad.add (i * 3)).block, (ad.add (i * 3)).off + 1, none⟩ = some (.bool o.fair) ∧ w.cell? ⟨(ad.add (i * 3)).block, (ad.add (i * 3)).off + 2, none⟩ = some (.int .i64 o.n) := by
  obtain ⟨ad, c, e, _, hK, hc0⟩ := Kd.C_get h Ob.z i (by omega) (by omega)
  have hc : ∀ j u, c[j]? = some u → w.cell? (ad.add (i * 3 + j)) = some u := hc0
  have hl : i < xs.length := by have := h.1; omega
  refine ⟨ad, xs[i], e, List.getElem?_eq_getElem hl, ?_⟩
  have hx : xs.getD (i : Int).toNat Ob.z = xs[i] := by simp [hl]
  rw [hx] at hK
  obtain rfl := kOb_open hK
  exact ⟨hc 0 _ rfl, by rw [← add_field _ _ 1 (by omega)]; exact hc 1 _ rfl, by rw [← add_field _ _ 2 (by omega)]; exact hc 2 _ rfl⟩
theorem at_cl {w : World} {A : Option Addr} {n : Nat} {xs : List Cl} (h : kCl.C w A n xs) (i : Nat) (hi : i < n) : ∃ ad o, A = some ad ∧ xs[i]? = some o ∧ w.cell? (ad.add (i * 5)) = some (.int .i64 o.kind) ∧
    w.cell? ⟨(ad.add (i * 5)).block, (ad.add (i * 5)).off + 1, none⟩ = some (.int .i64 o.obj) ∧ w.cell? ⟨(ad.add (i * 5)).block, (ad.add (i * 5)).off + 2, none⟩ = some (.int .i64 o.n) ∧
    w.cell? ⟨(ad.add (i * 5)).block, (ad.add (i * 5)).off + 3, none⟩ = some (.int .i64 o.wait) ∧ w.cell? ⟨(ad.add (i * 5)).block, (ad.add (i * 5)).off + 4, none⟩ = some (.bool o.breaks) := by
  obtain ⟨ad, c, e, _, hK, hc0⟩ := Kd.C_get h Cl.z i (by omega) (by omega)
  have hc : ∀ j u, c[j]? = some u → w.cell? (ad.add (i * 5 + j)) = some u := hc0
  have hl : i < xs.length := by have := h.1; omega
  refine ⟨ad, xs[i], e, List.getElem?_eq_getElem hl, ?_⟩
  have hx : xs.getD (i : Int).toNat Cl.z = xs[i] := by simp [hl]
  rw [hx] at hK
  obtain rfl := kCl_open hK
  exact ⟨hc 0 _ rfl, by rw [← add_field _ _ 1 (by omega)]; exact hc 1 _ rfl, by rw [← add_field _ _ 2 (by omega)]; exact hc 2 _ rfl,
    by rw [← add_field _ _ 3 (by omega)]; exact hc 3 _ rfl, by rw [← add_field _ _ 4 (by omega)]; exact hc 4 _ rfl⟩
theorem at_pk {w : World} {A : Option Addr} {n : Nat} {xs : List Pk} (h : kPk.C w A n xs) (i : Nat) (hi : i < n) : ∃ ad o, A = some ad ∧ xs[i]? = some o ∧ w.cell? (ad.add (i * 2)) = some (.int .i64 o.kind) ∧
    w.cell? ⟨(ad.add (i * 2)).block, (ad.add (i * 2)).off + 1, none⟩ = some (.int .i64 o.n) := by
  obtain ⟨ad, c, e, _, hK, hc0⟩ := Kd.C_get h Pk.z i (by omega) (by omega)
  have hc : ∀ j u, c[j]? = some u → w.cell? (ad.add (i * 2 + j)) = some u := hc0
  have hl : i < xs.length := by have := h.1; omega
  refine ⟨ad, xs[i], e, List.getElem?_eq_getElem hl, ?_⟩
  have hx : xs.getD (i : Int).toNat Pk.z = xs[i] := by simp [hl]
  rw [hx] at hK
  obtain rfl := kPk_open hK
  exact ⟨hc 0 _ rfl, by rw [← add_field _ _ 1 (by omega)]; exact hc 1 _ rfl⟩
theorem at_sl {α : Type} {d : Kd α} {e : Nat} {w : World} {A : Option Addr} {n : Nat} {xs : List (List α)} (h : Kd.C (Kd.slice e d) w A n xs) (i : Nat) (hi : i < n) :
    ∃ ad A0 c0 l, A = some ad ∧ xs[i]? = some l ∧ w.cell? (ad.add i) = some (.slice A0 l.length c0) ∧ l.length ≤ c0 ∧ d.C w A0 l.length l := by
  obtain ⟨ad, c, e, _, hK, hc0⟩ := Kd.C_get h ([] : List α) i (by omega) (by omega)
  have hc : ∀ j u, c[j]? = some u → w.cell? (ad.add (i * 1 + j)) = some u := hc0
  have hl : i < xs.length := by have := h.1; omega
  have hx : xs.getD (i : Int).toNat [] = xs[i] := by simp [hl]
  rw [hx] at hK
  obtain ⟨A0, c0, rfl, l0, g0⟩ := hK
  exact ⟨ad, A0, c0, xs[i], e, List.getElem?_eq_getElem hl, by have hq := hc 0 _ rfl; rwa [Nat.mul_one, Nat.add_zero] at hq, l0, g0⟩

theorem box_cell (w : World) (cs : List Value) (T : Nat) {i : Nat} {v : Value} (h : cs[i]? = some v) : (w.alloc (.cells cs.toArray T)).cell? ⟨w.heap.size, i, none⟩ = some v := by
  show World.cell? { w with heap := w.heap.push (.cells cs.toArray T) } ⟨w.heap.size, i, none⟩ = some v
  simp [World.cell?, h]
theorem alloc_size (w : World) (o : Obj) : (w.alloc o).heap.size = w.heap.size + 1 := by
  show (w.heap.push o).size = _
  simp
/-- A box's cell, later on. -/
theorem box_later {w w1 : World} {cs : List Value} {T : Nat} (hb : Below (w.alloc (.cells cs.toArray T)).heap.size (w.alloc (.cells cs.toArray T)) w1) {i : Nat} {v : Value} (h : cs[i]? = some v) :
    w1.cell? ⟨w.heap.size, i, none⟩ = some v := (hb.cell (p := ⟨w.heap.size, i, none⟩) (by rw [alloc_size]; exact Nat.lt_succ_self _)).trans (box_cell w cs T h)
theorem box_below {w w1 : World} {o : Obj} (hb : Below (w.alloc o).heap.size (w.alloc o) w1) : Below w.heap.size w w1 := below_step (below_alloc (Below.refl _ _) o) hb
theorem box_lt {w w1 : World} {o : Obj} (hb : Below (w.alloc o).heap.size (w.alloc o) w1) : w.heap.size < w1.heap.size := Nat.lt_of_lt_of_le (by rw [alloc_size]; exact Nat.lt_succ_self _) hb.size
theorem flat_get {css : List (List Value)} {sz : Nat} (h : ∀ c, c ∈ css → c.length = sz) {i : Nat} {c : List Value} (hi : css[i]? = some c) (j : Nat) (hj : j < sz) : css.flatten[i * sz + j]? = c[j]? := by
  induction css generalizing i with
  | nil => simp at hi
  | cons a l ih =>
    have ha : a.length = sz := h a List.mem_cons_self
    cases i with
    | zero =>
      have : a = c := by simpa using hi
      subst this
      rw [List.flatten_cons, Nat.zero_mul, Nat.zero_add, List.getElem?_append_left (by omega)]
    | succ i =>
      have hi' : l[i]? = some c := by simpa using hi
      rw [List.flatten_cons, List.getElem?_append_right (by rw [ha, Nat.succ_mul]; omega), ← ih (fun c hc => h c (List.mem_cons_of_mem _ hc)) hi']
      congr 1
      rw [ha, Nat.succ_mul]
      omega
/-- A row that lies in a block of its own. -/
theorem C_of_block {α : Type} {d : Kd α} {w : World} {b T : Nat} {fr : Nat × Nat} {xs : List α} {css : List (List Value)} (hl : css.length = xs.length)
    (h : ∀ (i : Nat) x c, xs[i]? = some x → css[i]? = some c → d.K w x c) (hb : w.heap[b]? = some (.cells css.flatten.toArray T fr)) (hn : xs.length ≤ 9223372036854775807) : d.C w (some ⟨b, 0, none⟩) xs.length xs := by
  have hsz : ∀ c, c ∈ css → c.length = d.sz := by
    intro c hc
    obtain ⟨i, hi, rfl⟩ := List.mem_iff_getElem.1 hc
    exact d.K_len (h i _ _ (List.getElem?_eq_getElem (by omega)) (List.getElem?_eq_getElem hi))
  refine ⟨rfl, hn, fun _ => ⟨_, rfl, fun j p hp => ?_⟩⟩
  have hj : j < css.length := by have := (List.getElem?_eq_some_iff.1 hp).1; omega
  refine ⟨css[j], hsz _ (List.getElem_mem hj), h j _ _ hp (List.getElem?_eq_getElem hj), fun i u hu => ?_⟩
  have hi : i < d.sz := by have := (List.getElem?_eq_some_iff.1 hu).1; rw [hsz _ (List.getElem_mem hj)] at this; exact this
  have hg := flat_get hsz (List.getElem?_eq_getElem hj) i hi
  have : (Addr.add ⟨b, 0, none⟩ (j * d.sz + i)) = ⟨b, j * d.sz + i, none⟩ := by
    unfold Addr.add
    split
    · rename_i e; rw [e]
    · simp
  rw [this]
  simp only [World.cell?, hb]
  simpa [hg] using hu
theorem alloc_heap_at (w : World) (o : Obj) : (w.alloc o).heap[w.heap.size]? = some o := by
  show (w.heap.push o)[w.heap.size]? = some o
  simp
theorem alloc_heap_lt (w : World) (o : Obj) {k : Nat} {x : Obj} (h : w.heap[k]? = some x) : (w.alloc o).heap[k]? = some x := by
  have hk : k < w.heap.size := (Array.getElem?_eq_some_iff.1 h).1
  rw [Below.heap_alloc _ _ _ hk, h]
theorem kOb_mk (w : World) (x : Ob) : kOb.K w x x.enc := ⟨[.int .i64 x.kind], [.bool x.fair, .int .i64 x.n], rfl, rfl, ⟨[.bool x.fair], [.int .i64 x.n], rfl, rfl, rfl⟩⟩
theorem kCl_mk (w : World) (x : Cl) : kCl.K w x x.enc := ⟨[.int .i64 x.kind], [.int .i64 x.obj, .int .i64 x.n, .int .i64 x.wait, .bool x.breaks], rfl, rfl, ⟨[.int .i64 x.obj], [.int .i64 x.n, .int .i64 x.wait, .bool x.breaks], rfl, rfl, ⟨[.int .i64 x.n], [.int .i64 x.wait, .bool x.breaks], rfl, rfl, ⟨[.int .i64 x.wait], [.bool x.breaks], rfl, rfl, rfl⟩⟩⟩⟩
theorem kPk_mk (w : World) (x : Pk) : kPk.K w x x.enc := ⟨[.int .i64 x.kind], [.int .i64 x.n], rfl, rfl, rfl⟩
theorem C_nil {α : Type} (d : Kd α) (w : World) (A : Option Addr) : d.C w A ([] : List α).length [] := ⟨rfl, by simp, fun h => absurd h (by simp)⟩
/-- 'any' behind a name that the walk does not open. -/
def anyB {α : Type} (p : α → Bool) (l : List α) : Bool := l.any p
/-- Where the first element is of which p holds; else -1. -/
def idxI {α : Type} (p : α → Bool) (l : List α) : Int := match l.findIdx? p with | some i => (i : Int) | none => -1
theorem idxI_hit {α : Type} {p : α → Bool} {l : List α} {k : Nat} {x : α} (h : ∀ (j : Nat) y, j < k → l[j]? = some y → p y = false) (hk : l[k]? = some x) (hp : p x = true) : idxI p l = k := by
  have : l.findIdx? p = some k := by
    rw [List.findIdx?_eq_some_iff_getElem]
    obtain ⟨hl, rfl⟩ := List.getElem?_eq_some_iff.1 hk
    exact ⟨hl, hp, fun j hj => by simp [h j _ hj (List.getElem?_eq_getElem (by omega))]⟩
  simp [idxI, this]
theorem idxI_none {α : Type} {p : α → Bool} {l : List α} (h : ∀ (j : Nat) y, l[j]? = some y → p y = false) : idxI p l = -1 := by
  have : l.findIdx? p = none := by
    rw [List.findIdx?_eq_none_iff]
    intro x hx
    obtain ⟨j, hj, rfl⟩ := List.mem_iff_getElem.1 hx
    exact h j _ (List.getElem?_eq_getElem hj)
  simp [idxI, this]
theorem idxI_any {α : Type} (p : α → Bool) (l : List α) : decide (0 ≤ idxI p l) = l.any p := by
  unfold idxI
  cases h : l.findIdx? p with
  | none => rw [List.findIdx?_eq_none_iff] at h; rw [Bool.eq_iff_iff]; simp; exact h
  | some i => rw [List.findIdx?_eq_some_iff_getElem] at h; obtain ⟨hl, hp, _⟩ := h; rw [Bool.eq_iff_iff]; simp; exact ⟨_, List.getElem_mem hl, hp⟩

def errV : Option Int → Value
  | none => .nilIface
  | some c => .iface 39 (.int .i64 c)

theorem err_under : Try.prog.underlying 33 = some (.interface (Try.prog.methodsAt 33)) := by kernel_rfl
theorem err_comp : (Try.prog.info? 39).map (·.comparable) = some true := by kernel_rfl
theorem err_int : Try.prog.underlying 39 = some (.int .i64) := by kernel_rfl
@[go_sem] theorem err_eql (w : World) (a b : Int) : (binOp .eql 33 (.iface 39 (.int .i64 a)) (.iface 39 (.int .i64 b))).run Try.prog w = .ok (.bool (a == b)) w :=
  Lib.run_eql_iface_int w a b err_under err_comp err_int
@[go_sem] theorem err_neq (w : World) (a b : Int) : (binOp .neq 33 (.iface 39 (.int .i64 a)) (.iface 39 (.int .i64 b))).run Try.prog w = .ok (.bool (!(a == b))) w :=
  Lib.run_neq_iface_int w a b err_under err_comp err_int

/-- A script in memory: its three slices. -/
structure ScrAt (w : World) (s : Scr) (A0 A1 A2 : Option Addr) (c0 c1 c2 : Nat) : Prop where
  o : kOb.C w A0 s.objs.length s.objs
  ol : s.objs.length ≤ c0
  p : (Kd.slice 46 kCl).C w A1 s.progs.length s.progs
  pl : s.progs.length ≤ c1
  k : kPk.C w A2 s.picks.length s.picks
  kl : s.picks.length ≤ c2
theorem ScrAt.below {w w1 : World} {s : Scr} {A0 A1 A2 : Option Addr} {c0 c1 c2 : Nat} (h : ScrAt w s A0 A1 A2 c0 c1 c2) (hb : Below w.heap.size w w1) : ScrAt w1 s A0 A1 A2 c0 c1 c2 :=
  ⟨Kd.C_below h.o hb, h.ol, Kd.C_below h.p hb, h.pl, Kd.C_below h.k hb, h.kl⟩
def scrV (s : Scr) (A0 A1 A2 : Option Addr) (c0 c1 c2 : Nat) : Value := .agg #[.slice A0 s.objs.length c0, .slice A1 s.progs.length c1, .slice A2 s.picks.length c2]
end Go.Proofs.Ytmadkjmjohfkgaa
