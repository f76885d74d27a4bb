/- One law for 'append(v, x...)', v a row of the call's own, x whatever slice reads: nil, empty or not. Of no program. -/
import Derived.Test.YtegjkheecbmioaaMem
import Derived.Deep.AppendLies
import Derived.Deep.RegionHeld3
import Derived.Laws.OwnMore
import Derived.OwnWalk
namespace Go.Proofs.Ytegjkheecbmioaa
open Go.RowKit
set_option linter.unusedVariables false
set_option linter.unusedSimpArgs false

/-- x is a slice of m elements whose cells are news. -/
def Src (w : World) (x : Value) (m : Nat) (news : List Value) : Prop :=
  ∃ A c, x = .slice A m c ∧ (∀ u ∈ news, u.oneCell' = true) ∧ (m = 0 ∧ news = [] ∨ ∃ ad, A = some ad ∧ ∀ j u, news[j]? = some u → w.cell? (ad.add j) = some u)

theorem run_append_uni {P : Program} (w : World) (base : Nat) (t ty e : TypeId) (i : TypeInfo) (z : Value) (size bytes : Nat) (ht : P.underlying t = some (.slice e)) (hi : P.info? e = some i) (hz : i.zero = some z)
    (hsize : i.size = size) (hby : i.bytes = bytes) (hzs : z.cells.size = size) (hsz : 0 < size)
    (v : Value) (n : Nat) (xs : List Value) (hown : w.ownsRow base e size v n xs) (x : Value) (m : Nat) (news : List Value) (hl : news.length = m * size) (hsrc : Src w x m news)
    (h63 : n + m ≤ maxLen) (hbytes : (n + m) * bytes ≤ 140737488355328) (hbase : base ≤ w.heap.size) :
    ∃ v' w', (Builtin.append_ #[t, t] ty #[v, x]).run P w = .ok v' w' ∧ w'.ownsRow base e size v' (n + m) (xs ++ news) ∧ w.grownBy w' v.ownBlock ∧ (v'.ownBlock = v.ownBlock ∨ v'.ownBlock = some w.heap.size) ∧ ∃ A c, v' = .slice A (n + m) c := by
  obtain ⟨A, c, rfl, h1, hs⟩ := hsrc
  by_cases hm : m = 0
  · subst hm
    have hnil : news = [] := by simpa using hl
    subst hnil
    refine ⟨v, w, ?_, by simpa using hown, ⟨rfl, rfl, rfl, Nat.le_refl _, fun _ _ _ => rfl⟩, .inl rfl, ?_⟩
    · rcases hown.2 with ⟨rfl, rfl⟩ | ⟨g, cap, cur, rfl, _, _, hnc, _⟩
      · cases A <;> simp [Builtin.append_, run_underlying ht, sizeOf, typeInfo, hi, Builtin.lenOf, Builtin.firstCells, loadCells, loadCellsFrom]
      · cases A <;> simp [Builtin.append_, run_underlying ht, sizeOf, typeInfo, hi, Builtin.lenOf, Builtin.firstCells, hnc, storeCells, loadCells, loadCellsFrom]
    · rcases hown.2 with ⟨rfl, rfl⟩ | ⟨g, cap, cur, rfl, _, _, hnc, _⟩
      · exact ⟨_, _, rfl⟩
      · exact ⟨_, _, rfl⟩
  · rcases hs with ⟨h0, _⟩ | ⟨ad, rfl, hc⟩
    · exact absurd h0 hm
    · obtain ⟨g, cap, w', hr, h2, h3, h4, h5⟩ := run_append_lies (P := P) w t ty base e i z size bytes ht hi hz hsize hby hzs hsz v n xs hown ad m c news hl hc h1 (Nat.pos_of_ne_zero hm) h63 hbytes hbase w.heap.size rfl
      refine ⟨_, w', hr, h2, h3, ?_, _, _, rfl⟩
      rcases h4 with h4 | h4
      · exact .inl (by rw [h4]; rfl)
      · exact .inr (by rw [h4]; rfl)

theorem wp_append_uni {P : Program} {w : World} {o : Oper} {a : Act} {K : Act → World → Prop} {Q : Exit → Act → World → Prop} (s x : Operand) (t : TypeId)
    (ho : o.op = .call { callee := .builtin .append, args := #[s, x], argTypes := #[t, t] })
    (base : Nat) (e : TypeId) (i : TypeInfo) (z : Value) (size bytes : Nat) (ht : P.underlying t = some (.slice e)) (hi : P.info? e = some i) (hz : i.zero = some z)
    (hsize : i.size = size) (hby : i.bytes = bytes) (hzs : z.cells.size = size) (hsz : 0 < size)
    (v : Value) (n : Nat) (xs : List Value) (hs : a.eval s = v) (hown : w.ownsRow base e size v n xs)
    (y : Value) (m : Nat) (news : List Value) (hx : a.eval x = y) (hl : news.length = m * size) (hsrc : Src w y m news)
    (h63 : n + m ≤ maxLen) (hbytes : (n + m) * bytes ≤ 140737488355328) (hbase : base ≤ w.heap.size)
    (h : ∀ A c w', w'.ownsRow base e size (.slice A (n + m) c) (n + m) (xs ++ news) → w.grownBy w' v.ownBlock → ((Value.slice A (n + m) c).ownBlock = v.ownBlock ∨ (Value.slice A (n + m) c).ownBlock = some w.heap.size) → K (a.put o.dst (.slice A (n + m) c)) w') :
    Oper.wp P o a w K Q := by
  obtain ⟨v', w', hr, h2, h3, h4, A, c', rfl⟩ := run_append_uni (P := P) w base t o.type e i z size bytes ht hi hz hsize hby hzs hsz v n xs hown y m news hl hsrc h63 hbytes hbase
  unfold Oper.wp execOp
  simp only [ho, resolve, invoke, builtin, Sem.run_bind, Sem.run_pure, Result.andThen_ok, List.map_toArray, List.map_cons, List.map_nil, hs, hx, hr]
  exact h A c' w' h2 h3 h4
theorem wpList_append_uni {P : Program} {w : World} {ops : Array Oper} {rest : List Oper} {o : Oper} {a : Act} {Q : Exit → Act → World → Prop} (hgd : o.guard = none) (s x : Operand) (t : TypeId)
    (ho : o.op = .call { callee := .builtin .append, args := #[s, x], argTypes := #[t, t] })
    (base : Nat) (e : TypeId) (i : TypeInfo) (z : Value) (size bytes : Nat) (ht : P.underlying t = some (.slice e)) (hi : P.info? e = some i) (hz : i.zero = some z)
    (hsize : i.size = size) (hby : i.bytes = bytes) (hzs : z.cells.size = size) (hsz : 0 < size)
    (v : Value) (n : Nat) (xs : List Value) (hs : a.eval s = v) (hown : w.ownsRow base e size v n xs)
    (y : Value) (m : Nat) (news : List Value) (hx : a.eval x = y) (hl : news.length = m * size) (hsrc : Src w y m news)
    (h63 : n + m ≤ maxLen) (hbytes : (n + m) * bytes ≤ 140737488355328) (hbase : base ≤ w.heap.size)
    (h : ∀ A c w', w'.ownsRow base e size (.slice A (n + m) c) (n + m) (xs ++ news) → w.grownBy w' v.ownBlock → ((Value.slice A (n + m) c).ownBlock = v.ownBlock ∨ (Value.slice A (n + m) c).ownBlock = some w.heap.size) → wpList P ops Q rest (a.put o.dst (.slice A (n + m) c)) w') :
    wpList P ops Q (o :: rest) a w :=
  wpList_plain hgd fun _ hK => wp_append_uni s x t ho base e i z size bytes ht hi hz hsize hby hzs hsz v n xs hs hown y m news hx hl hsrc h63 hbytes hbase fun A c w' h2 h3 h4 => hK _ _ (h A c w' h2 h3 h4)
theorem step_append_uni {P : Program} {w : World} {ops : Array Oper} {o : Oper} {a : Act} {K : Act → World → Prop} {Q : Exit → Act → World → Prop} {E : Prop} (hgd : o.guard = none) (s x : Operand) (t : TypeId)
    (ho : o.op = .call { callee := .builtin .append, args := #[s, x], argTypes := #[t, t] })
    (base : Nat) (e : TypeId) (i : TypeInfo) (z : Value) (size bytes : Nat) (ht : P.underlying t = some (.slice e)) (hi : P.info? e = some i) (hz : i.zero = some z)
    (hsize : i.size = size) (hby : i.bytes = bytes) (hzs : z.cells.size = size) (hsz : 0 < size)
    (v : Value) (n : Nat) (xs : List Value) (hs : a.eval s = v) (hown : w.ownsRow base e size v n xs)
    (y : Value) (m : Nat) (news : List Value) (hx : a.eval x = y) (hl : news.length = m * size) (hsrc : Src w y m news)
    (h63 : n + m ≤ maxLen) (hbytes : (n + m) * bytes ≤ 140737488355328) (hbase : base ≤ w.heap.size)
    (h : ∀ A c w', w'.ownsRow base e size (.slice A (n + m) c) (n + m) (xs ++ news) → w.grownBy w' v.ownBlock → ((Value.slice A (n + m) c).ownBlock = v.ownBlock ∨ (Value.slice A (n + m) c).ownBlock = some w.heap.size) → K (a.put o.dst (.slice A (n + m) c)) w') :
    if Region.wanted o (yielded ops a.tmps) = true then Oper.wp P o a w K Q else E := by
  have hw : Region.wanted o (yielded ops a.tmps) = true := by simp [Region.wanted, hgd]
  rw [if_pos hw]
  exact wp_append_uni s x t ho base e i z size bytes ht hi hz hsize hby hzs hsz v n xs hs hown y m news hx hl hsrc h63 hbytes hbase h

/-! ### sources, and what an owned row reads as -/
theorem fn_cells {α : Type} {enc : α → List Value} {sz : Nat} (hl : ∀ x, (enc x).length = sz) {xs : List α} {j : Nat} {u : Value} (h : (xs.flatMap enc)[j]? = some u) : ∃ (i k : Nat) (x : α), xs[i]? = some x ∧ (enc x)[k]? = some u ∧ j = i * sz + k := by
  induction xs generalizing j with
  | nil => simp at h
  | cons a l ih =>
    rw [List.flatMap_cons] at h
    by_cases hj : j < (enc a).length
    · rw [List.getElem?_append_left hj] at h
      exact ⟨0, j, a, rfl, h, by simp⟩
    · rw [List.getElem?_append_right (by omega)] at h
      obtain ⟨i, k, x, h1, h2, h3⟩ := ih h
      exact ⟨i + 1, k, x, by simpa using h1, h2, by rw [hl a] at h3 hj; rw [Nat.add_mul]; omega⟩
theorem Src.of_fn {α : Type} {enc : α → List Value} {sz : Nat} {hl : ∀ x, (enc x).length = sz} {h1 : ∀ x, ∀ u ∈ enc x, u.oneCell' = true} {h0 : 0 < sz} {ok : Nat → Prop} {w : World} {A : Option Addr} {xs : List α} {c : Nat}
    (h : (Kd.fn sz enc hl h1 h0).C ok w A xs) : Src w (.slice A xs.length c) xs.length (xs.flatMap enc) := by
  refine ⟨A, c, rfl, ?_, ?_⟩
  · intro u hu
    obtain ⟨x, _, hx⟩ := List.mem_flatMap.1 hu
    exact h1 x u hx
  · by_cases hx : xs = []
    · left; subst hx; exact ⟨rfl, rfl⟩
    · right
      obtain ⟨ad, e, ho, hc⟩ := h.2 hx
      refine ⟨ad, e, fun j u hu => ?_⟩
      obtain ⟨i, k, x, g1, g2, rfl⟩ := fn_cells hl hu
      obtain ⟨c, hK, hcell⟩ := hc i x g1
      obtain rfl : c = enc x := hK
      exact hcell k u g2
/-- The one element that 'append(xs, x)' lays into a block of its own. -/
theorem Src.of_block {w : World} {B : Nat} {cs : List Value} {t m c : Nat} {fr : Nat × Nat} (hb : w.heap[B]? = some (.cells cs.toArray t fr)) (h1 : ∀ u ∈ cs, u.oneCell' = true) : Src w (.slice (some ⟨B, 0, none⟩) m c) m cs :=
  ⟨_, _, rfl, h1, .inr ⟨_, rfl, World.news_of_block hb⟩⟩
theorem flat_len {α : Type} {enc : α → List Value} {sz : Nat} (hl : ∀ x, (enc x).length = sz) (xs : List α) : (xs.flatMap enc).length = xs.length * sz := by
  induction xs with
  | nil => simp
  | cons a l ih => rw [List.flatMap_cons, List.length_append, hl, ih, List.length_cons, Nat.add_mul]; omega
theorem C_of_own {α : Type} {enc : α → List Value} {sz : Nat} {hl : ∀ x, (enc x).length = sz} {h1 : ∀ x, ∀ u ∈ enc x, u.oneCell' = true} {h0 : 0 < sz} {ok : Nat → Prop} {w : World} {base e : Nat} {v : Value} {xs : List α}
    (h : w.ownsRow base e sz v xs.length (xs.flatMap enc)) (hok : ∀ k, v.ownBlock = some k → ok k) : ∃ A c, v = .slice A xs.length c ∧ xs.length ≤ c ∧ (Kd.fn sz enc hl h1 h0).C ok w A xs := by
  rcases h.2 with ⟨rfl, h0⟩ | ⟨g, cap, cur, rfl, hg, hh, hnc, hcm, hcs, ht⟩
  · have : xs = [] := by simpa using h0
    subst this
    exact ⟨none, 0, rfl, by simp, Kd.C.nil _ _ _ _⟩
  · refine ⟨some ⟨g, 0, none⟩, cap, rfl, hnc, C_of_cells (css := xs.map enc) (by simp) ?_ hh ?_ (by unfold maxLen at hcm; omega) (hok g rfl)⟩
    · intro i x c hx hc
      rw [List.getElem?_map, hx] at hc
      exact (Option.some.inj hc).symm
    · intro j u hu
      have hfl : (xs.map enc).flatten = xs.flatMap enc := (List.flatMap_def).symm
      rw [hfl, ← ht] at hu
      obtain ⟨hj, rfl⟩ := List.getElem?_eq_some_iff.1 hu
      rw [List.getElem_take]
      rw [List.length_take] at hj
      simp
/-- Rows of unlike elements lie in unlike blocks. -/
theorem own_ne {w : World} {b1 b2 e1 e2 s1 s2 n1 n2 : Nat} {v1 v2 : Value} {x1 x2 : List Value} (h1 : w.ownsRow b1 e1 s1 v1 n1 x1) (h2 : w.ownsRow b2 e2 s2 v2 n2 x2) (he : e1 ≠ e2) : v1.ownBlock = none ∨ v1.ownBlock ≠ v2.ownBlock := by
  rcases h1.2 with ⟨rfl, _⟩ | ⟨g, cap, cur, rfl, _, hh, _⟩
  · exact .inl rfl
  · right
    rcases h2.2 with ⟨rfl, _⟩ | ⟨g2, cap2, cur2, rfl, _, hh2, _⟩
    · simp [Value.ownBlock]
    · simp only [Value.ownBlock, ne_eq, Option.some.injEq]
      rintro rfl
      rw [hh] at hh2
      simp at hh2
      exact he hh2.2
theorem own_base {w : World} {b e s n : Nat} {v : Value} {x : List Value} (h : w.ownsRow b e s v n x) : ∀ k, v.ownBlock = some k → b ≤ k := fun k hk => (h.lt k hk).1
theorem own_below {w w1 : World} {b e s n : Nat} {v : Value} {x : List Value} (h : w.ownsRow b e s v n x) (hb : Below w.heap.size w w1) : w1.ownsRow b e s v n x :=
  h.kept (row := none) ⟨hb.os, hb.tape, hb.output, hb.size, fun k hk _ => hb.block k hk⟩ (by cases v <;> simp [Value.ownBlock]; rename_i a _ _; cases a <;> simp)

theorem own_set {w : World} {b e s n : Nat} {v : Value} {x : List Value} (h : w.ownsRow b e s v n x) (p : Addr) (u : Value) (hne : v.ownBlock ≠ some p.block) : (w.setCell p u).ownsRow b e s v n x :=
  h.kept (row := some p.block) ⟨rfl, rfl, rfl, by simp [World.setCell], fun k _ hk => Below.heap_setCell _ _ _ _ (fun e => hk (by rw [e]))⟩ (.inr hne)
theorem own_only {w w1 : World} {b e s n : Nat} {v : Value} {x : List Value} (h : w.ownsRow b e s v n x) {S : Nat → Prop} (hO : Only S w w1) (hs : ∀ k, v.ownBlock = some k → ¬ S k) : w1.ownsRow b e s v n x := by
  refine ⟨h.1, ?_⟩
  rcases h.2 with hn | ⟨g, cap, cur, rfl, hb, hgg, rest⟩
  · exact .inl hn
  · exact .inr ⟨g, cap, cur, rfl, hb, (hO.block g (Array.getElem?_eq_some_iff.1 hgg).1 (hs g rfl)).trans hgg, rest⟩
/-! ### a copy: 'append([]T{}, x...)'; blocks by their types -/
/-- Blocks from n on that hold elements of type e. -/
def OfT (n e : Nat) (w : World) (k : Nat) : Prop := n ≤ k ∧ ∃ cur, w.heap[k]? = some (.cells cur e (0, 0))
theorem OfT.keep {n n' e : Nat} {w w1 : World} {k : Nat} (h : OfT n e w k) (hn : n' ≤ n) (hk : w1.heap[k]? = w.heap[k]?) : OfT n' e w1 k := ⟨Nat.le_trans hn h.1, by rw [hk]; exact h.2⟩
theorem OfT.lt {n e : Nat} {w : World} {k : Nat} (h : OfT n e w k) : k < w.heap.size := by
  obtain ⟨_, cur, hc⟩ := h
  exact (Array.getElem?_eq_some_iff.1 hc).1
/-- Block g holds elements of type T, none of them frozen. -/
def IsT (g T : Nat) (w : World) : Prop := ∃ cur, w.heap[g]? = some (.cells cur T (0, 0))
theorem IsT.lt {g T : Nat} {w : World} (h : IsT g T w) : g < w.heap.size := by
  obtain ⟨cur, hc⟩ := h
  exact (Array.getElem?_eq_some_iff.1 hc).1
theorem IsT.new (w : World) (cs : Array Value) (T : Nat) : IsT w.heap.size T (w.alloc (.cells cs T)) := ⟨cs, alloc_heap_at w _⟩
theorem IsT.newE {g : Nat} (w : World) (cs : Array Value) (T : Nat) (h : w.heap.size = g) : IsT g T (w.alloc (.cells cs T)) := h ▸ IsT.new w cs T
theorem IsT.alloc {g T : Nat} {w : World} (h : IsT g T w) (o : Obj) : IsT g T (w.alloc o) := by
  obtain ⟨cur, hc⟩ := h
  exact ⟨cur, alloc_heap_lt w o hc⟩
theorem IsT.drew {g T : Nat} {w : World} (h : IsT g T w) : IsT g T w.drew := h
theorem IsT.drewN {g T : Nat} {w : World} (h : IsT g T w) (n : Nat) : IsT g T (w.drewN n) := h
theorem IsT.below {g T : Nat} {w w1 : World} (h : IsT g T w) (hb : Below w.heap.size w w1) : IsT g T w1 := by
  have hl := h.lt
  obtain ⟨cur, hc⟩ := h
  exact ⟨cur, (hb.block g hl).trans hc⟩
theorem IsT.keep {g T : Nat} {w w1 : World} (h : IsT g T w) (hb : w1.heap[g]? = w.heap[g]?) : IsT g T w1 := by
  obtain ⟨cur, hc⟩ := h
  exact ⟨cur, hb.trans hc⟩
theorem IsT.set {g T : Nat} {w : World} (h : IsT g T w) (p : Addr) (u : Value) : IsT g T (w.setCell p u) := by
  obtain ⟨cur, hc⟩ := h
  by_cases hp : g = p.block
  · subst hp
    refine ⟨if p.spot.isSome = true then cur else cur.setIfInBounds p.off u, ?_⟩
    simp [World.setCell, Array.getElem?_modify, hc]
  · exact ⟨cur, (Below.heap_setCell w p u g hp).trans hc⟩
theorem IsT.frozen {g T : Nat} {w : World} (h : IsT g T w) (i : Nat) : w.frozen? ⟨g, i, none⟩ = false := by
  obtain ⟨cur, hc⟩ := h
  simp [World.frozen?, hc]
theorem IsT.ne {g T T2 n k : Nat} {w : World} (h : IsT g T w) (hk : OfT n T2 w k) (hT : T ≠ T2) : k ≠ g := by
  rintro rfl
  obtain ⟨_, c1, h1⟩ := hk
  obtain ⟨c2, h2⟩ := h
  rw [h1] at h2
  simp at h2
  exact hT h2.2.symm
theorem OfT.of {g T : Nat} {w : World} {n : Nat} (h : IsT g T w) (hn : n ≤ g) : OfT n T w g := ⟨hn, h⟩
/-- A row's reading goes with its blocks' types to a later world. -/
theorem C_ofT {α : Type} {d : Kd α} {n n' e : Nat} {w w1 : World} {A : Option Addr} {xs : List α} (h : d.C (OfT n e w) w A xs) (hn : n' ≤ n) (hk : ∀ k, OfT n e w k → w1.heap[k]? = w.heap[k]?) : d.C (OfT n' e w1) w1 A xs :=
  (h.keep (fun k ho _ => hk k ho)).mono (fun k ho => ho.keep hn (hk k ho))
/-- The same where blocks of another type may have been written meanwhile. -/
theorem C_later {α : Type} {d : Kd α} {n n' e T : Nat} {w w1 : World} {A : Option Addr} {xs : List α} (h : d.C (OfT n e w) w A xs) (hn : n' ≤ n) (hT : ∀ k, IsT k e w → IsT k e w1) (hO : Only (fun k => IsT k T w1) w w1) (hne : T ≠ e) : d.C (OfT n' e w1) w1 A xs :=
  C_ofT h hn (fun k hk => hO.block k hk.lt (fun hg => by
    obtain ⟨c1, h1⟩ := hg
    obtain ⟨c2, h2⟩ := hT k hk.2
    rw [h1] at h2
    simp at h2
    exact hne h2.2))
theorem run_append_copy {P : Program} {α : Type} {enc : α → List Value} {sz : Nat} {hl : ∀ x, (enc x).length = sz} {h1 : ∀ x, ∀ u ∈ enc x, u.oneCell' = true} {h0 : 0 < sz} {ok : Nat → Prop} (w : World) (t ty e : TypeId) (i : TypeInfo) (z : Value) (bytes : Nat) (ht : P.underlying t = some (.slice e)) (hi : P.info? e = some i) (hz : i.zero = some z)
    (hsize : i.size = sz) (hby : i.bytes = bytes) (b : Addr) (A : Option Addr) (xs : List α) (c : Nat)
    (hC : (Kd.fn sz enc hl h1 h0).C ok w A xs) (hbytes : xs.length * bytes ≤ 140737488355328) :
    ∃ A' c' w', (Builtin.append_ #[t, t] ty #[.slice (some b) 0 0, .slice A xs.length c]).run P w = .ok (.slice A' xs.length c') w' ∧ xs.length ≤ c' ∧ Below w.heap.size w w' ∧
      (Kd.fn sz enc hl h1 h0).C (OfT w.heap.size e w') w' A' xs := by
  by_cases hx : xs = []
  · subst hx
    refine ⟨some b, 0, w, ?_, by simp, Below.refl _ _, Kd.C.nil _ _ _ _⟩
    cases A <;> simp [Builtin.append_, run_underlying ht, sizeOf, typeInfo, hi, Builtin.lenOf, Builtin.firstCells, storeCells, loadCells, loadCellsFrom]
  · obtain ⟨ad, rfl, ho, hc⟩ := hC.2 hx
    have hpos : 0 < xs.length := List.length_pos_iff.2 hx
    have hS : Src w (.slice (some ad) xs.length c) xs.length (xs.flatMap enc) := Src.of_fn hC
    obtain ⟨A2, c2, e2, _, h2⟩ := hS
    have hnews : ∀ j u, (xs.flatMap enc)[j]? = some u → w.cell? (ad.add j) = some u := by
      rcases h2 with ⟨h0, _⟩ | ⟨ad2, e3, h3⟩
      · omega
      · simp only [Value.slice.injEq] at e2
        obtain ⟨rfl, _⟩ := e2
        obtain rfl := Option.some.inj e3
        exact h3
    have hlen := hC.len
    have hg := run_append_grow (P := P) (w := w) t ty e i z ht hi hz b 0 0 [] (by simp) (by simp) ad xs.length c (xs.flatMap enc) (by rw [flat_len hl, hsize]) hnews (by omega) (by simp; omega)
      (by rw [hby]; exact growslice_fits (by omega) (by simpa using hbytes))
    refine ⟨_, _, _, by simpa using hg, grownCap_ge _ _ _ _, ?_, ?_⟩
    · exact (Below.refl _ _).drew.alloc (Nat.le_refl _) _
    · have hh := alloc_heap_at w.drew (.cells (#[] ++ (xs.flatMap enc).toArray ++ Builtin.zeroCells z.cells (grownCap w xs.length 0 e - xs.length)) e)
      have hs : w.drew.heap.size = w.heap.size := rfl
      rw [hs] at hh
      refine C_of_cells (css := xs.map enc) (by simp) ?_ (by simpa using hh) ?_ hlen ⟨Nat.le_refl _, _, by simpa using hh⟩
      · intro i x c hx hc
        rw [List.getElem?_map, hx] at hc
        exact (Option.some.inj hc).symm
      · intro j u hu
        have hfl : (xs.map enc).flatten = xs.flatMap enc := (List.flatMap_def).symm
        rw [hfl] at hu
        have hj := (List.getElem?_eq_some_iff.1 hu).1
        rw [Array.getElem?_append_left (by simpa using hj)]
        simpa using hu
theorem wp_append_copy {P : Program} {α : Type} {enc : α → List Value} {sz : Nat} {hl : ∀ x, (enc x).length = sz} {h1 : ∀ x, ∀ u ∈ enc x, u.oneCell' = true} {h0 : 0 < sz} {ok : Nat → Prop} {w : World} {o : Oper} {a : Act} {K : Act → World → Prop} {Q : Exit → Act → World → Prop} (s x : Operand) (t : TypeId)
    (ho : o.op = .call { callee := .builtin .append, args := #[s, x], argTypes := #[t, t] })
    (e : TypeId) (i : TypeInfo) (z : Value) (bytes : Nat) (ht : P.underlying t = some (.slice e)) (hi : P.info? e = some i) (hz : i.zero = some z) (hsize : i.size = sz) (hby : i.bytes = bytes)
    (b : Addr) (hs : a.eval s = .slice (some b) 0 0) (A : Option Addr) (xs : List α) (c : Nat) (hx : a.eval x = .slice A xs.length c)
    (hC : (Kd.fn sz enc hl h1 h0).C ok w A xs) (hbytes : xs.length * bytes ≤ 140737488355328)
    (h : ∀ A' c' w', xs.length ≤ c' → Below w.heap.size w w' → (Kd.fn sz enc hl h1 h0).C (OfT w.heap.size e w') w' A' xs → K (a.put o.dst (.slice A' xs.length c')) w') :
    Oper.wp P o a w K Q := by
  obtain ⟨A', c', w', hr, h2, h3, h4⟩ := run_append_copy (P := P) w t o.type e i z bytes ht hi hz hsize hby b A xs c hC hbytes
  unfold Oper.wp execOp
  simp only [ho, resolve, invoke, builtin, Sem.run_bind, Sem.run_pure, Result.andThen_ok, List.map_toArray, List.map_cons, List.map_nil, hs, hx, hr]
  exact h A' c' w' h2 h3 h4
theorem step_append_copy {P : Program} {α : Type} {enc : α → List Value} {sz : Nat} {hl : ∀ x, (enc x).length = sz} {h1 : ∀ x, ∀ u ∈ enc x, u.oneCell' = true} {h0 : 0 < sz} {ok : Nat → Prop} {w : World} {ops : Array Oper} {o : Oper} {a : Act} {K : Act → World → Prop} {Q : Exit → Act → World → Prop} {E : Prop} (hgd : o.guard = none) (s x : Operand) (t : TypeId)
    (ho : o.op = .call { callee := .builtin .append, args := #[s, x], argTypes := #[t, t] })
    (e : TypeId) (i : TypeInfo) (z : Value) (bytes : Nat) (ht : P.underlying t = some (.slice e)) (hi : P.info? e = some i) (hz : i.zero = some z) (hsize : i.size = sz) (hby : i.bytes = bytes)
    (b : Addr) (hs : a.eval s = .slice (some b) 0 0) (A : Option Addr) (xs : List α) (c : Nat) (hx : a.eval x = .slice A xs.length c)
    (hC : (Kd.fn sz enc hl h1 h0).C ok w A xs) (hbytes : xs.length * bytes ≤ 140737488355328)
    (h : ∀ A' c' w', xs.length ≤ c' → Below w.heap.size w w' → (Kd.fn sz enc hl h1 h0).C (OfT w.heap.size e w') w' A' xs → K (a.put o.dst (.slice A' xs.length c')) w') :
    if Region.wanted o (yielded ops a.tmps) = true then Oper.wp P o a w K Q else E := by
  have hw : Region.wanted o (yielded ops a.tmps) = true := by simp [Region.wanted, hgd]
  rw [if_pos hw]
  exact wp_append_copy s x t ho e i z bytes ht hi hz hsize hby b hs A xs c hx hC hbytes h
end Go.Proofs.Ytegjkheecbmioaa
