/- What the walk of pack.Put needs: plain numbers of a script, rows of numbers, bounds. -/
import Derived.Test.YtikfkkinhipfjaaNumB
import Derived.Test.YtikfkkinhipfjaaScrC
import Derived.Deep.RegionWith
namespace Go.Proofs.Ytikfkkinhipfjaa
open Go.RowKit Go.ChangeShapes
set_option linter.unusedVariables false
set_option linter.unusedSimpArgs false

def bitI (b : Bool) : Int := if b then 1 else 0
theorem bit_calls' (b : Bool) (w : World) : Calls Try.prog 20 #[.bool b] w fun e w' => e = .returned (.int .i64 (bitI b)) ∧ w' = w := (bit_calls b w).mono fun _ _ h => ⟨h.1, h.2.symm⟩
def obN (o : Ob) : List Int := [o.kind, bitI o.fair, o.n]
def clN (o : Cl) : List Int := [o.kind, o.obj, o.n, o.wait, bitI o.breaks]
def pkN (o : Pk) : List Int := [o.kind, o.n]
def rowN (l : List Cl) : List Int := (l.length : Int) :: l.flatMap clN
def scrN (s : Scr) : List Int := [(s.objs.length : Int)] ++ s.objs.flatMap obN ++ [(s.progs.length : Int)] ++ s.progs.flatMap rowN ++ [(s.picks.length : Int)] ++ s.picks.flatMap pkN
def putB (s : Scr) : List Nat := numsB (scrN s)
theorem numsB_append (a b : List Int) : numsB (a ++ b) = numsB a ++ numsB b := by simp [numsB]
theorem numsB_cons (a : Int) (b : List Int) : numsB (a :: b) = numB a ++ numsB b := by simp [numsB]
theorem wf_of {n : Int} (h1 : -9223372036854775808 ≤ n) (h2 : n ≤ 9223372036854775807) : (Lit.int .i64 n).wf = true := WalkArith.wf_i64 (by omega)
theorem len_obs (l : List Ob) : (l.flatMap obN).length = 3 * l.length := by
  induction l with
  | nil => rfl
  | cons a l ih => simp only [List.flatMap_cons, List.length_append, List.length_cons, ih, obN, List.length_nil]; omega
theorem len_cls (l : List Cl) : (l.flatMap clN).length = 5 * l.length := by
  induction l with
  | nil => rfl
  | cons a l ih => simp only [List.flatMap_cons, List.length_append, List.length_cons, ih, clN, List.length_nil]; omega
theorem len_pks (l : List Pk) : (l.flatMap pkN).length = 2 * l.length := by
  induction l with
  | nil => rfl
  | cons a l ih => simp only [List.flatMap_cons, List.length_append, List.length_cons, ih, pkN, List.length_nil]; omega
theorem len_rows (L : List (List Cl)) (h : ∀ l ∈ L, l.length ≤ 16) : (L.flatMap rowN).length ≤ 81 * L.length := by
  induction L with
  | nil => simp
  | cons a l ih =>
    have h1 := ih (fun x hx => h x (List.mem_cons_of_mem _ hx))
    have h2 := h a List.mem_cons_self
    simp only [List.flatMap_cons, List.length_append, List.length_cons, rowN, len_cls]
    omega
theorem flat_take {α : Type} {f : α → List Int} {l : List α} {k : Nat} {x : α} (h : l[k]? = some x) : (l.take (k + 1)).flatMap f = (l.take k).flatMap f ++ f x := by
  rw [List.take_add_one, h]
  simp
theorem bit_wf (b : Bool) : (Lit.int .i64 (bitI b)).wf = true := by cases b <;> decide
theorem of_iff' (k : Int) (h : ofI k ≠ 0) : 1 ≤ k ∧ k ≤ 19 := by unfold ofI at h; (repeat' split at h) <;> omega
theorem ob_wf {o : Ob} (h : objB o = true) : ∀ n ∈ obN o, (Lit.int .i64 n).wf = true := by
  simp only [objB, decide_eq_true_eq] at h
  intro n hn
  simp only [obN, List.mem_cons, List.not_mem_nil, or_false] at hn
  rcases hn with rfl | rfl | rfl
  · exact wf_of (by omega) (by omega)
  · exact bit_wf _
  · exact wf_of (by omega) (by omega)
theorem cl_wf {o : Cl} {m : Nat} (hm : m ≤ 6) (h : callB o m = true) : ∀ n ∈ clN o, (Lit.int .i64 n).wf = true := by
  simp only [callB, decide_eq_true_eq] at h
  obtain ⟨h0, h1, h2, h3, h4, h5, h6⟩ := h
  have hk := of_iff' _ h0
  intro n hn
  simp only [clN, List.mem_cons, List.not_mem_nil, or_false] at hn
  rcases hn with rfl | rfl | rfl | rfl | rfl
  · exact wf_of (by omega) (by omega)
  · exact wf_of (by omega) (by omega)
  · exact wf_of (by omega) (by omega)
  · split at h6
    · exact wf_of (by omega) (by omega)
    · exact wf_of (by omega) (by omega)
  · exact bit_wf _
theorem pk_wf {o : Pk} (h : pickB o = true) : ∀ n ∈ pkN o, (Lit.int .i64 n).wf = true := by
  simp only [pickB, decide_eq_true_eq] at h
  intro n hn
  simp only [pkN, List.mem_cons, List.not_mem_nil, or_false] at hn
  split at h
  · rcases hn with rfl | rfl
    · exact wf_of (by omega) (by omega)
    · exact wf_of (by omega) (by omega)
  · rcases hn with rfl | rfl
    · exact wf_of (by omega) (by omega)
    · exact wf_of (by omega) (by omega)
theorem one_wf {m : Nat} (h : m ≤ 4000) : ∀ n ∈ [(m : Int)], (Lit.int .i64 n).wf = true := by
  intro n hn
  rw [List.mem_singleton.1 hn]
  exact wf_of (by omega) (by omega)
/-- The bytes that are put together, and what is kept of the world at the box. -/
structure PutInv (W0 : World) (v : Value) (L : List Int) (wr : World) : Prop where
  own : wr.ownsRow W0.heap.size 5 1 v (numsB L).length ((numsB L).map byteV)
  bl : Below W0.heap.size W0 wr
  len : L.length ≤ 9000
  wf : ∀ n ∈ L, (Lit.int .i64 n).wf = true
theorem ints_at {w : World} {b T : Nat} (l : List Int) (hl : l.length ≤ 9000) (hb : w.heap[b]? = some (.cells (l.map (fun n => Value.int .i64 n)).toArray T)) : kI64.C (fun k => k = b) w (some ⟨b, 0, none⟩) l := by
  refine C_of_cells (css := l.map I64.enc) (by simp) ?_ hb ?_ (by omega) rfl
  · intro i x c hx hc
    rw [List.getElem?_map, hx] at hc
    exact (Option.some.inj hc).symm
  · intro j u hu
    have e : (l.map I64.enc).flatten = l.map (fun n => Value.int .i64 n) := by
      clear hl hu hb
      induction l with
      | nil => rfl
      | cons a l ih => simp only [List.map_cons, List.flatten_cons, ih]; rfl
    rw [e] at hu
    simpa using hu
theorem own_weak {w : World} {b b2 e s n : Nat} {v : Value} {x : List Value} (h : w.ownsRow b e s v n x) (hb : b2 ≤ b) : w.ownsRow b2 e s v n x := by
  refine ⟨h.1, ?_⟩
  rcases h.2 with hn | ⟨g, cap, cur, rfl, hg, rest⟩
  · exact .inl hn
  · exact .inr ⟨g, cap, cur, rfl, Nat.le_trans hb hg, rest⟩
theorem alloc2_at (w : World) (o1 o2 : Obj) : ((w.alloc o1).alloc o2).heap[w.heap.size + 1]? = some o2 := by
  have := alloc_heap_at (w.alloc o1) o2
  rwa [alloc_size] at this
/-- More numbers behind those that are there. -/
theorem put_more {W0 wr wx : World} {u : Value} {L : List Int} (l : List Int) (b T n : Nat) (hn : l.length = n) (hI : PutInv W0 u L wr) (hx : Below wr.heap.size wr wx) (hb : wx.heap[b]? = some (.cells (l.map (fun n => Value.int .i64 n)).toArray T)) (hbw : wr.heap.size ≤ b)
    (hlen : L.length + l.length ≤ 9000) (hwf : ∀ n ∈ l, (Lit.int .i64 n).wf = true) :
    Calls Try.prog 19 #[u, .slice (some ⟨b, 0, none⟩) n n] wx fun e w' => ∃ v, e = .returned v ∧ PutInv W0 v (L ++ l) w' := by
  subst hn
  have hown : wx.ownsRow W0.heap.size 5 1 u (numsB L).length ((numsB L).map byteV) := own_below hI.own hx
  have hW := below_step hI.bl hx
  have h0 := numsB_len hI.wf
  have h1 := hI.len
  refine (numbers_calls wx W0.heap.size u (numsB L) l _ _ (ints_at l (by omega) hb) hown ?_ hW.size (by omega) hwf).mono ?_
  · intro k hk e
    subst hk
    have := (hI.own.lt k e.symm).2
    omega
  · rintro e w' ⟨v, rfl, hR⟩
    refine ⟨v, rfl, by rw [numsB_append]; exact hR.own, hW.trans (hR.on.below hW.size (fun b hb => own_base hown b hb.symm)), by rw [List.length_append]; exact hlen, ?_⟩
    intro n hn
    rcases List.mem_append.1 hn with h | h
    · exact hI.wf n h
    · exact hwf n h
theorem check_bounds {s : Scr} (h : checkE s = none) : s.objs.length ≤ 6 ∧ s.progs.length ≤ 8 ∧ (∀ l ∈ s.progs, l.length ≤ 16) ∧ s.picks.length ≤ 4000 ∧ (∀ o ∈ s.objs, objB o = true) ∧ (∀ l ∈ s.progs, ∀ o ∈ l, callB o s.objs.length = true) ∧ (∀ p ∈ s.picks, pickB p = true) := by
  unfold checkE at h
  split at h
  · cases h
  split at h
  · cases h
  split at h
  · cases h
  split at h
  · cases h
  split at h
  · cases h
  rename_i h1 h2 h3 h4 h5
  simp only [largeB, Bool.or_eq_true, List.any_eq_true, decide_eq_true_eq, not_or, not_exists, not_and] at h1
  refine ⟨?_, ?_, fun l hl => ?_, ?_, ?_, ?_, ?_⟩
  · have := h1.1.1.2; omega
  · have := h1.1.2; omega
  · have := h1.1.1.1 l hl; omega
  · have := h1.2; omega
  · simpa using h3
  · simpa using h4
  · simpa using h5
end Go.Proofs.Ytikfkkinhipfjaa
