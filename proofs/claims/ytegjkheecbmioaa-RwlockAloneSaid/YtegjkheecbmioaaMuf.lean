/- A region that draws its order, walked by a plan, where two writing operations may come in either order. Of no program. -/
import Derived.Test.YtegjkheecbmioaaMux
namespace Go.Proofs.Ytegjkheecbmioaa.Muf
open Go.RowKit Reg Mix Mux
set_option linter.unusedVariables false
set_option linter.unusedSimpArgs false
/-- q i: i only reads; m i: it alone is ready; fork: either may be next. -/
inductive Plan
  | nil
  | q (i : Nat) (t : Plan)
  | m (i : Nat) (t : Plan)
  | fork (i : Nat) (t : Plan) (j : Nat) (u : Plan)
def Plan.len : Plan → Nat
  | .nil => 0
  | .q _ t => t.len + 1
  | .m _ t => t.len + 1
  | .fork _ t _ _ => t.len + 1
section
variable {P : Program} {ops : Array Oper} {Q : Exit → Act → World → Prop}
def mv (P : Program) (ops : Array Oper) (R : World → Prop) (Q : Exit → Act → World → Prop) (cl : List Nat) (i : Nat) (X : Act → World → Prop) (a : Act) (w : World) : Prop :=
  if cl.contains i then wpList P ops (fun e a' w' => match e with | .normal => Then R X a' w' | e => Q e a' w') (pick ops.toList [i]) a w
  else wpList P ops (fun e a' w' => match e with | .normal => X a' w' | e => Q e a' w') (pick ops.toList [i]) a w
def Walk (P : Program) (ops : Array Oper) (R : World → Prop) (Q : Exit → Act → World → Prop) (cl : List Nat) : Plan → Act → World → Prop
  | .nil, a, w => Q .normal a w
  | .q i t, a, w => match ops[i]? with
    | some o => ∃ v, YieldsR P ops R o v a ∧ Walk P ops R Q cl t (a.put o.dst v) w
    | none => False
  | .m i t, a, w => mv P ops R Q cl i (Walk P ops R Q cl t) a w
  | .fork i t j u, a, w => mv P ops R Q cl i (Walk P ops R Q cl t) a w ∧ mv P ops R Q cl j (Walk P ops R Q cl u) a w
def planB (ops : Array Oper) (cl : List Nat) : Bool → Plan → Array Bool → Bool
  | _, .nil, l => (Region.ready .any ops l).isEmpty
  | r, .q i t, l => r && cl.contains i && (Region.ready .any ops l).contains i && Region.free .any ops l i && (List.range ops.size).all (fun j => l.getD j true || j == i || cl.contains j || (upTo ops j).contains i) && planB ops cl r t (l.setIfInBounds i true)
  | r, .m i t, l => decide (Region.ready .any ops l = [i]) && planB ops cl (cl.contains i) t (l.setIfInBounds i true)
  | r, .fork i t j u, l => decide (Region.ready .any ops l = [i, j]) && decide (t.len = u.len) && planB ops cl (cl.contains i) t (l.setIfInBounds i true) && planB ops cl (cl.contains j) u (l.setIfInBounds j true)
theorem mv_wp {R : World → Prop} {cl : List Nat} {k : Nat} {o : Oper} {X Y : Act → World → Prop} {a : Act} {w : World} (ho : ops[k]? = some o) (next : ∀ a' w', (cl.contains k = true → R w') → X a' w' → Y a' w') (h : mv P ops R Q cl k X a w) :
    wpOp P ops Q k (fun a' w' => (cl.contains k = true → R w') ∧ Y a' w') a w := by
  have hlo : ∀ (Q' : Exit → Act → World → Prop), (∀ e a w, e ≠ .normal → Q' e a w → Q e a w) → LetsOut Q' → LetsOut Q := fun Q' hq ⟨a, w, h⟩ => ⟨a, w, hq _ a w (by simp) h⟩
  have go : ∀ Q' : Exit → Act → World → Prop, (∀ e a w, e ≠ .normal → Q' e a w → Q e a w) → (∀ a' w', Q' .normal a' w' → (cl.contains k = true → R w') ∧ Y a' w') → wpList P ops Q' (pick ops.toList [k]) a w → wpOp P ops Q k (fun a' w' => (cl.contains k = true → R w') ∧ Y a' w') a w := by
    intro Q' q2 next h
    rw [pick_one ho] at h
    unfold wpOp
    simp only [ho]
    rw [wpList] at h
    split
    · rename_i hw
      rw [if_pos hw] at h
      rcases h with h | ⟨h1, h2⟩
      · left
        unfold Oper.wp at h ⊢
        generalize (execOp a.eval o).run P w = r at h ⊢
        cases r with
        | halt x w' => cases x <;> simp only [Oper.upon] at h ⊢; exact q2 _ _ _ (by simp) h
        | ok n w' =>
          cases n <;> simp only [Oper.upon] at h ⊢
          case enter f args =>
            refine Calls.mono h fun e w'' he => ?_
            cases e with
            | returned u => exact next _ _ he
            | panicked c => exact q2 _ _ _ (by simp) he
            | outgrown => exact hlo Q' q2 he
          case row row args => exact Rows.mono h fun u w'' he => next _ _ he
          all_goals exact next _ _ h
      · exact .inr ⟨h1, hlo Q' q2 h2⟩
    · rename_i hw
      rw [if_neg hw] at h
      exact next _ _ h
  unfold mv at h
  split at h
  · rename_i hc
    refine go _ (fun e a w he h => by cases e <;> first | exact absurd rfl he | exact h) (fun a' w' h' => ?_) h
    exact ⟨fun _ => h'.now, next _ _ (fun _ => h'.now) h'.rest⟩
  · rename_i hc
    have hc' : cl.contains k = false := by simpa using hc
    refine go _ (fun e a w he h => by cases e <;> first | exact absurd rfl he | exact h) (fun a' w' h' => ?_) h
    exact ⟨(fun e => by rw [hc'] at e; cases e), next _ _ (fun e => by rw [hc'] at e; cases e) h'⟩
theorem sound {R : World → Prop} {cl : List Nat} (hs : Region.noSelect ops = true) (hQ : ∀ c d v a w, Q (.panic c) (Act.put a d v) w → Q (.panic c) a w) :
    ∀ (p : Plan) (r : Bool) (listed : Array Bool) (a : Act) (w : World), Cl ops listed → (r = true → R w) → planB ops cl r p listed = true → Walk P ops R Q cl p a w → AnyR P ops R (cl.contains ·) Q p.len listed a w
  | .nil, r, listed, a, w, hI, hR, hB, h => ⟨by simpa [planB] using hB, h⟩
  | .q i t, r, listed, a, w, hI, hR, hB, h => by
    simp only [planB, Bool.and_eq_true] at hB
    obtain ⟨⟨⟨⟨⟨hr, hci⟩, h1⟩, h2⟩, h3⟩, h4⟩ := hB
    have hrd : i ∈ Region.ready .any ops listed := by simpa using h1
    obtain ⟨h0, o, ho, _⟩ := mem_ready.1 hrd
    simp only [Walk, ho] at h
    obtain ⟨v, hy, h⟩ := h
    refine first ho (Region.noSelect_spec hs) hQ _ listed a w hI (fun j hc hun hne => ?_) (fun e => by rw [hci] at e; cases e) (Region.free_spec ho h2) hrd hy (hR hr) (sound hs hQ t r _ _ w (hI.set hrd) hR h4 h)
    have hj : j < ops.size := by have := listed_lt hun; rw [hI.sz] at this; exact this
    have := List.all_eq_true.1 h3 j (List.mem_range.2 hj)
    simp only [hun, Bool.false_or, Bool.or_eq_true, beq_iff_eq, hne, false_or] at this
    rcases this with h | h
    · rw [hc] at h; cases h
    · simpa using h
  | .m i t, r, listed, a, w, hI, hR, hB, h => by
    simp only [planB, Bool.and_eq_true, decide_eq_true_eq] at hB
    have hi : i ∈ Region.ready .any ops listed := by rw [hB.1]; exact List.mem_singleton.2 rfl
    obtain ⟨_, o, ho, _⟩ := mem_ready.1 hi
    refine ⟨(fun h1 => by rw [hB.1] at h1; cases h1), fun k hk => ?_⟩
    rw [hB.1] at hk
    obtain rfl := List.mem_singleton.1 hk
    exact mv_wp ho (fun a' w' hr' h' => sound hs hQ t _ _ a' w' (hI.set hi) hr' hB.2 h') h
  | .fork i t j u, r, listed, a, w, hI, hR, hB, h => by
    simp only [planB, Bool.and_eq_true, decide_eq_true_eq] at hB
    obtain ⟨⟨⟨h1, h2⟩, h3⟩, h4⟩ := hB
    have hi : i ∈ Region.ready .any ops listed := by rw [h1]; simp
    have hj : j ∈ Region.ready .any ops listed := by rw [h1]; simp
    refine ⟨(fun e => by rw [h1] at e; cases e), fun k hk => ?_⟩
    rw [h1] at hk
    rcases List.mem_cons.1 hk with rfl | hk
    · obtain ⟨_, o, ho, _⟩ := mem_ready.1 hi
      exact mv_wp ho (fun a' w' hr' h' => sound hs hQ t _ _ a' w' (hI.set hi) hr' h3 h') h.1
    · obtain rfl := List.mem_singleton.1 hk
      obtain ⟨_, o, ho, _⟩ := mem_ready.1 hj
      exact mv_wp ho (fun a' w' hr' h' => by have := sound hs hQ u _ _ a' w' (hI.set hj) hr' h4 h'; rw [← h2] at this; exact this) h.2
def mufB (ops : Array Oper) (cl : List Nat) (p : Plan) : Bool := Region.noSelect ops && planB ops cl true p (Array.replicate ops.size false) && decide (p.len = ops.size)
/-- The same behind a name that nothing opens. -/
structure Wk (P : Program) (ops : Array Oper) (R : World → Prop) (Q : Exit → Act → World → Prop) (cl : List Nat) (p : Plan) (a : Act) (w : World) : Prop where
  out : Walk P ops R Q cl p a w
/-- A region whose order is drawn, walked by a plan. -/
theorem region {id : Nat} {l : List Oper} {a : Act} {w : World} (p : Plan) (cl : List Nat) (R : World → Prop) (hm : P.follows .mixedOrders = true) (hB : mufB l.toArray cl p = true)
    (hR : R w.drew) (h : Wk P l.toArray R (Mix.Calm Q) cl p a w.drew) : (Code.region id l.toArray true).wp P Q a w := by
  simp only [mufB, Bool.and_eq_true, decide_eq_true_eq] at hB
  obtain ⟨⟨hs, hh⟩, hn⟩ := hB
  have hI : Cl l.toArray (Array.replicate l.toArray.size false) := by
    refine ⟨by simp, fun i o ho hl => ?_⟩
    have := (Array.getElem?_eq_some_iff.1 ho).1
    have h2 : i < l.length := by simpa using this
    simp [Array.getD_eq_getD_getElem?, h2] at hl
  refine Code.wp_mono (Q := Mix.Calm Q) (fun e a w h => by cases e <;> first | exact h | exact h.elim) (wp_region_any hm ?_)
  have := sound (Q := Mix.Calm Q) hs (fun _ _ _ _ _ h => h) p true _ a w.drew hI (fun _ => hR) hh h.out
  have := this.to
  rw [hn] at this
  exact this
theorem quiet {R : World → Prop} {cl : List Nat} {i : Nat} {t : Plan} {o : Oper} {a : Act} {w : World} (ho : ops[i]? = some o) (v : Value) (h1 : ∀ w, R w → ∀ V : Value → Prop, V v → Tells P ops o a w V)
    (h2 : ∀ K : Act → Prop, (∀ a', Wk P ops R Q cl t a' w → K a') → K (a.put o.dst v)) : Wk P ops R Q cl (.q i t) a w := by
  refine ⟨?_⟩
  simp only [Walk, ho]
  exact ⟨v, fun w hw => Tells.at (h1 w hw _ rfl), h2 _ fun _ h => h.out⟩
structure Mv (P : Program) (ops : Array Oper) (R : World → Prop) (Q : Exit → Act → World → Prop) (cl : List Nat) (i : Nat) (t : Plan) (a : Act) (w : World) : Prop where
  out : mv P ops R Q cl i (Walk P ops R Q cl t) a w
theorem mover {R : World → Prop} {cl : List Nat} {i : Nat} {t : Plan} {a : Act} {w : World} (h : Mv P ops R Q cl i t a w) : Wk P ops R Q cl (.m i t) a w := ⟨h.out⟩
theorem fork {R : World → Prop} {cl : List Nat} {i j : Nat} {t u : Plan} {a : Act} {w : World} (h : Mv P ops R Q cl i t a w) (k : Mv P ops R Q cl j u a w) : Wk P ops R Q cl (.fork i t j u) a w := ⟨⟨h.out, k.out⟩⟩
/-- One operation, of those behind which R is not asked for. -/
theorem bare {R : World → Prop} {cl : List Nat} {i : Nat} {t : Plan} {o : Oper} {a : Act} {w : World} (ho : ops[i]? = some o) (hc : cl.contains i = false)
    (h : wpList P ops (fun e a' w' => match e with | .normal => Wk P ops R Q cl t a' w' | e => Q e a' w') [o] a w) : Mv P ops R Q cl i t a w := by
  refine ⟨?_⟩
  unfold mv
  rw [if_neg (by rw [hc]; decide), pick_one ho]
  exact one_mono (fun e a' w' h => by cases e <;> first | exact h.out | exact h) h
/-- One operation, of those behind which R is to hold. -/
theorem chk {R : World → Prop} {cl : List Nat} {i : Nat} {t : Plan} {o : Oper} {a : Act} {w : World} (ho : ops[i]? = some o) (hc : cl.contains i = true)
    (h : wpList P ops (fun e a' w' => match e with | .normal => Then R (Wk P ops R Q cl t) a' w' | e => Q e a' w') [o] a w) : Mv P ops R Q cl i t a w := by
  refine ⟨?_⟩
  unfold mv
  rw [if_pos hc, pick_one ho]
  exact one_mono (fun e a' w' h => by cases e <;> first | exact ⟨h.now, h.rest.out⟩ | exact h) h
theorem done {R : World → Prop} {cl : List Nat} {a : Act} {w : World} (h : Q .normal a w) : Wk P ops R (Mix.Calm Q) cl .nil a w := ⟨h⟩
end
end Go.Proofs.Ytegjkheecbmioaa.Muf
