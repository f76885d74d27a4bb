/- A region that draws its order, walked in one order: operations that only read are taken first, wherever they may come; the others come one behind the other. Of no program. -/
import Derived.Test.YtegjkheecbmioaaReg
import Derived.Still
namespace Go.Proofs.Ytegjkheecbmioaa.Mix
open Go.RowKit Reg
set_option linter.unusedVariables false
set_option linter.unusedSimpArgs false

/-- What a reading operation comes to. -/
def Told (P : Program) (V : Value → Prop) (w : World) : Result Next → Prop
  | .ok (.value v) w' => w' = w ∧ V v
  | .ok .skip w' => w' = w ∧ V undef
  | .ok (.enter f args) w' => w' = w ∧ ∃ v, Calls P f args w (fun e w'' => e = .returned v ∧ w'' = w) ∧ V v
  | _ => False
def Tells (P : Program) (ops : Array Oper) (o : Oper) (a : Act) (w : World) (V : Value → Prop) : Prop :=
  if Region.wanted o (yielded ops a.tmps) then Told P V w ((execOp a.eval o).run P w) else V undef
theorem Tells.at {P : Program} {ops : Array Oper} {o : Oper} {a : Act} {w : World} {v : Value} (h : Tells P ops o a w (· = v)) : YieldsAt P ops w o v a := by
  unfold Tells at h
  by_cases hw : Region.wanted o (yielded ops a.tmps) = true
  · rw [if_pos hw] at h
    generalize hr : (execOp a.eval o).run P w = r at h
    cases r with
    | halt x w' => exact h.elim
    | ok n w' =>
      cases n
      case value u => obtain ⟨rfl, rfl⟩ := h; exact .inl ⟨hw, .inl hr⟩
      case skip => obtain ⟨rfl, e⟩ := h; exact .inl ⟨hw, .inr (.inl ⟨hr, e.symm⟩)⟩
      case enter f args => obtain ⟨rfl, u, hc, rfl⟩ := h; exact .inl ⟨hw, .inr (.inr ⟨f, args, hr, hc⟩)⟩
      all_goals exact h.elim
  · rw [if_neg hw] at h
    exact .inr ⟨by simpa using hw, h.symm⟩
section
variable {P : Program} {ops : Array Oper} {Q : Exit → Act → World → Prop}
/-- In all worlds of R the operation yields v. -/
def YieldsR (P : Program) (ops : Array Oper) (R : World → Prop) (o : Oper) (v : Value) (a : Act) : Prop := ∀ w, R w → YieldsAt P ops w o v a
theorem yieldsAt_op {i : Nat} {o : Oper} {v : Value} {a : Act} {w : World} (hi : ops[i]? = some o) (hy : YieldsAt P ops w o v a) {K : Act → World → Prop} (h : K (a.put o.dst v) w) : wpOp P ops Q i K a w := by
  unfold wpOp
  simp only [hi]
  rcases hy with ⟨hw, hv⟩ | ⟨hw, rfl⟩
  · rw [if_pos hw]
    left
    unfold Oper.wp
    rcases hv with hv | ⟨hv, rfl⟩ | ⟨f, args, hv, hc⟩
    · rw [hv]; exact h
    · rw [hv]; exact h
    · rw [hv, Oper.upon_enter]
      refine hc.mono ?_
      rintro e w' ⟨rfl, rfl⟩
      exact h
  · rw [if_neg (by simp [hw])]
    exact h
theorem op_putR {R : World → Prop} {j : Nat} {oi oj : Oper} {v : Value} (hj : ops[j]? = some oj) (hap : oi.apart ops oj = true) (hsi : ∀ cs b, oi.op ≠ .select cs b) (hsj : ∀ cs b, oj.op ≠ .select cs b)
    (hQ : ∀ c d v a w, Q (.panic c) (Act.put a d v) w → Q (.panic c) a w) {K : Act → World → Prop} {a : Act} {w : World} (hy : YieldsR P ops R oi v a) (h : wpOp P ops Q j K (a.put oi.dst v) w) :
    wpOp P ops Q j (fun a' w' => YieldsR P ops R oi v a' ∧ K (a'.put oi.dst v) w') a w := by
  obtain ⟨g1, g2, g3⟩ := Oper.apart_spec hap
  have stays : ∀ (b : Act), YieldsR P ops R oi v b → ∀ u, YieldsR P ops R oi v (b.put oj.dst u) := fun b hb u w' hw' =>
    (hb w' hw').of_same (execOp_put oi hsi b oj.dst u g3) (wanted_put oi b oj.dst u g3)
  have staysD : ∀ d, YieldsR P ops R oi v { a with defers := d :: a.defers } := fun d w' hw' => (hy w' hw').of_same rfl rfl
  unfold wpOp at h ⊢
  simp only [hj] at h ⊢
  rw [wanted_put oj a oi.dst v g1] at h
  by_cases hw : Region.wanted oj (yielded ops a.tmps) = true
  · rw [if_pos hw] at h ⊢
    rcases h with h | ⟨hasks, hlets⟩
    · left
      unfold Oper.wp at h ⊢
      rw [execOp_put oj hsj a oi.dst v g1] at h
      generalize (execOp a.eval oj).run P w = r at h ⊢
      have swap : ∀ u w', K ((a.put oi.dst v).put oj.dst u) w' → YieldsR P ops R oi v (a.put oj.dst u) ∧ K ((a.put oj.dst u).put oi.dst v) w' := fun u w' hk => ⟨stays a hy u, by rw [← Act.put_comm a v u g2]; exact hk⟩
      cases r with
      | halt x w' => cases x <;> simp only [Oper.upon] at h ⊢; exact hQ _ _ _ _ _ h
      | ok n w' =>
        cases n <;> simp only [Oper.upon] at h ⊢
        case value u => exact swap u w' h
        case skip => exact swap _ w' h
        case defer d =>
          refine ⟨stays _ (staysD d) _, ?_⟩
          rw [← Act.put_comm _ v undef g2, ← Act.put_defers]
          exact h
        case enter f args =>
          refine Calls.mono h fun e w'' he => ?_
          cases e with
          | returned u => exact swap u w'' he
          | panicked c => exact hQ _ _ _ _ _ he
          | outgrown => exact he
        case row row args => exact Rows.mono h fun u w'' he => swap u w'' he
    · exact .inr ⟨by unfold Oper.asks at hasks ⊢; rw [execOp_put oj hsj a oi.dst v g1] at hasks; exact hasks, hlets⟩
  · rw [if_neg hw] at h ⊢
    exact ⟨stays a hy _, by rw [← Act.put_comm a v undef g2]; exact h⟩
/-- All orders, where R is to hold behind the operations of C. -/
def AnyR (P : Program) (ops : Array Oper) (R : World → Prop) (C : Nat → Bool) (Q : Exit → Act → World → Prop) : Nat → Array Bool → Act → World → Prop
  | 0, listed, a, w => Region.ready .any ops listed = [] ∧ Q .normal a w
  | f + 1, listed, a, w => (Region.ready .any ops listed = [] → Q .normal a w) ∧
    ∀ i ∈ Region.ready .any ops listed, wpOp P ops Q i (fun a' w' => (C i = true → R w') ∧ AnyR P ops R C Q f (listed.setIfInBounds i true) a' w') a w
theorem AnyR.to {R : World → Prop} {C : Nat → Bool} : ∀ (f : Nat) (listed : Array Bool) (a : Act) (w : World), AnyR P ops R C Q f listed a w → wpAny P .any ops Q f listed a w
  | 0, _, _, _, h => h
  | f + 1, _, _, _, h => ⟨h.1, fun i hi => wpOp_mono (fun a' w' h' => AnyR.to f _ a' w' h'.2) (h.2 i hi)⟩
structure Cl (ops : Array Oper) (listed : Array Bool) : Prop where
  sz : listed.size = ops.size
  closed : ∀ i o, ops[i]? = some o → listed.getD i true = true → ∀ j ∈ edgesOf o, listed.getD j true = true
theorem Cl.ready {listed : Array Bool} (hI : Cl ops listed) {i : Nat} {o : Oper} (ho : ops[i]? = some o) (hi : i ∈ Region.ready .any ops listed) : ∀ j ∈ edgesOf o, listed.getD j true = true := by
  rw [mem_ready] at hi
  obtain ⟨h0, o', ho', hall⟩ := hi
  obtain rfl : o = o' := Option.some.inj (ho.symm.trans ho')
  intro j hj
  obtain ⟨e, he, hb, rfl⟩ := mem_edges.1 hj
  have := hall e he hb
  have hs : e.on < listed.size := by
    rcases Nat.lt_or_ge e.on listed.size with h | h
    · exact h
    · simp [Array.getD_eq_getD_getElem?, h] at this
  simpa [Array.getD_eq_getD_getElem?, hs] using this
theorem Cl.set {listed : Array Bool} (hI : Cl ops listed) {i : Nat} (hi : i ∈ Region.ready .any ops listed) : Cl ops (listed.setIfInBounds i true) := by
  refine ⟨by simp [hI.sz], fun k ok hk hl j hj => ?_⟩
  have hset : ∀ j, listed.getD j true = true → (listed.setIfInBounds i true).getD j true = true := by
    intro j h
    by_cases e : j = i
    · subst e
      by_cases hjs : j < listed.size
      · simp [Array.getD_eq_getD_getElem?, hjs]
      · simp [Array.getD_eq_getD_getElem?, hjs]
    · rw [Reg.getD_set e]; exact h
  by_cases e : k = i
  · subst e
    exact hset j (hI.ready hk hi j hj)
  · rw [Reg.getD_set e] at hl
    exact hset j (hI.closed k ok hk hl j hj)
/-- What waits for i, through others or not, isn't ready ahead of it. -/
theorem Cl.waits {listed : Array Bool} (hI : Cl ops listed) {i j : Nat} (hj : j ∈ Region.ready .any ops listed) (hij : i ≠ j) (hu : i ∈ upTo ops j) (h0 : listed.getD i true = false) : False := by
  have hj' := hj
  rw [mem_ready] at hj'
  obtain ⟨_, o, ho, _⟩ := hj'
  have := ancs_listed (ops := ops) (listed := fun k => k = j ∨ listed.getD k true = true) (fun k ok hk hl m hm => by
    rcases hl with rfl | hl
    · rw [ho] at hk
      obtain rfl := Option.some.inj hk
      exact .inr (hI.ready ho hj m hm)
    · exact .inr (hI.closed k ok hk hl m hm)) ops.size [j] (fun k hk => .inl (List.mem_singleton.1 hk)) i hu
  rcases this with h | h
  · exact hij h
  · rw [h0] at h; cases h
theorem AnyR.first {R : World → Prop} {C : Nat → Bool} {i : Nat} {oi : Oper} {v : Value} (hi : ops[i]? = some oi) (hsel : ∀ (j : Nat) (o : Oper) cs b, ops[j]? = some o → o.op ≠ .select cs b)
    (hQ : ∀ c d v a w, Q (.panic c) (Act.put a d v) w → Q (.panic c) a w) (hC : ∀ j, C j = false → j < ops.size → j ≠ i ∧ i ∈ upTo ops j) : ∀ (f : Nat) (listed : Array Bool) (a : Act) (w : World), Cl ops listed →
      (∀ j oj, ops[j]? = some oj → j ≠ i → listed.getD j true = false → (∀ e ∈ oj.after, Region.binds .any e = true → e.on ≠ i) → oi.apart ops oj = true) →
      i ∈ Region.ready .any ops listed → YieldsR P ops R oi v a → R w → AnyR P ops R C Q f (listed.setIfInBounds i true) (a.put oi.dst v) w → AnyR P ops R C Q (f + 1) listed a w := by
  intro f
  induction f with
  | zero =>
    intro listed a w hI _ hr hy hR H
    refine ⟨(fun h => by rw [h] at hr; cases hr), fun j hj => ?_⟩
    by_cases hji : j = i
    · subst hji
      exact yieldsAt_op hi (hy w hR) ⟨fun _ => hR, H⟩
    · have := ready_mono hj hji
      rw [H.1] at this
      cases this
  | succ f ih =>
    intro listed a w hI hfree hr hy hR H
    refine ⟨(fun h => by rw [h] at hr; cases hr), fun j hj => ?_⟩
    by_cases hji : j = i
    · subst hji
      exact yieldsAt_op hi (hy w hR) ⟨fun _ => hR, H⟩
    · have h1 := H.2 j (ready_mono hj hji)
      have hj' := hj
      rw [mem_ready] at hj'
      obtain ⟨hjun, oj, hoj, hall⟩ := hj'
      have h0 : listed.getD i true = false := (mem_ready.1 hr).1
      have hlt : j < ops.size := (Array.getElem?_eq_some_iff.1 hoj).1
      have hCj : C j = true := by
        cases hc : C j with
        | true => rfl
        | false => obtain ⟨_, hu⟩ := hC j hc hlt; exact (hI.waits hj (Ne.symm hji) hu h0).elim
      have hnot : ∀ e ∈ oj.after, Region.binds .any e = true → e.on ≠ i := fun e he hb heq => by
        have := hI.ready hoj hj i (mem_edges.2 ⟨e, he, hb, heq⟩)
        rw [h0] at this
        cases this
      have h2 := op_putR hoj (hfree j oj hoj hji hjun hnot) (fun cs b => hsel i oi cs b hi) (fun cs b => hsel j oj cs b hoj) hQ hy h1
      refine wpOp_mono (fun a' w' h3 => ?_) h2
      have hR' := h3.2.1 hCj
      refine ⟨fun _ => hR', ih (listed.setIfInBounds j true) a' w' (hI.set hj) (fun k ok hk hki hun hno => ?_) (ready_mono hr (Ne.symm hji)) h3.1 hR' ?_⟩
      · refine hfree k ok hk hki ?_ hno
        by_cases hjk : k = j
        · subst hjk; exact hjun
        · rwa [Reg.getD_set hjk] at hun
      · rw [Array.setIfInBounds_comm _ _ hji]
        exact h3.2.2
/-- Reading operations, in one order, and then the rest. -/
def Head (P : Program) (ops : Array Oper) (R : World → Prop) (T : Act → Prop) : List Nat → Act → Prop
  | [], a => T a
  | i :: l, a => match ops[i]? with
    | some o => ∃ v, YieldsR P ops R o v a ∧ Head P ops R T l (a.put o.dst v)
    | none => False
def pick (l : List Oper) : List Nat → List Oper
  | [] => []
  | i :: r => match l[i]? with
    | some o => o :: pick l r
    | none => pick l r
/-- What is to be shown behind an operation behind which R is to hold: R, and the rest. -/
structure Then (R : World → Prop) (X : Act → World → Prop) (a : Act) (w : World) : Prop where
  now : R w
  rest : X a w
def Tail (P : Program) (ops : Array Oper) (R : World → Prop) (Q : Exit → Act → World → Prop) : Nat → List Nat → Act → World → Prop
  | 0, tl, a, w => wpList P ops Q (pick ops.toList tl) a w
  | _ + 1, [], a, w => Q .normal a w
  | m + 1, i :: tl, a, w => wpList P ops (fun e a' w' => match e with | .normal => Then R (Tail P ops R Q m tl) a' w' | e => Q e a' w') (pick ops.toList [i]) a w
def readyAll (ops : Array Oper) (listed : Array Bool) : List Nat → Bool
  | [] => (Region.ready .any ops listed).isEmpty
  | i :: tl => decide (Region.ready .any ops listed = [i]) && readyAll ops (listed.setIfInBounds i true) tl
def headB (ops : Array Oper) (tl : List Nat) : List Nat → Array Bool → Bool
  | [], listed => readyAll ops listed tl
  | i :: hd, listed => (Region.ready .any ops listed).contains i && Region.free .any ops listed i && headB ops tl hd (listed.setIfInBounds i true)
def lateB (ops : Array Oper) (hd late : List Nat) : Bool := late.all fun j => hd.all fun i => j != i && (upTo ops j).contains i
def mixB (ops : Array Oper) (hd tl : List Nat) (m : Nat) : Bool :=
  Region.noSelect ops && headB ops tl hd (Array.replicate ops.size false) && lateB ops hd (tl.drop m) && decide ((hd ++ tl).length = ops.size) && (List.range ops.size).all (fun j => (hd ++ tl).contains j)
theorem pick_one {i : Nat} {o : Oper} (h : ops[i]? = some o) (r : List Nat) : pick ops.toList (i :: r) = o :: pick ops.toList r := by
  have : ops.toList[i]? = some o := by simpa using h
  simp [pick, this]
theorem AnyR.tail {R : World → Prop} {C : Nat → Bool} : ∀ (m : Nat) (tl : List Nat) (listed : Array Bool) (a : Act) (w : World), readyAll ops listed tl = true → (∀ j ∈ tl.drop m, C j = false) → Tail P ops R Q m tl a w → AnyR P ops R C Q tl.length listed a w
  | m, [], listed, a, w, hB, _, h => by
    have hr : Region.ready .any ops listed = [] := by simpa [readyAll] using hB
    cases m with
    | zero => exact ⟨hr, by simpa [Tail, pick, wpList] using h⟩
    | succ m => exact ⟨hr, h⟩
  | 0, i :: tl, listed, a, w, hB, hC, h => by
    simp only [readyAll, Bool.and_eq_true, decide_eq_true_eq] at hB
    have hi : i ∈ Region.ready .any ops listed := by rw [hB.1]; exact List.mem_singleton.2 rfl
    obtain ⟨_, o, ho, _⟩ := mem_ready.1 hi
    refine ⟨(fun h1 => by rw [hB.1] at h1; cases h1), fun k hk => ?_⟩
    rw [hB.1] at hk
    obtain rfl := List.mem_singleton.1 hk
    rw [Tail, pick_one ho] at h
    have hw : wpOp P ops Q k (wpList P ops Q (pick ops.toList tl)) a w := by unfold wpOp; simp only [ho]; exact h
    refine wpOp_mono (fun a' w' h' => ⟨fun hc => ?_, ?_⟩) hw
    · rw [hC k (by simp)] at hc; cases hc
    · exact AnyR.tail 0 tl _ a' w' hB.2 (fun j hj => hC j (by simp at hj ⊢; exact .inr hj)) (by rw [Tail]; exact h')
  | m + 1, i :: tl, listed, a, w, hB, hC, h => by
    simp only [readyAll, Bool.and_eq_true, decide_eq_true_eq] at hB
    have hi : i ∈ Region.ready .any ops listed := by rw [hB.1]; exact List.mem_singleton.2 rfl
    obtain ⟨_, o, ho, _⟩ := mem_ready.1 hi
    refine ⟨(fun h1 => by rw [hB.1] at h1; cases h1), fun k hk => ?_⟩
    rw [hB.1] at hk
    obtain rfl := List.mem_singleton.1 hk
    rw [Tail, pick_one ho] at h
    have hlo : ∀ (Q' : Exit → Act → World → Prop), (∀ e a w, e ≠ .normal → Q' e a w → Q e a w) → LetsOut Q' → LetsOut Q := fun Q' hq ⟨a, w, h⟩ => ⟨a, w, hq _ a w (by simp) h⟩
    generalize hQ' : (fun e a' w' => match e with | .normal => Then R (Tail P ops R Q m tl) a' w' | e => Q e a' w' : Exit → Act → World → Prop) = Q' at h
    have q1 : ∀ a w, Q' .normal a w → Then R (Tail P ops R Q m tl) a w := fun a w h => by rw [← hQ'] at h; exact h
    have q2 : ∀ e a w, e ≠ .normal → Q' e a w → Q e a w := fun e a w he h => by rw [← hQ'] at h; cases e <;> first | exact absurd rfl he | exact h
    have next : ∀ a' w', wpList P ops Q' (pick ops.toList []) a' w' → (C k = true → R w') ∧ AnyR P ops R C Q tl.length (listed.setIfInBounds k true) a' w' := fun a' w' h' => by
      have h2 := q1 a' w' h'
      exact ⟨fun _ => h2.now, AnyR.tail m tl _ a' w' hB.2 (fun j hj => hC j (by simpa using hj)) h2.rest⟩
    unfold wpOp
    simp only [ho]
    rw [wpList] at h
    split
    · rename_i hw
      rw [if_pos hw] at h
      rcases h with h | ⟨h1, h2⟩
      · left
        unfold Oper.wp at h ⊢
        generalize (execOp a.eval o).run P w = r at h ⊢
        cases r with
        | halt x w' => cases x <;> simp only [Oper.upon] at h ⊢; exact q2 _ _ _ (by simp) h
        | ok n w' =>
          cases n <;> simp only [Oper.upon] at h ⊢
          case enter f args =>
            refine Calls.mono h fun e w'' he => ?_
            cases e with
            | returned u => exact next _ _ he
            | panicked c => exact q2 _ _ _ (by simp) he
            | outgrown => exact hlo Q' q2 he
          case row row args => exact Rows.mono h fun u w'' he => next _ _ he
          all_goals exact next _ _ h
      · exact .inr ⟨h1, hlo Q' q2 h2⟩
    · rename_i hw
      rw [if_neg hw] at h
      exact next _ _ h
theorem AnyR.head {R : World → Prop} {C : Nat → Bool} {m : Nat} {tl : List Nat} (hs : Region.noSelect ops = true) (hQ : ∀ c d v a w, Q (.panic c) (Act.put a d v) w → Q (.panic c) a w) (hCt : ∀ j ∈ tl.drop m, C j = false) {w : World} (hR : R w) :
    ∀ (hd : List Nat) (listed : Array Bool) (a : Act), Cl ops listed → headB ops tl hd listed = true → (∀ i ∈ hd, ∀ j, C j = false → j < ops.size → j ≠ i ∧ i ∈ upTo ops j) → Head P ops R (fun a' => Tail P ops R Q m tl a' w) hd a → AnyR P ops R C Q (hd.length + tl.length) listed a w
  | [], listed, a, _, hB, _, h => by
    rw [List.length_nil, Nat.zero_add]
    exact AnyR.tail m tl listed a w hB hCt h
  | i :: hd, listed, a, hI, hB, hC, h => by
    simp only [headB, Bool.and_eq_true] at hB
    obtain ⟨⟨h1, h2⟩, h3⟩ := hB
    have hr : i ∈ Region.ready .any ops listed := by simpa using h1
    obtain ⟨_, o, ho, _⟩ := mem_ready.1 hr
    simp only [Head, ho] at h
    obtain ⟨v, hy, h⟩ := h
    rw [List.length_cons, show hd.length + 1 + tl.length = hd.length + tl.length + 1 by omega]
    exact AnyR.first ho (Region.noSelect_spec hs) hQ (hC i (by simp)) _ listed a w hI (Region.free_spec ho h2) hr hy hR (AnyR.head hs hQ hCt hR hd _ _ (hI.set hr) h3 (fun k hk => hC k (by simp [hk])) h)
/-- Q, but no panic. -/
def Calm (Q : Exit → Act → World → Prop) (e : Exit) (a : Act) (w : World) : Prop := match e with
  | .panic _ => False
  | e => Q e a w
theorem calm_end {Q : Exit → Act → World → Prop} {a : Act} {w : World} (h : Q .normal a w) : Calm Q .normal a w := h
/-- A region whose order is drawn: operations that only read (hd), in any worlds of R, and then the others, which wait for one another; behind the first m of these R is to hold. -/
theorem region {id : Nat} {l : List Oper} {a : Act} {w : World} (hd tl : List Nat) (m : Nat) (R : World → Prop) (hm : P.follows .mixedOrders = true) (hB : mixB l.toArray hd tl m = true)
    (hR : R w.drew) (h : Head P l.toArray R (fun a' => Tail P l.toArray R (Calm Q) m tl a' w.drew) hd a) : (Code.region id l.toArray true).wp P Q a w := by
  simp only [mixB, Bool.and_eq_true, decide_eq_true_eq] at hB
  obtain ⟨⟨⟨⟨hs, hh⟩, hl⟩, hn⟩, hall⟩ := hB
  have hI : Cl l.toArray (Array.replicate l.toArray.size false) := by
    refine ⟨by simp, fun i o ho hl => ?_⟩
    have := (Array.getElem?_eq_some_iff.1 ho).1
    have h2 : i < l.length := by simpa using this
    simp [Array.getD_eq_getD_getElem?, h2] at hl
  have hlate : ∀ i ∈ hd, ∀ j ∈ tl.drop m, j ≠ i ∧ i ∈ upTo l.toArray j := by
    intro i hi j hj
    have := List.all_eq_true.1 (List.all_eq_true.1 hl j hj) i hi
    simpa using this
  refine Code.wp_mono (Q := Calm Q) (fun e a w h => by cases e <;> first | exact h | exact h.elim) (wp_region_any hm ?_)
  have := AnyR.head (Q := Calm Q) (C := fun j => !(tl.drop m).contains j) (w := w.drew) hs (fun _ _ _ _ _ h => h) (fun j hj => by simp [hj]) hR hd _ a hI hh (fun i hi j hc hj => hlate i hi j (by simpa using hc)) h
  have := this.to
  rw [show hd.length + tl.length = l.toArray.size by rw [← hn, List.length_append]] at this
  exact this
/-- One reading operation of the head. -/
theorem step {R : World → Prop} {T : Act → Prop} {i : Nat} {hd : List Nat} {o : Oper} {a : Act} (ho : ops[i]? = some o) (v : Value) (h1 : ∀ w, R w → ∀ V : Value → Prop, V v → Tells P ops o a w V)
    (h2 : ∀ K : Act → Prop, (∀ a', Head P ops R T hd a' → K a') → K (a.put o.dst v)) : Head P ops R T (i :: hd) a := by
  simp only [Head, ho]
  exact ⟨v, fun w hw => Tells.at (h1 w hw _ rfl), h2 _ fun _ h => h⟩
theorem nil {R : World → Prop} {T : Act → Prop} {a : Act} (h : T a) : Head P ops R T [] a := h
end
attribute [go_sem] Tells Told
end Go.Proofs.Ytegjkheecbmioaa.Mix
