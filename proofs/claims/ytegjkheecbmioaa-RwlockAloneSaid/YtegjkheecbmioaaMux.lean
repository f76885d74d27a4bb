/- A region that draws its order, walked in one order, where reading operations stand between others, too. Of no program. -/
import Derived.Test.YtegjkheecbmioaaMix
namespace Go.Proofs.Ytegjkheecbmioaa.Mux
open Go.RowKit Reg Mix
set_option linter.unusedVariables false
set_option linter.unusedSimpArgs false
section
variable {P : Program} {ops : Array Oper} {Q : Exit → Act → World → Prop}
theorem first {R : World → Prop} {C : Nat → Bool} {i : Nat} {oi : Oper} {v : Value} (hi : ops[i]? = some oi) (hsel : ∀ (j : Nat) (o : Oper) cs b, ops[j]? = some o → o.op ≠ .select cs b)
    (hQ : ∀ c d v a w, Q (.panic c) (Act.put a d v) w → Q (.panic c) a w) : ∀ (f : Nat) (listed : Array Bool) (a : Act) (w : World), Cl ops listed → (∀ j, C j = false → listed.getD j true = false → j ≠ i → i ∈ upTo ops j) → (C i = false → i ∈ upTo ops i) →
      (∀ j oj, ops[j]? = some oj → j ≠ i → listed.getD j true = false → (∀ e ∈ oj.after, Region.binds .any e = true → e.on ≠ i) → oi.apart ops oj = true) →
      i ∈ Region.ready .any ops listed → YieldsR P ops R oi v a → R w → AnyR P ops R C Q f (listed.setIfInBounds i true) (a.put oi.dst v) w → AnyR P ops R C Q (f + 1) listed a w := by
  intro f
  induction f with
  | zero =>
    intro listed a w hI _ _ _ hr hy hR H
    refine ⟨(fun h => by rw [h] at hr; cases hr), fun j hj => ?_⟩
    by_cases hji : j = i
    · subst hji
      exact yieldsAt_op hi (hy w hR) ⟨fun _ => hR, H⟩
    · have := ready_mono hj hji
      rw [H.1] at this
      cases this
  | succ f ih =>
    intro listed a w hI hC hCi hfree hr hy hR H
    refine ⟨(fun h => by rw [h] at hr; cases hr), fun j hj => ?_⟩
    by_cases hji : j = i
    · subst hji
      exact yieldsAt_op hi (hy w hR) ⟨fun _ => hR, H⟩
    · have h1 := H.2 j (ready_mono hj hji)
      have hj' := hj
      rw [mem_ready] at hj'
      obtain ⟨hjun, oj, hoj, hall⟩ := hj'
      have h0 : listed.getD i true = false := (mem_ready.1 hr).1
      have hCj : C j = true := by
        cases hc : C j with
        | true => rfl
        | false => exact (hI.waits hj (Ne.symm hji) (hC j hc hjun hji) h0).elim
      have hnot : ∀ e ∈ oj.after, Region.binds .any e = true → e.on ≠ i := fun e he hb heq => by
        have := hI.ready hoj hj i (mem_edges.2 ⟨e, he, hb, heq⟩)
        rw [h0] at this
        cases this
      have h2 := op_putR hoj (hfree j oj hoj hji hjun hnot) (fun cs b => hsel i oi cs b hi) (fun cs b => hsel j oj cs b hoj) hQ hy h1
      refine wpOp_mono (fun a' w' h3 => ?_) h2
      have hR' := h3.2.1 hCj
      have mono : ∀ k, (listed.setIfInBounds j true).getD k true = false → listed.getD k true = false := fun k hun => by
        by_cases hjk : k = j
        · subst hjk; exact hjun
        · rwa [Reg.getD_set hjk] at hun
      refine ⟨fun _ => hR', ih (listed.setIfInBounds j true) a' w' (hI.set hj) (fun k hk hun hne => hC k hk (mono k hun) hne) hCi (fun k ok hk hki hun hno => hfree k ok hk hki (mono k hun) hno) (ready_mono hr (Ne.symm hji)) h3.1 hR' ?_⟩
      rw [Array.setIfInBounds_comm _ _ hji]
      exact h3.2.2
/-- One order: (true, i): i only reads; (false, i): it may write. Behind the operations of chk R is to hold. -/
def Walk (P : Program) (ops : Array Oper) (R : World → Prop) (Q : Exit → Act → World → Prop) (chk : List Nat) : List (Bool × Nat) → Act → World → Prop
  | [], a, w => Q .normal a w
  | (true, i) :: l, a, w => match ops[i]? with
    | some o => ∃ v, YieldsR P ops R o v a ∧ Walk P ops R Q chk l (a.put o.dst v) w
    | none => False
  | (false, i) :: l, a, w => if chk.contains i then wpList P ops (fun e a' w' => match e with | .normal => Then R (Walk P ops R Q chk l) a' w' | e => Q e a' w') (pick ops.toList [i]) a w
    else wpList P ops (fun e a' w' => match e with | .normal => Walk P ops R Q chk l a' w' | e => Q e a' w') (pick ops.toList [i]) a w
def lateB (ops : Array Oper) (chk : List Nat) (i : Nat) (l : List (Bool × Nat)) : Bool := l.all fun x => x.1 || chk.contains x.2 || (upTo ops x.2).contains i
def walkB (ops : Array Oper) (chk : List Nat) : Bool → List (Bool × Nat) → Array Bool → Bool
  | _, [], listed => (Region.ready .any ops listed).isEmpty
  | r, (true, i) :: l, listed => r && (Region.ready .any ops listed).contains i && Region.free .any ops listed i && lateB ops chk i l && walkB ops chk r l (listed.setIfInBounds i true)
  | r, (false, i) :: l, listed => decide (Region.ready .any ops listed = [i]) && walkB ops chk (chk.contains i) l (listed.setIfInBounds i true)
def allB (ops : Array Oper) (listed : Array Bool) (l : List (Bool × Nat)) : Bool := (List.range ops.size).all fun j => listed.getD j true || (l.map (·.2)).contains j
def muxB (ops : Array Oper) (chk : List Nat) (l : List (Bool × Nat)) : Bool :=
  Region.noSelect ops && walkB ops chk true l (Array.replicate ops.size false) && decide (l.length = ops.size) && decide (l.map (·.2)).Nodup && (List.range ops.size).all (fun j => (l.map (·.2)).contains j)
theorem listed_lt {listed : Array Bool} {j : Nat} (h : listed.getD j true = false) : j < listed.size := by
  rcases Nat.lt_or_ge j listed.size with h1 | h1
  · exact h1
  · simp [Array.getD_eq_getD_getElem?, h1] at h
theorem sound {R : World → Prop} {chk : List Nat} {C : Nat → Bool} (hs : Region.noSelect ops = true) (hQ : ∀ c d v a w, Q (.panic c) (Act.put a d v) w → Q (.panic c) a w) :
    ∀ (l : List (Bool × Nat)) (r : Bool) (listed : Array Bool) (a : Act) (w : World), Cl ops listed → (r = true → R w) → walkB ops chk r l listed = true → (∀ j, listed.getD j true = false → j ∈ l.map (·.2)) → (∀ x ∈ l, C x.2 = (x.1 || chk.contains x.2)) → Walk P ops R Q chk l a w → AnyR P ops R C Q l.length listed a w
  | [], r, listed, a, w, hI, hR, hB, hall, hC, h => ⟨by simpa [walkB] using hB, h⟩
  | (true, i) :: l, r, listed, a, w, hI, hR, hB, hall, hC, h => by
    simp only [walkB, Bool.and_eq_true] at hB
    obtain ⟨⟨⟨⟨hr, h1⟩, h2⟩, h3⟩, h4⟩ := hB
    have hrd : i ∈ Region.ready .any ops listed := by simpa using h1
    obtain ⟨h0, o, ho, _⟩ := mem_ready.1 hrd
    simp only [Walk, ho] at h
    obtain ⟨v, hy, h⟩ := h
    have hCi : C i = true := hC (true, i) (by simp)
    refine first ho (Region.noSelect_spec hs) hQ _ listed a w hI (fun j hc hun hne => ?_) (fun e => by rw [hCi] at e; cases e) (Region.free_spec ho h2) hrd hy (hR hr) (sound hs hQ l r _ _ w (hI.set hrd) hR h4 (fun j hj => ?_) (fun x hx => hC x (by simp [hx])) h)
    · have hm := hall j hun
      simp only [List.map_cons, List.mem_cons] at hm
      rcases hm with e | hm
      · exact absurd e hne
      · obtain ⟨x, hx, rfl⟩ := List.mem_map.1 hm
        have h5 := hC x (by simp [hx])
        rw [hc] at h5
        have h6 := List.all_eq_true.1 h3 x hx
        rw [← h5, Bool.false_or] at h6
        simpa using h6
    · have hne : j ≠ i := by
        rintro rfl
        have := listed_lt hj
        simp [Array.getD_eq_getD_getElem?] at hj this
        try simp [this] at hj
      have := hall j (by rwa [Reg.getD_set hne] at hj)
      simp only [List.map_cons, List.mem_cons] at this
      rcases this with e | hm
      · exact absurd e hne
      · exact hm
  | (false, i) :: l, r, listed, a, w, hI, hR, hB, hall, hC, h => by
    simp only [walkB, Bool.and_eq_true, decide_eq_true_eq] at hB
    have hi : i ∈ Region.ready .any ops listed := by rw [hB.1]; exact List.mem_singleton.2 rfl
    obtain ⟨_, o, ho, _⟩ := mem_ready.1 hi
    refine ⟨(fun h1 => by rw [hB.1] at h1; cases h1), fun k hk => ?_⟩
    rw [hB.1] at hk
    obtain rfl := List.mem_singleton.1 hk
    have hCk : C k = chk.contains k := by have := hC (false, k) (by simp); simpa using this
    have step : ∀ (r' : Bool) a' w', walkB ops chk r' l (listed.setIfInBounds k true) = true → (r' = true → R w') → Walk P ops R Q chk l a' w' → AnyR P ops R C Q l.length (listed.setIfInBounds k true) a' w' := fun r' a' w' hb hr h' =>
      sound hs hQ l r' _ a' w' (hI.set hi) hr hb (fun j hj => by
        have hne : j ≠ k := by
          rintro rfl
          have := listed_lt hj
          simp [Array.getD_eq_getD_getElem?] at hj this
          try simp [this] at hj
        have := hall j (by rwa [Reg.getD_set hne] at hj)
        simp only [List.map_cons, List.mem_cons] at this
        rcases this with e | hm
        · exact absurd e hne
        · exact hm) (fun x hx => hC x (by simp [hx])) h'
    have hlo : ∀ (Q' : Exit → Act → World → Prop), (∀ e a w, e ≠ .normal → Q' e a w → Q e a w) → LetsOut Q' → LetsOut Q := fun Q' hq ⟨a, w, h⟩ => ⟨a, w, hq _ a w (by simp) h⟩
    have go : ∀ Q' : Exit → Act → World → Prop, (∀ e a w, e ≠ .normal → Q' e a w → Q e a w) → (∀ a' w', Q' .normal a' w' → (C k = true → R w') ∧ AnyR P ops R C Q l.length (listed.setIfInBounds k true) a' w') → wpList P ops Q' (pick ops.toList [k]) a w → wpOp P ops Q k (fun a' w' => (C k = true → R w') ∧ AnyR P ops R C Q l.length (listed.setIfInBounds k true) a' w') a w := by
      intro Q' q2 next h
      rw [pick_one ho] at h
      unfold wpOp
      simp only [ho]
      rw [wpList] at h
      split
      · rename_i hw
        rw [if_pos hw] at h
        rcases h with h | ⟨h1, h2⟩
        · left
          unfold Oper.wp at h ⊢
          generalize (execOp a.eval o).run P w = r at h ⊢
          cases r with
          | halt x w' => cases x <;> simp only [Oper.upon] at h ⊢; exact q2 _ _ _ (by simp) h
          | ok n w' =>
            cases n <;> simp only [Oper.upon] at h ⊢
            case enter f args =>
              refine Calls.mono h fun e w'' he => ?_
              cases e with
              | returned u => exact next _ _ he
              | panicked c => exact q2 _ _ _ (by simp) he
              | outgrown => exact hlo Q' q2 he
            case row row args => exact Rows.mono h fun u w'' he => next _ _ he
            all_goals exact next _ _ h
        · exact .inr ⟨h1, hlo Q' q2 h2⟩
      · rename_i hw
        rw [if_neg hw] at h
        exact next _ _ h
    simp only [Walk] at h
    split at h
    · rename_i hc
      refine go _ (fun e a w he h => by cases e <;> first | exact absurd rfl he | exact h) (fun a' w' h' => ?_) h
      exact ⟨fun _ => h'.now, step _ a' w' hB.2 (fun _ => h'.now) h'.rest⟩
    · rename_i hc
      have hc' : chk.contains k = false := by simpa using hc
      refine go _ (fun e a w he h => by cases e <;> first | exact absurd rfl he | exact h) (fun a' w' h' => ?_) h
      exact ⟨(fun e => by rw [hCk, hc'] at e; cases e), step _ a' w' hB.2 (fun e => by rw [hc'] at e; cases e) h'⟩
theorem snd_inj {l : List (Bool × Nat)} (hn : (l.map (·.2)).Nodup) {x y : Bool × Nat} (hx : x ∈ l) (hy : y ∈ l) (h : x.2 = y.2) : x = y := by
  induction l with
  | nil => cases hx
  | cons z l ih =>
    rw [List.map_cons, List.nodup_cons] at hn
    rcases List.mem_cons.1 hx with e1 | h1
    · rcases List.mem_cons.1 hy with e2 | h2
      · rw [e1, e2]
      · exact absurd (List.mem_map.2 ⟨y, h2, by rw [← h, e1]⟩) hn.1
    · rcases List.mem_cons.1 hy with e2 | h2
      · exact absurd (List.mem_map.2 ⟨x, h1, by rw [h, e2]⟩) hn.1
      · exact ih hn.2 h1 h2
/-- A region whose order is drawn, walked in one order. -/
theorem region {id : Nat} {l : List Oper} {a : Act} {w : World} (ord : List (Bool × Nat)) (chk : List Nat) (R : World → Prop) (hm : P.follows .mixedOrders = true) (hB : muxB l.toArray chk ord = true)
    (hR : R w.drew) (h : Walk P l.toArray R (Mix.Calm Q) chk ord a w.drew) : (Code.region id l.toArray true).wp P Q a w := by
  simp only [muxB, Bool.and_eq_true, decide_eq_true_eq] at hB
  obtain ⟨⟨⟨⟨hs, hh⟩, hn⟩, huniq⟩, hall⟩ := hB
  have hI : Cl l.toArray (Array.replicate l.toArray.size false) := by
    refine ⟨by simp, fun i o ho hl => ?_⟩
    have := (Array.getElem?_eq_some_iff.1 ho).1
    have h2 : i < l.length := by simpa using this
    simp [Array.getD_eq_getD_getElem?, h2] at hl
  refine Code.wp_mono (Q := Mix.Calm Q) (fun e a w h => by cases e <;> first | exact h | exact h.elim) (wp_region_any hm ?_)
  let C : Nat → Bool := fun j => ord.any fun x => x.2 == j && (x.1 || chk.contains j)
  have hC : ∀ x ∈ ord, C x.2 = (x.1 || chk.contains x.2) := by
    intro x hx
    rw [Bool.eq_iff_iff]
    show (ord.any fun y => y.2 == x.2 && (y.1 || chk.contains x.2)) = true ↔ _
    rw [List.any_eq_true]
    constructor
    · rintro ⟨y, hy, h⟩
      simp only [Bool.and_eq_true, beq_iff_eq] at h
      have : y = x := by
        exact snd_inj huniq hy hx h.1
      rw [this] at h
      exact h.2
    · intro h
      exact ⟨x, hx, by simp only [beq_self_eq_true, Bool.true_and]; exact h⟩
  have := sound (Q := Mix.Calm Q) (C := C) hs (fun _ _ _ _ _ h => h) ord true _ a w.drew hI (fun _ => hR) hh (fun j hj => by
    have hj2 := listed_lt hj
    have h2 := List.all_eq_true.1 hall j (by simpa using hj2)
    simpa using h2) hC h
  have := this.to
  rw [hn] at this
  exact this
theorem quiet {R : World → Prop} {chk : List Nat} {i : Nat} {l : List (Bool × Nat)} {o : Oper} {a : Act} {w : World} (ho : ops[i]? = some o) (v : Value) (h1 : ∀ w, R w → ∀ V : Value → Prop, V v → Tells P ops o a w V)
    (h2 : ∀ K : Act → Prop, (∀ a', Walk P ops R Q chk l a' w → K a') → K (a.put o.dst v)) : Walk P ops R Q chk ((true, i) :: l) a w := by
  simp only [Walk, ho]
  exact ⟨v, fun w hw => Tells.at (h1 w hw _ rfl), h2 _ fun _ h => h⟩
theorem mover {R : World → Prop} {chk : List Nat} {i : Nat} {l : List (Bool × Nat)} {o : Oper} {a : Act} {w : World} (ho : ops[i]? = some o) (hc : chk.contains i = false)
    (h : wpList P ops (fun e a' w' => match e with | .normal => Walk P ops R Q chk l a' w' | e => Q e a' w') [o] a w) : Walk P ops R Q chk ((false, i) :: l) a w := by
  simp only [Walk, hc]
  rw [pick_one ho]
  exact h
theorem mover_chk {R : World → Prop} {chk : List Nat} {i : Nat} {l : List (Bool × Nat)} {o : Oper} {a : Act} {w : World} (ho : ops[i]? = some o) (hc : chk.contains i = true)
    (h : wpList P ops (fun e a' w' => match e with | .normal => Then R (Walk P ops R Q chk l) a' w' | e => Q e a' w') [o] a w) : Walk P ops R Q chk ((false, i) :: l) a w := by
  simp only [Walk, hc]
  rw [pick_one ho]
  exact h
theorem done {R : World → Prop} {chk : List Nat} {a : Act} {w : World} (h : Q .normal a w) : Walk P ops R (Mix.Calm Q) chk [] a w := h
/-- The same behind a name that nothing opens: whoever looks into a goal (Walk ..) may run the program. -/
structure Wk (P : Program) (ops : Array Oper) (R : World → Prop) (Q : Exit → Act → World → Prop) (chk : List Nat) (l : List (Bool × Nat)) (a : Act) (w : World) : Prop where
  out : Walk P ops R Q chk l a w
theorem regionS {id : Nat} {l : List Oper} {a : Act} {w : World} (ord : List (Bool × Nat)) (chk : List Nat) (R : World → Prop) (hm : P.follows .mixedOrders = true) (hB : muxB l.toArray chk ord = true)
    (hR : R w.drew) (h : Wk P l.toArray R (Mix.Calm Q) chk ord a w.drew) : (Code.region id l.toArray true).wp P Q a w := region ord chk R hm hB hR h.out
theorem quietS {R : World → Prop} {chk : List Nat} {i : Nat} {l : List (Bool × Nat)} {o : Oper} {a : Act} {w : World} (ho : ops[i]? = some o) (v : Value) (h1 : ∀ w, R w → ∀ V : Value → Prop, V v → Tells P ops o a w V)
    (h2 : ∀ K : Act → Prop, (∀ a', Wk P ops R Q chk l a' w → K a') → K (a.put o.dst v)) : Wk P ops R Q chk ((true, i) :: l) a w :=
  ⟨quiet ho v h1 fun K hK => h2 K fun a' h => hK a' h.out⟩
theorem one_mono {o : Oper} {Q Q' : Exit → Act → World → Prop} {a : Act} {w : World} (hq : ∀ e a w, Q e a w → Q' e a w) (h : wpList P ops Q [o] a w) : wpList P ops Q' [o] a w := by
  have hlo : LetsOut Q → LetsOut Q' := fun ⟨a, w, h⟩ => ⟨a, w, hq _ a w h⟩
  have hn : ∀ a w, wpList P ops Q [] a w → wpList P ops Q' [] a w := fun a w h => hq _ a w h
  rw [wpList] at h ⊢
  split
  · rename_i hw
    rw [if_pos hw] at h
    rcases h with h | ⟨h1, h2⟩
    · left
      unfold Oper.wp at h ⊢
      generalize (execOp a.eval o).run P w = r at h ⊢
      cases r with
      | halt x w' => cases x <;> simp only [Oper.upon] at h ⊢ <;> exact hq _ _ _ h
      | ok n w' =>
        cases n <;> simp only [Oper.upon] at h ⊢
        case enter f args =>
          refine Calls.mono h fun e w'' he => ?_
          cases e with
          | returned u => exact hn _ _ he
          | panicked c => exact hq _ _ _ he
          | outgrown => exact hlo he
        case row row args => exact Rows.mono h fun u w'' he => hn _ _ he
        all_goals exact hn _ _ h
    · exact .inr ⟨h1, hlo h2⟩
  · rename_i hw
    rw [if_neg hw] at h
    exact hn _ _ h
theorem moverS {R : World → Prop} {chk : List Nat} {i : Nat} {l : List (Bool × Nat)} {o : Oper} {a : Act} {w : World} (ho : ops[i]? = some o) (hc : chk.contains i = false)
    (h : wpList P ops (fun e a' w' => match e with | .normal => Wk P ops R Q chk l a' w' | e => Q e a' w') [o] a w) : Wk P ops R Q chk ((false, i) :: l) a w := by
  refine ⟨mover ho hc (one_mono (fun e a' w' h => ?_) h)⟩
  cases e with
  | normal => exact h.out
  | _ => exact h
theorem mover_chkS {R : World → Prop} {chk : List Nat} {i : Nat} {l : List (Bool × Nat)} {o : Oper} {a : Act} {w : World} (ho : ops[i]? = some o) (hc : chk.contains i = true)
    (h : wpList P ops (fun e a' w' => match e with | .normal => Then R (Wk P ops R Q chk l) a' w' | e => Q e a' w') [o] a w) : Wk P ops R Q chk ((false, i) :: l) a w := by
  refine ⟨mover_chk ho hc (one_mono (fun e a' w' h => ?_) h)⟩
  cases e with
  | normal => exact ⟨h.now, h.rest.out⟩
  | _ => exact h
theorem doneS {R : World → Prop} {chk : List Nat} {a : Act} {w : World} (h : Q .normal a w) : Wk P ops R (Mix.Calm Q) chk [] a w := ⟨done h⟩
end
end Go.Proofs.Ytegjkheecbmioaa.Mux
