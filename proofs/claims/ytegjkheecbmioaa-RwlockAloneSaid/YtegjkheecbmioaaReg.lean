/- A region that draws its order, walked once: each operation's own fact holds in whatever order the operations come. Of no program. -/
import Derived.Test.YtegjkheecbmioaaMem
import Derived.Orders
namespace Go.Proofs.Ytegjkheecbmioaa.Reg
open Go.RowKit
set_option linter.unusedVariables false
set_option linter.unusedSimpArgs false

def slotV (o : Oper) (a : Act) : Value := match o.dst with | some d => a.tmps.getD d undef | none => undef
def edgesOf (o : Oper) : List Nat := o.after.toList.filterMap fun e => if Region.binds .any e then some e.on else none
def dsts (ops : Array Oper) : List Nat := ops.toList.filterMap (·.dst)
def ancs (ops : Array Oper) : Nat → List Nat → List Nat
  | 0, l => l
  | k + 1, l => ancs ops k (l ++ l.flatMap fun j => match ops[j]? with | some o => edgesOf o | none => [])
/-- u, and all that it waits for. -/
def upTo (ops : Array Oper) (u : Nat) : List Nat := ancs ops ops.size [u]
def backB (ops : Array Oper) : Bool := ops.toList.zipIdx.all fun (o, i) => (edgesOf o).all (· < i)
def dstB (ops : Array Oper) (n : Nat) : Bool := decide (dsts ops).Nodup && (dsts ops).all (· < n)
def putsL : List Oper → List Value → Act → Act
  | o :: os, v :: vs, a => putsL os vs (a.put o.dst v)
  | _, _, a => a
def cnt (l : List Bool) : Nat := (l.filter fun b => !b).length
theorem cnt_set {l : List Bool} {i : Nat} (h : l[i]? = some false) : cnt (l.set i true) + 1 = cnt l := by
  induction l generalizing i with
  | nil => simp at h
  | cons b l ih =>
    cases i with
    | zero =>
      have : b = false := by simpa using h
      subst this
      simp [cnt]
    | succ i =>
      have h' : l[i]? = some false := by simpa using h
      have := ih h'
      cases b <;> simp [cnt] at * <;> omega
theorem put_getD (a : Act) (o : Oper) (v : Value) (t : Nat) (h : ∀ d, o.dst = some d → d < a.tmps.size) : (a.put o.dst v).tmps.getD t undef = if o.dst = some t then v else a.tmps.getD t undef := by
  cases hd : o.dst with
  | none => simp [Act.put]
  | some d =>
    have := h d hd
    simp only [Act.put, Option.some.injEq]
    by_cases e : d = t
    · subst e; simp [this]
    · simp [Array.getD_eq_getD_getElem?, Array.getElem?_setIfInBounds, e]
theorem put_size (a : Act) (d : Option Tmp) (v : Value) : (a.put d v).tmps.size = a.tmps.size := by cases d <;> simp [Act.put]
theorem put_defers (a : Act) (d : Option Tmp) (v : Value) : (a.put d v).defers = a.defers := by cases d <;> rfl
theorem putsL_size (l : List Oper) (vs : List Value) (a : Act) : (putsL l vs a).tmps.size = a.tmps.size ∧ (putsL l vs a).defers = a.defers := by
  induction l generalizing vs a with
  | nil => cases vs <;> exact ⟨rfl, rfl⟩
  | cons o l ih =>
    cases vs with
    | nil => exact ⟨rfl, rfl⟩
    | cons v vs => rw [putsL]; exact ⟨(ih vs _).1.trans (put_size _ _ _), (ih vs _).2.trans (put_defers _ _ _)⟩
theorem putsL_getD (l : List Oper) (a b : Act) (t : Nat) (h : ∀ o ∈ l, ∀ d, o.dst = some d → d < b.tmps.size) :
    (putsL l (l.map (slotV · a)) b).tmps.getD t undef = if t ∈ l.filterMap (·.dst) then a.tmps.getD t undef else b.tmps.getD t undef := by
  induction l generalizing b with
  | nil => simp [putsL]
  | cons o l ih =>
    rw [List.map_cons, putsL, ih _ (fun o' ho' d hd => by rw [put_size]; exact h o' (List.mem_cons_of_mem _ ho') d hd), put_getD _ _ _ _ (fun d hd => h o List.mem_cons_self d hd)]
    by_cases h1 : t ∈ l.filterMap (·.dst)
    · rw [if_pos h1, if_pos]
      rw [List.filterMap_cons]
      split
      · exact h1
      · exact List.mem_cons_of_mem _ h1
    · rw [if_neg h1]
      by_cases h2 : o.dst = some t
      · rw [if_pos h2, if_pos (by rw [List.filterMap_cons, h2]; exact List.mem_cons_self)]
        simp [slotV, h2]
      · rw [if_neg h2, if_neg]
        rw [List.filterMap_cons]
        split
        · exact h1
        · rename_i d hd
          intro hm
          rcases List.mem_cons.1 hm with e | e
          · subst e; exact h2 hd
          · exact h1 e
theorem ancs_listed {ops : Array Oper} {listed : Nat → Prop} (hc : ∀ i o, ops[i]? = some o → listed i → ∀ j ∈ edgesOf o, listed j) : ∀ k l, (∀ j ∈ l, listed j) → ∀ j ∈ ancs ops k l, listed j
  | 0, l, h => h
  | k + 1, l, h => ancs_listed hc k _ (fun j hj => by
      rcases List.mem_append.1 hj with h1 | h1
      · exact h j h1
      · obtain ⟨i, hi, h2⟩ := List.mem_flatMap.1 h1
        split at h2
        · rename_i o ho; exact hc i o ho (h i hi) j h2
        · simp at h2)

structure Inv (ops : Array Oper) (a0 : Act) (w1 : World) (E : World → World → Prop) (F : Nat → Value → World → Prop) (u : Nat) (B : World → Prop) (listed : Array Bool) (a : Act) (w : World) : Prop where
  sz : listed.size = ops.size
  closed : ∀ i o, ops[i]? = some o → listed.getD i true = true → ∀ j ∈ edgesOf o, listed.getD j true = true
  ext : E w1 w
  fact : ∀ i o, ops[i]? = some o → listed.getD i true = true → F i (slotV o a) w
  outer : ∀ t, t ∉ dsts ops → a.tmps.getD t undef = a0.tmps.getD t undef
  size : a.tmps.size = a0.tmps.size
  defers : a.defers = a0.defers
  still : listed.getD u true = false → B w

theorem mem_edges {o : Oper} {j : Nat} : j ∈ edgesOf o ↔ ∃ e ∈ o.after, Region.binds .any e = true ∧ e.on = j := by
  unfold edgesOf
  rw [List.mem_filterMap]
  constructor
  · rintro ⟨e, he, h⟩
    split at h
    · rename_i hb; exact ⟨e, by simpa using he, hb, by simpa using h⟩
    · simp at h
  · rintro ⟨e, he, hb, rfl⟩
    exact ⟨e, by simpa using he, by simp [hb]⟩
theorem getD_set {l : Array Bool} {i j : Nat} (h : j ≠ i) : (l.setIfInBounds i true).getD j true = l.getD j true := by
  simp [Array.getD_eq_getD_getElem?, Array.getElem?_setIfInBounds, Ne.symm h]

theorem region_stable {P : Program} {ops : Array Oper} {Q : Exit → Act → World → Prop} {id : Nat} {a0 : Act} {w0 : World} (hm : P.follows .mixedOrders = true) (hback : backB ops = true) (hdst : dstB ops a0.tmps.size = true)
    (R : World → World → Prop) (hrefl : ∀ w, R w w) (htrans : ∀ a b c, R a b → R b c → R a c) (E : Nat → World → World → Prop) (hE : ∀ i w w', E i w w' → R w w')
    (F : Nat → Value → World → Prop) (hF : ∀ i j v w w', i ≠ j → i ∉ upTo ops j → F j v w → E i w w' → F j v w') (u : Nat) (B : World → Prop) (hB : B w0.drew) (hBE : ∀ i w w', i ≠ u → u ∉ upTo ops i → B w → E i w w' → B w')
    (step : ∀ (i : Nat) (o : Oper), ops[i]? = some o → ∀ a w, R w0.drew w → (∀ j o', j ∈ edgesOf o → ops[j]? = some o' → F j (slotV o' a) w) → (∀ t, t ∉ dsts ops → a.tmps.getD t undef = a0.tmps.getD t undef) → (i ∈ upTo ops u → B w) →
      wpOp P ops Q i (fun a' w' => ∃ v, a' = a.put o.dst v ∧ E i w w' ∧ F i (match o.dst with | some _ => v | none => undef) w') a w)
    (fin : ∀ vs : List Value, vs.length = ops.size → ∀ w, R w0.drew w → (∀ i v, vs[i]? = some v → F i v w) → Q .normal (putsL ops.toList vs a0) w) :
    (Code.region id ops true).wp P Q a0 w0 := by
  have hback' : ∀ (i : Nat) (o : Oper), ops[i]? = some o → ∀ j ∈ edgesOf o, j < i := by
    intro i o ho j hj
    have h := List.all_eq_true.1 hback (o, i) (by
      rw [List.mem_zipIdx_iff_getElem?]
      simpa using ho)
    have := List.all_eq_true.1 h j hj
    simpa using this
  have hdst' : (dsts ops).Nodup ∧ ∀ d ∈ dsts ops, d < a0.tmps.size := by
    simp only [dstB, Bool.and_eq_true, decide_eq_true_eq, List.all_eq_true] at hdst
    exact ⟨hdst.1, fun d hd => by simpa using hdst.2 d hd⟩
  have hin : ∀ (i : Nat) (o : Oper) (d : Nat), ops[i]? = some o → o.dst = some d → d ∈ dsts ops := fun i o d ho hd => List.mem_filterMap.2 ⟨o, by simpa using Array.mem_of_getElem? ho, hd⟩
  have huniq : ∀ (i j : Nat) (oi oj : Oper) (d : Nat), ops[i]? = some oi → ops[j]? = some oj → oi.dst = some d → oj.dst = some d → i = j := by
    intro i j oi oj d hi hj di dj
    have key : ∀ (l : List Oper) (i j : Nat) (oi oj : Oper), (l.filterMap (·.dst)).Nodup → l[i]? = some oi → l[j]? = some oj → oi.dst = some d → oj.dst = some d → i = j := by
      intro l
      induction l with
      | nil => intro i j oi oj _ h; simp at h
      | cons o l ih =>
        intro i j oi oj hn hi hj di dj
        rw [List.filterMap_cons] at hn
        cases i with
        | zero =>
          have e : o = oi := by simpa using hi
          subst e
          cases j with
          | zero => rfl
          | succ j =>
            exfalso
            rw [di] at hn
            exact (List.nodup_cons.1 hn).1 (List.mem_filterMap.2 ⟨oj, List.mem_of_getElem? (by simpa using hj), dj⟩)
        | succ i =>
          cases j with
          | zero =>
            exfalso
            have e : o = oj := by simpa using hj
            subst e
            rw [dj] at hn
            exact (List.nodup_cons.1 hn).1 (List.mem_filterMap.2 ⟨oi, List.mem_of_getElem? (by simpa using hi), di⟩)
          | succ j =>
            have hn' : (l.filterMap (·.dst)).Nodup := by
              split at hn
              · exact hn
              · exact (List.nodup_cons.1 hn).2
            rw [ih i j oi oj hn' (by simpa using hi) (by simpa using hj) di dj]
    exact key ops.toList i j oi oj hdst'.1 (by simpa using hi) (by simpa using hj) di dj
  have finish : ∀ listed a w, Inv ops a0 w0.drew R F u B listed a w → (∀ i, i < ops.size → listed.getD i true = true) → Q .normal a w := by
    intro listed a w hI hall
    have := fin (ops.toList.map (slotV · a)) (by simp) w hI.ext (fun i v hv => by
      rw [List.getElem?_map] at hv
      cases ho : ops[i]? with
      | none => simp [ho] at hv
      | some o =>
        have hv' : slotV o a = v := by simpa [ho] using hv
        subst hv'
        exact hI.fact i o ho (hall i (Array.getElem?_eq_some_iff.1 ho).1))
    have ea : putsL ops.toList (ops.toList.map (slotV · a)) a0 = a := by
      have hs := putsL_size ops.toList (ops.toList.map (slotV · a)) a0
      have ht : (putsL ops.toList (ops.toList.map (slotV · a)) a0).tmps = a.tmps := by
        apply Array.ext (hs.1.trans hI.size.symm)
        intro t h1 h2
        have h3 := putsL_getD ops.toList a a0 t (fun o ho d hd => hdst'.2 d (List.mem_filterMap.2 ⟨o, ho, hd⟩))
        have e1 : ∀ (x : Array Value) (h : t < x.size), x.getD t undef = x[t] := fun x h => by simp [Array.getD, h]
        rw [e1 _ h1] at h3
        by_cases hmem : t ∈ ops.toList.filterMap (·.dst)
        · rw [if_pos hmem] at h3
          rw [h3]
          exact e1 _ h2
        · rw [if_neg hmem] at h3
          rw [h3, ← hI.outer t hmem]
          exact e1 _ h2
      cases h1 : putsL ops.toList (ops.toList.map (slotV · a)) a0 with
      | mk t d => cases a with
        | mk t2 d2 =>
          rw [h1] at ht hs
          have := hs.2.trans hI.defers.symm
          simp only at ht this
          rw [ht, this]
    rw [ea] at this
    exact this
  have allOf : ∀ listed : Array Bool, listed.size = ops.size → Region.ready .any ops listed = [] → ∀ i, i < ops.size → listed.getD i true = true := by
    intro listed hsz hr i
    induction i using Nat.strongRecOn with
    | _ i ih =>
      intro hi
      cases hv : listed.getD i true with
      | true => rfl
      | false =>
        exfalso
        have : i ∈ Region.ready .any ops listed := by
          rw [mem_ready]
          refine ⟨hv, ops[i], Array.getElem?_eq_getElem hi, fun e he hb => ?_⟩
          have hj : e.on ∈ edgesOf ops[i] := mem_edges.2 ⟨e, he, hb, rfl⟩
          have hlt := hback' i _ (Array.getElem?_eq_getElem hi) _ hj
          have := ih e.on hlt (by omega)
          simp only [Array.getD_eq_getD_getElem?] at this ⊢
          have hs : e.on < listed.size := by omega
          simpa [hs] using this
        rw [hr] at this
        simp at this
  refine wp_region_any hm ?_
  have main : ∀ fuel listed a w, Inv ops a0 w0.drew R F u B listed a w → cnt listed.toList ≤ fuel → wpAny P .any ops Q fuel listed a w := by
    intro fuel
    induction fuel with
    | zero =>
      intro listed a w hI hc
      have hall : ∀ i, i < ops.size → listed.getD i true = true := by
        intro i hi
        cases hv : listed.getD i true with
        | true => rfl
        | false =>
          exfalso
          have hs : i < listed.size := by rw [hI.sz]; exact hi
          have h1 : listed.toList[i]? = some false := by
            have : listed[i] = false := by simpa [Array.getD, hs] using hv
            simp [hs, this]
          have := cnt_set h1
          omega
      refine ⟨?_, finish listed a w hI hall⟩
      rw [List.eq_nil_iff_forall_not_mem]
      intro j hj
      rw [mem_ready] at hj
      obtain ⟨h0, o, ho, _⟩ := hj
      rw [hall j (Array.getElem?_eq_some_iff.1 ho).1] at h0
      cases h0
    | succ fuel ih =>
      intro listed a w hI hc
      refine ⟨fun hr => finish listed a w hI (allOf listed hI.sz hr), fun i hi => ?_⟩
      rw [mem_ready] at hi
      obtain ⟨h0, o, ho, hall⟩ := hi
      have hlt : i < ops.size := (Array.getElem?_eq_some_iff.1 ho).1
      have hls : i < listed.size := by rw [hI.sz]; exact hlt
      have hedge : ∀ j ∈ edgesOf o, listed.getD j true = true := by
        intro j hj
        obtain ⟨e, he, hb, rfl⟩ := mem_edges.1 hj
        have := hall e he hb
        have hs : e.on < listed.size := by
          rcases Nat.lt_or_ge e.on listed.size with h | h
          · exact h
          · simp [Array.getD_eq_getD_getElem?, h] at this
        simpa [Array.getD_eq_getD_getElem?, hs] using this
      refine wpOp_mono ?_ (step i o ho a w hI.ext (fun j o' hj ho' => hI.fact j o' ho' (hedge j hj)) hI.outer (fun hu => ?_))
      · rintro a' w' ⟨v, rfl, hEi, hFi⟩
        have hd : ∀ d, o.dst = some d → d < a.tmps.size := fun d hd => by rw [hI.size]; exact hdst'.2 d (hin i o d ho hd)
        refine ih _ _ _ ⟨by simp [hI.sz], ?_, htrans _ _ _ hI.ext (hE _ _ _ hEi), ?_, ?_, by rw [put_size, hI.size], by rw [put_defers, hI.defers], ?_⟩ ?_
        · intro k ok hk hl j hj
          have hset : ∀ j, listed.getD j true = true → (listed.setIfInBounds i true).getD j true = true := by
            intro j h
            by_cases e : j = i
            · subst e; simp [Array.getD_eq_getD_getElem?, hls]
            · rw [getD_set e]; exact h
          by_cases e : k = i
          · subst e
            rw [ho] at hk
            obtain rfl := Option.some.inj hk
            exact hset j (hedge j hj)
          · rw [getD_set e] at hl
            exact hset j (hI.closed k ok hk hl j hj)
        · intro k ok hk hl
          by_cases e : k = i
          · subst e
            rw [ho] at hk
            obtain rfl := Option.some.inj hk
            cases hdo : o.dst with
            | none => rw [hdo] at hFi; simpa [slotV, hdo] using hFi
            | some d =>
              have hFi' : F k v w' := by rw [hdo] at hFi; exact hFi
              have hg := put_getD a o v d hd
              rw [if_pos hdo] at hg
              have : slotV o (a.put (some d) v) = v := by rw [← hdo]; simp only [slotV, hdo]; rw [← hdo]; exact hg
              rw [this]
              exact hFi'
          · rw [getD_set e] at hl
            have hnot : i ∉ upTo ops k := fun hm => by
              have := ancs_listed (ops := ops) (listed := fun j => listed.getD j true = true) (fun k ok hk hl => hI.closed k ok hk hl) ops.size [k] (fun j hj => by rw [List.mem_singleton.1 hj]; exact hl) i hm
              rw [h0] at this
              cases this
            have h1 := hF i k _ w w' (fun h => e h.symm) hnot (hI.fact k ok hk hl) hEi
            have : slotV ok (a.put o.dst v) = slotV ok a := by
              unfold slotV
              cases hdk : ok.dst with
              | none => rfl
              | some d =>
                have hg := put_getD a o v d hd
                rw [if_neg (fun h => e (huniq k i ok o d hk ho hdk h))] at hg
                exact hg
            rw [this]
            exact h1
        · intro t ht
          have hg := put_getD a o v t hd
          rw [if_neg (fun h => ht (hin i o t ho h))] at hg
          rw [hg]
          exact hI.outer t ht
        · intro hl
          have hiu : i ≠ u := by
            rintro rfl
            simp [Array.getD_eq_getD_getElem?, hls] at hl
          rw [getD_set (Ne.symm hiu)] at hl
          refine hBE i w w' hiu (fun hm => ?_) (hI.still hl) hEi
          have := ancs_listed (ops := ops) (listed := fun j => j = i ∨ listed.getD j true = true) (fun k ok hk hl j hj => by
            rcases hl with rfl | hl
            · rw [ho] at hk
              obtain rfl := Option.some.inj hk
              exact .inr (hedge j hj)
            · exact .inr (hI.closed k ok hk hl j hj)) ops.size [i] (fun j hj => .inl (List.mem_singleton.1 hj)) u hm
          rcases this with h | h
          · exact hiu h.symm
          · rw [hl] at h; cases h
        · have h1 : listed.toList[i]? = some false := by
            have : listed[i] = false := by simpa [Array.getD, hls] using h0
            simp [hls, this]
          have := cnt_set h1
          have e : (listed.setIfInBounds i true).toList = listed.toList.set i true := by simp
          rw [e]
          omega
      · refine hI.still ?_
        cases hv : listed.getD u true with
        | false => rfl
        | true =>
          exfalso
          have := ancs_listed (ops := ops) (listed := fun j => listed.getD j true = true) (fun k ok hk hl => hI.closed k ok hk hl) ops.size [u] (fun j hj => by rw [List.mem_singleton.1 hj]; exact hv) i hu
          rw [h0] at this
          cases this
  refine main ops.size _ a0 _ ⟨by simp, ?_, hrefl _, ?_, fun t _ => rfl, rfl, rfl, fun _ => hB⟩ ?_
  · intro i o ho hl
    have := (Array.getElem?_eq_some_iff.1 ho).1
    simp [Array.getD_eq_getD_getElem?, this] at hl
  · intro i o ho hl
    have := (Array.getElem?_eq_some_iff.1 ho).1
    simp [Array.getD_eq_getD_getElem?, this] at hl
  · have : ∀ n, cnt (List.replicate n false) = n := fun n => by simp [cnt]
    simpa using Nat.le_of_eq (this ops.size)
theorem ev {a : Act} {t : Nat} {x : Value} (h : a.tmps.getD t undef = x) : a.tmps[t]?.getD undef = x := by rwa [← Array.getD_eq_getD_getElem?]
theorem evE {a : Act} {t : Nat} {x : Value} (h : a.tmps[t]?.getD undef = x) : a.eval (.tmp t) = x := by show a.tmps.getD t undef = x; rwa [Array.getD_eq_getD_getElem?]
theorem wpOp_val {P : Program} {ops : Array Oper} {Q : Exit → Act → World → Prop} {i : Nat} {o : Oper} {a : Act} {w w' : World} {v : Value} {K : Act → World → Prop} (hi : ops[i]? = some o) (hg : o.guard = none)
    (hr : (execOp a.eval o).run P w = .ok (.value v) w') (hK : K (a.put o.dst v) w') : wpOp P ops Q i K a w := by
  unfold wpOp
  simp only [hi]
  rw [if_pos (by simp [Region.wanted, hg])]
  left
  unfold Oper.wp
  rw [hr]
  exact hK
theorem wpOp_skip {P : Program} {ops : Array Oper} {Q : Exit → Act → World → Prop} {i : Nat} {o : Oper} {a : Act} {w w' : World} {K : Act → World → Prop} (hi : ops[i]? = some o) (hg : o.guard = none)
    (hr : (execOp a.eval o).run P w = .ok .skip w') (hK : K (a.put o.dst undef) w') : wpOp P ops Q i K a w := by
  unfold wpOp
  simp only [hi]
  rw [if_pos (by simp [Region.wanted, hg])]
  left
  unfold Oper.wp
  rw [hr]
  exact hK
theorem wpOp_oper {P : Program} {ops : Array Oper} {Q : Exit → Act → World → Prop} {i : Nat} {o : Oper} {a : Act} {w : World} {K : Act → World → Prop} (hi : ops[i]? = some o) (hg : o.guard = none)
    (h : Oper.wp P o a w K Q) : wpOp P ops Q i K a w := by
  unfold wpOp
  simp only [hi]
  rw [if_pos (by simp [Region.wanted, hg])]
  exact .inl h
theorem wpOp_call {P : Program} {ops : Array Oper} {Q : Exit → Act → World → Prop} {i : Nat} {o : Oper} {a : Act} {w w1 : World} {K : Act → World → Prop} {f : FuncId} {args : Array Value} (hi : ops[i]? = some o) (hg : o.guard = none)
    (hr : (execOp a.eval o).run P w = .ok (.enter f args) w1) (hc : Calls P f args w1 fun e w' => ∃ v, e = .returned v ∧ K (a.put o.dst v) w') : wpOp P ops Q i K a w := by
  refine wpOp_oper hi hg ?_
  unfold Oper.wp
  rw [hr, Oper.upon_enter]
  refine hc.mono ?_
  rintro e w' ⟨v, rfl, hk⟩
  exact hk
end Go.Proofs.Ytegjkheecbmioaa.Reg
