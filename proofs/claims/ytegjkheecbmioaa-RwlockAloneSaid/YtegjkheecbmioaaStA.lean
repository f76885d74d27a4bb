/- The plain law of the reference's Step; frames as an own row. -/
import Derived.Test.YtegjkheecbmioaaOneD
import Derived.Test.YtegjkheecbmioaaOneE
import Derived.Test.YtegjkheecbmioaaOneF
import Derived.Test.YtegjkheecbmioaaMay
import Derived.Deep.MidRow
namespace Go.Proofs.Ytegjkheecbmioaa
open Go.RowKit
set_option linter.unusedVariables false
set_option linter.unusedSimpArgs false

/-- An instruction on a frame: how it ended, its note, what came. -/
structure O1 where
  how : Int
  nk : Int
  nv : Int
  came : Int
  f : Fr
  s : St
def nextO (f : Fr) (s : St) : Option O1 := some ⟨1, -1, 0, 0, f, s⟩
def goneO (f : Fr) (s : St) : Option O1 := some ⟨2, -1, 0, 0, f, s⟩
def regOk (x : Ins) : Bool := decide (0 ≤ x.a ∧ x.a ≤ 15 ∧ 0 ≤ x.b ∧ x.b ≤ 15 ∧ 0 ≤ x.c ∧ x.c ≤ 15)
/-- The place of a cell, if it is there. -/
def cellP (s : St) (at_ : Int) : Option (Nat × Int) := if 1 ≤ at_ then (match s.cells[(at_ - 1).toNat]? with | some x => some ((at_ - 1).toNat, x) | none => none) else none
def oneQ (op n xa : Int) (a b c : Nat) (i : Nat) (f : Fr) (s : St) : Option O1 :=
  if op = 1 then nextO (f.set a n) s
  else if op = 2 then nextO (f.set a (f.R b)) s
  else if op = 3 then nextO (f.set a (wrap64 (f.R b + f.R c))) s
  else if op = 4 then nextO (f.set a (wrap64 (f.R b + n))) s
  else if op = 5 then (match cellP s (wrap64 (f.R b + n)) with | some (_, v) => nextO (f.set a v) s | none => none)
  else if op = 6 then (match cellP s (wrap64 (f.R b + n)) with | some (k, _) => nextO f { s with cells := s.cells.set k (f.R a) } | none => none)
  else if op = 7 then (if xa ≤ 13 then (match cellP s (wrap64 (f.R b + n)) with
    | some (k, v) => if v = f.R a then nextO (f.set (a + 2) 1) { s with cells := s.cells.set k (f.R (a + 1)) } else nextO (f.set (a + 2) 0) s
    | none => none) else none)
  else if op = 8 then goneO { f with at_ := n } s
  else if op = 9 then (if f.R a = f.R b then goneO { f with at_ := n } s else nextO f s)
  else if op = 10 then (if f.R a ≠ f.R b then goneO { f with at_ := n } s else nextO f s)
  else if op = 11 then (if f.R a < f.R b then goneO { f with at_ := n } s else nextO f s)
  else if op = 14 then (match s.thr[i]? with
    | some p => if p.permit = false ∧ p.flag = false ∧ f.R a = -1 then some ⟨3, -1, 0, 1, f, { s with thr := s.thr.set i { p with blocked := true, dl := -1 } }⟩ else none
    | none => none)
  else if op = 15 then (if 0 ≤ f.R a then (match s.thr[(f.R a).toNat]? with
    | some p => if p.blocked = true then nextO f { s with thr := s.thr.set (f.R a).toNat { p with blocked := false, dl := 0 } } else none
    | none => none) else none)
  else if op = 16 then (if 1 ≤ n ∧ n + s.cells.length ≤ 4096 ∧ 0 < s.cells.length then nextO (f.set a ((s.cells.length : Int) + 1)) { s with cells := s.cells ++ List.replicate n.toNat 0 } else none)
  else if op = 17 then nextO (f.set a (i : Int)) s
  else if op = 18 then nextO (f.set a s.now) s
  else if op = 19 then (match s.thr[i]? with
    | some p => if p.flag = false then nextO (f.set a 0) s else none
    | none => none)
  else if op = 21 then some ⟨1, n, f.R a, 0, f, s⟩
  else if op = 22 then some ⟨3, -1, 0, 2, f, s⟩
  else none
def oneP (x : Ins) (i : Nat) (f : Fr) (s : St) : Option O1 := oneQ x.op x.n x.a x.a.toNat x.b.toNat x.c.toNat i f s
theorem cellP_spec {s : St} {at_ : Int} {k : Nat} {v : Int} (h : cellP s at_ = some (k, v)) : at_ = (k : Int) + 1 ∧ s.cells[k]? = some v := by
  unfold cellP at h
  split at h
  · split at h
    · rename_i h1 x hx
      simp only [Option.some.injEq, Prod.mk.injEq] at h
      obtain ⟨rfl, rfl⟩ := h
      exact ⟨by omega, hx⟩
    · cases h
  · cases h
theorem nextO_inj {f : Fr} {s : St} {r : O1} (h : nextO f s = some r) : r = ⟨1, -1, 0, 0, f, s⟩ := (Option.some.inj h).symm
theorem goneO_inj {f : Fr} {s : St} {r : O1} (h : goneO f s = some r) : r = ⟨2, -1, 0, 0, f, s⟩ := (Option.some.inj h).symm
theorem one_calls (w : World) (B bW bT bL bF i : Nat) (x : Ins) (f : Fr) (s : St) (r : O1) (hr : regOk x = true) (h : oneP x i f s = some r) (hW : WAt B bW bT bL s w) (hF : FrAt bF f w) (hB : B ≤ bF) (hsl : s.cells.length ≤ 100000) :
    Calls Try.prog 47 #[.pointer (some ⟨bW, 0, none⟩), .agg #[.int .i64 x.op, .int .i64 x.a, .int .i64 x.b, .int .i64 x.c, .int .i64 x.n], .int .i64 i, .pointer (some ⟨bF, 0, none⟩)] w
      (OnePost w B bW bT bL bF r.how r.nk r.nv r.came r.f r.s) := by
  obtain ⟨op, a, b, c, n⟩ := x
  have hr : 0 ≤ a ∧ a ≤ 15 ∧ 0 ≤ b ∧ b ≤ 15 ∧ 0 ≤ c ∧ c ≤ 15 := of_decide_eq_true hr
  obtain ⟨a1, a2, b1, b2, c1, c2⟩ := hr
  obtain ⟨a, rfl⟩ := Int.eq_ofNat_of_zero_le a1
  obtain ⟨b, rfl⟩ := Int.eq_ofNat_of_zero_le b1
  obtain ⟨c, rfl⟩ := Int.eq_ofNat_of_zero_le c1
  have ha : a ≤ 15 := by omega
  have hb : b ≤ 15 := by omega
  have hc : c ≤ 15 := by omega
  change oneQ op n (a : Int) a b c i f s = some r at h
  unfold oneQ at h
  by_cases e : op = 1
  · rw [if_pos e] at h; subst e; obtain rfl := nextO_inj h; exact one_set w B bW bT bL bF a b c i n f s ha hb hc hW hF hB
  rw [if_neg e] at h
  by_cases e : op = 2
  · rw [if_pos e] at h; subst e; obtain rfl := nextO_inj h; exact one_mov w B bW bT bL bF a b c i n f s ha hb hc hW hF hB
  rw [if_neg e] at h
  by_cases e : op = 3
  · rw [if_pos e] at h; subst e; obtain rfl := nextO_inj h; exact one_add w B bW bT bL bF a b c i n f s ha hb hc hW hF hB
  rw [if_neg e] at h
  by_cases e : op = 4
  · rw [if_pos e] at h; subst e; obtain rfl := nextO_inj h; exact one_addi w B bW bT bL bF a b c i n f s ha hb hc hW hF hB
  rw [if_neg e] at h
  by_cases e : op = 5
  · rw [if_pos e] at h; subst e
    split at h
    · rename_i k v hv
      obtain ⟨h1, h2⟩ := cellP_spec hv
      obtain rfl := nextO_inj h
      exact one_ld w B bW bT bL bF a b c i n f s ha hb hc hW hF hB k v h1 h2 hsl
    · cases h
  rw [if_neg e] at h
  by_cases e : op = 6
  · rw [if_pos e] at h; subst e
    split at h
    · rename_i k v hv
      obtain ⟨h1, h2⟩ := cellP_spec hv
      obtain rfl := nextO_inj h
      exact one_st w B bW bT bL bF a b c i n f s ha hb hc hW hF hB k v h1 h2 hsl
    · cases h
  rw [if_neg e] at h
  by_cases e : op = 7
  · rw [if_pos e] at h; subst e
    split at h
    · rename_i h13
      split at h
      · rename_i k v hv
        obtain ⟨h1, h2⟩ := cellP_spec hv
        split at h
        · rename_i hq
          obtain rfl := nextO_inj h
          exact one_cas_yes w B bW bT bL bF a b c i n f s ha hb hc hW hF hB k v h1 h2 hsl hq (by omega)
        · rename_i hq
          obtain rfl := nextO_inj h
          exact one_cas_no w B bW bT bL bF a b c i n f s ha hb hc hW hF hB k v h1 h2 hsl hq (by omega)
      · cases h
    · cases h
  rw [if_neg e] at h
  by_cases e : op = 8
  · rw [if_pos e] at h; subst e; obtain rfl := goneO_inj h; exact one_jmp w B bW bT bL bF a b c i n f s ha hb hc hW hF hB
  rw [if_neg e] at h
  by_cases e : op = 9
  · rw [if_pos e] at h; subst e
    split at h
    · rename_i hq; obtain rfl := goneO_inj h; exact one_jeq_yes w B bW bT bL bF a b c i n f s ha hb hc hW hF hB hq
    · rename_i hq; obtain rfl := nextO_inj h; exact one_jeq_no w B bW bT bL bF a b c i n f s ha hb hc hW hF hB hq
  rw [if_neg e] at h
  by_cases e : op = 10
  · rw [if_pos e] at h; subst e
    split at h
    · rename_i hq; obtain rfl := goneO_inj h; exact one_jne_yes w B bW bT bL bF a b c i n f s ha hb hc hW hF hB hq
    · rename_i hq; obtain rfl := nextO_inj h; exact one_jne_no w B bW bT bL bF a b c i n f s ha hb hc hW hF hB hq
  rw [if_neg e] at h
  by_cases e : op = 11
  · rw [if_pos e] at h; subst e
    split at h
    · rename_i hq; obtain rfl := goneO_inj h; exact one_jlt_yes w B bW bT bL bF a b c i n f s ha hb hc hW hF hB hq
    · rename_i hq; obtain rfl := nextO_inj h; exact one_jlt_no w B bW bT bL bF a b c i n f s ha hb hc hW hF hB hq
  rw [if_neg e] at h
  by_cases e : op = 14
  · rw [if_pos e] at h; subst e
    split at h
    · rename_i p hp
      split at h
      · rename_i hq; obtain rfl := (Option.some.inj h); exact one_park w B bW bT bL bF a b c i n f s ha hb hc hW hF hB p hp hq.1 hq.2.1 hq.2.2
      · cases h
    · cases h
  rw [if_neg e] at h
  by_cases e : op = 15
  · rw [if_pos e] at h; subst e
    split at h
    · rename_i h0
      split at h
      · rename_i p hp
        split at h
        · rename_i hq; obtain rfl := nextO_inj h; exact one_unpark w B bW bT bL bF a b c i n f s ha hb hc hW hF hB _ p hp hq (by omega)
        · cases h
      · cases h
    · cases h
  rw [if_neg e] at h
  by_cases e : op = 16
  · rw [if_pos e] at h; subst e
    split at h
    · rename_i hq; obtain rfl := nextO_inj h
      exact one_alloc w B bW bT bL bF a b c i n f s ha hb hc hW hF hB n.toNat (by omega) (by omega) (by omega) hq.2.2
    · cases h
  rw [if_neg e] at h
  by_cases e : op = 17
  · rw [if_pos e] at h; subst e; obtain rfl := nextO_inj h; exact one_self w B bW bT bL bF a b c i n f s ha hb hc hW hF hB
  rw [if_neg e] at h
  by_cases e : op = 18
  · rw [if_pos e] at h; subst e; obtain rfl := nextO_inj h; exact one_now w B bW bT bL bF a b c i n f s ha hb hc hW hF hB
  rw [if_neg e] at h
  by_cases e : op = 19
  · rw [if_pos e] at h; subst e
    split at h
    · rename_i p hp
      split at h
      · rename_i hq; obtain rfl := nextO_inj h; exact one_intr w B bW bT bL bF a b c i n f s ha hb hc hW hF hB p hp hq
      · cases h
    · cases h
  rw [if_neg e] at h
  by_cases e : op = 21
  · rw [if_pos e] at h; subst e; obtain rfl := (Option.some.inj h); exact one_mark w B bW bT bL bF a b c i n f s ha hb hc hW hF hB
  rw [if_neg e] at h
  by_cases e : op = 22
  · rw [if_pos e] at h; subst e; obtain rfl := (Option.some.inj h); exact one_done w B bW bT bL bF a b c i n f s ha hb hc hW hF hB
  rw [if_neg e] at h
  cases h
def mayB (x : Ins) : Bool := decide (1 ≤ x.op ∧ x.op ≤ 22) && mayF (splitB (wordsT.getD (x.op.toNat - 1) [])).2 x
theorem has_cases : ∀ k, k < 22 → (splitB (wordsT.getD k [])).2 ∈ [[65, 78], [65, 66], [65, 66, 67], [65, 66, 78], [84], [65, 66, 84], [], [65], [78, 65]] := by decide
theorem may_calls (x : Ins) (w : World) (h : mayB x = true) : Calls Try.prog 46 #[.agg #[.int .i64 x.op, .int .i64 x.a, .int .i64 x.b, .int .i64 x.c, .int .i64 x.n]] w fun e w' => e = .returned (.bool true) ∧ Below w.heap.size w w' := by
  simp only [mayB, Bool.and_eq_true, decide_eq_true_eq] at h
  obtain ⟨⟨h1, h2⟩, h3⟩ := h
  have hk : x.op.toNat - 1 < 22 := by omega
  have ho : x.op = ((x.op.toNat - 1 : Nat) : Int) + 1 := by omega
  have hm := has_cases _ hk
  generalize hH : (splitB (wordsT.getD (x.op.toNat - 1) [])).2 = H at hm h3
  simp only [List.mem_cons, List.not_mem_nil, or_false] at hm
  rcases hm with rfl | rfl | rfl | rfl | rfl | rfl | rfl | rfl | rfl
  · exact may_AN x _ w hk ho hH h3
  · exact may_AB x _ w hk ho hH h3
  · exact may_ABC x _ w hk ho hH h3
  · exact may_ABN x _ w hk ho hH h3
  · exact may_T x _ w hk ho hH h3
  · exact may_ABT x _ w hk ho hH h3
  · exact may_E x _ w hk ho hH h3
  · exact may_A x _ w hk ho hH h3
  · exact may_NA x _ w hk ho hH h3
theorem may_reg {x : Ins} (h : mayB x = true) : regOk x = true := by
  simp only [mayB, mayF, Bool.and_eq_true] at h
  exact h.2.1.1.1.1.1.1
/-- What comes of a step. -/
structure R2 where
  rs : List Fr
  f : Fr
  notes : List (Int × Int)
  how : Int
  val : Int
  s : St
def Fr.goes (f : Fr) : Fr := { f with at_ := f.at_ + 1 }
/-- A step: frames below (the nearest first), the frame that runs. -/
def stepG (code : List Ins) (i : Nat) : Nat → Bool → List Fr → Fr → St → List (Int × Int) → Option R2
  | 0, _, _, _, _, _ => none
  | fuel + 1, first, rs, f, s, notes =>
    if f.at_ < 0 then none else
    match code[f.at_.toNat]? with
    | none => none
    | some x =>
      if mayB x = false then none
      else if first = false ∧ 5 ≤ x.op ∧ x.op ≤ 7 then some ⟨rs, f, notes, 0, 0, s⟩
      else if x.op = 12 then (if 15 ≤ rs.length then none else stepG code i fuel false (f.goes :: rs) ⟨x.n, f.r⟩ s notes)
      else if x.op = 13 then (match rs with
        | [] => none
        | g :: rs' => stepG code i fuel false rs' ((g.set 0 (f.R 0)).set 1 (f.R 1)) s notes)
      else match oneP x i f s with
        | none => none
        | some r =>
          let f' := if r.how = 2 then r.f else { r.f with at_ := f.at_ + 1 }
          let notes' := if x.op = 21 then notes ++ [(r.nk, r.nv)] else notes
          if r.how = 3 then some ⟨rs, f', notes', r.came, if r.came = 2 then f'.R x.a.toNat else 0, r.s⟩
          else stepG code i fuel false rs f' r.s notes'
end Go.Proofs.Ytegjkheecbmioaa
