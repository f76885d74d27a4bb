/- Symbolic runs of the plain machine: registers and cells are linear forms over a row of small numbers. Of no program's code. -/
import Derived.Test.YtegjkheecbmioaaAlA
namespace Go.Proofs.Ytegjkheecbmioaa
open Go.RowKit
set_option linter.unusedVariables false
set_option linter.unusedSimpArgs false

structure Lin where
  c : Int
  ks : List Int
deriving DecidableEq
def dot : List Int → List Int → Int
  | k :: ks, x :: xs => k * x + dot ks xs
  | _, _ => 0
def addL : List Int → List Int → List Int
  | a :: l, b :: m => (a + b) :: addL l m
  | [], m => m
  | a :: l, [] => a :: l
theorem dot_nil (l : List Int) : dot l [] = 0 := by cases l <;> rfl
theorem dot_add : ∀ (a b xs : List Int), dot (addL a b) xs = dot a xs + dot b xs
  | [], b, xs => by simp [addL, dot]
  | a :: l, [], xs => by simp [addL, dot]
  | a :: l, b :: m, [] => by simp [dot]
  | a :: l, b :: m, x :: xs => by
    simp only [addL, dot, dot_add l m xs, Int.add_mul]
    generalize a * x = p
    generalize b * x = q
    omega
theorem dot_neg : ∀ (a xs : List Int), dot (a.map (fun k => -k)) xs = - dot a xs
  | [], xs => by simp [dot]
  | a :: l, [] => by simp [dot]
  | a :: l, x :: xs => by
    simp only [List.map_cons, dot, dot_neg l xs, Int.neg_mul]
    generalize a * x = p
    omega
theorem dot_zero : ∀ (a xs : List Int), a.all (fun k => k == 0) = true → dot a xs = 0
  | [], xs, _ => by simp [dot]
  | a :: l, [], _ => by simp [dot]
  | a :: l, x :: xs, h => by
    simp only [List.all_cons, Bool.and_eq_true, beq_iff_eq] at h
    simp only [dot, dot_zero l xs h.2, h.1]
    omega
def mass : List Int → Nat
  | [] => 0
  | k :: l => k.natAbs + mass l
theorem dot_mass : ∀ (a xs : List Int), (∀ x ∈ xs, x.natAbs ≤ 100000) → (dot a xs).natAbs ≤ 100000 * mass a
  | [], xs, _ => by simp [dot]
  | a :: l, [], _ => by simp [dot]
  | a :: l, x :: xs, h => by
    have h1 := dot_mass l xs (fun y hy => h y (List.mem_cons_of_mem _ hy))
    have h2 := h x List.mem_cons_self
    have h3 : (a * x).natAbs ≤ 100000 * a.natAbs := by
      rw [Int.natAbs_mul, Nat.mul_comm]
      exact Nat.mul_le_mul_right _ h2
    simp only [dot, mass, Nat.mul_add]
    generalize a * x = p at h3 ⊢
    generalize dot l xs = q at h1 ⊢
    omega
namespace Lin
def val (l : Lin) (xs : List Int) : Int := l.c + dot l.ks xs
def add (a b : Lin) : Lin := ⟨a.c + b.c, addL a.ks b.ks⟩
def sub (a b : Lin) : Lin := ⟨a.c - b.c, addL a.ks (b.ks.map (fun k => -k))⟩
def con (n : Int) : Lin := ⟨n, []⟩
def var (i : Nat) : Lin := ⟨0, List.replicate i 0 ++ [1]⟩
def isK (l : Lin) : Bool := l.ks.all (fun k => k == 0)
def small (l : Lin) : Bool := decide (l.c.natAbs + 100000 * mass l.ks < 4611686018427387904)
theorem val_add (a b : Lin) (xs : List Int) : (a.add b).val xs = a.val xs + b.val xs := by simp only [val, add, dot_add]; omega
theorem val_sub (a b : Lin) (xs : List Int) : (a.sub b).val xs = a.val xs - b.val xs := by simp only [val, sub, dot_add, dot_neg]; omega
theorem val_con (n : Int) (xs : List Int) : (con n).val xs = n := by simp [val, con, dot]
theorem val_isK {l : Lin} (h : l.isK = true) (xs : List Int) : l.val xs = l.c := by simp [val, dot_zero _ xs h]
theorem val_small {l : Lin} (h : l.small = true) {xs : List Int} (hx : ∀ x ∈ xs, x.natAbs ≤ 100000) : wrap64 (l.val xs) = l.val xs := by
  have h1 := dot_mass l.ks xs hx
  have h2 : l.c.natAbs + 100000 * mass l.ks < 4611686018427387904 := of_decide_eq_true h
  unfold wrap64 val
  omega
end Lin
def rS (r : List Lin) (k : Nat) : Lin := r.getD k (Lin.con 0)
/-- The plain state that a symbolic one speaks of. -/
structure SR (xs : List Int) (now : Int) (i : Nat) (r : List Lin) (cells : List (Option Lin)) (f : Fr) (s : St) : Prop where
  hr : f.r = r.map (·.val xs)
  hl : s.cells.length = cells.length
  hc : ∀ (j : Nat) (l : Lin), cells[j]? = some (some l) → s.cells[j]? = some (l.val xs)
  hn : s.now = now
  ht : ∃ p, s.thr[i]? = some p ∧ p.flag = false
section
variable {xs : List Int} {now : Int} {i : Nat} {r : List Lin} {cells : List (Option Lin)} {f : Fr} {s : St}
theorem SR.R (h : SR xs now i r cells f s) (k : Nat) : f.R k = (rS r k).val xs := by
  unfold Fr.R rS
  rw [h.hr, List.getD_eq_getElem?_getD, List.getD_eq_getElem?_getD, List.getElem?_map]
  cases r[k]? with
  | none => simp [Lin.val_con]
  | some l => rfl
theorem SR.setR (h : SR xs now i r cells f s) (a : Nat) (l : Lin) {v : Int} (hv : v = l.val xs) : SR xs now i (r.set a l) cells (f.set a v) s :=
  ⟨by simp only [Fr.set, h.hr, List.map_set, hv], h.hl, h.hc, h.hn, h.ht⟩
theorem SR.setC (h : SR xs now i r cells f s) (k : Nat) (l : Lin) {v : Int} (hv : v = l.val xs) : SR xs now i r (cells.set k (some l)) f { s with cells := s.cells.set k v } := by
  refine ⟨h.hr, by simp [h.hl], fun j m hj => ?_, h.hn, h.ht⟩
  by_cases e : k = j
  · subst e
    have hk : k < cells.length := by have := (List.getElem?_eq_some_iff.1 hj).1; simpa using this
    rw [List.getElem?_set_self hk] at hj
    obtain rfl := Option.some.inj (Option.some.inj hj)
    rw [List.getElem?_set_self (by rw [h.hl]; exact hk), hv]
  · rw [List.getElem?_set_ne e] at hj
    rw [List.getElem?_set_ne e]
    exact h.hc j m hj
theorem SR.at' (h : SR xs now i r cells f s) (n : Int) : SR xs now i r cells { f with at_ := n } s := ⟨h.hr, h.hl, h.hc, h.hn, h.ht⟩
end
/-- A test on a difference; what is not decided, the oracle decides, and it is noted. -/
def decS (d : Lin) (lt : Bool) (orc : List Bool) : Option (Bool × List (Lin × Nat) × List Bool) :=
  if d.isK then some (if lt then decide (d.c < 0) else decide (d.c = 0), [], orc)
  else match orc with
  | [] => none
  | b :: o => some (b, [(d, if lt then (if b then 2 else 3) else (if b then 0 else 1))], o)
def holdC (xs : List Int) (p : Lin × Nat) : Prop := match p.2 with
  | 0 => p.1.val xs = 0
  | 1 => p.1.val xs ≠ 0
  | 2 => p.1.val xs < 0
  | _ => 0 ≤ p.1.val xs
theorem decS_sound {d : Lin} {lt : Bool} {orc o : List Bool} {b : Bool} {cs : List (Lin × Nat)} {xs : List Int} (h : decS d lt orc = some (b, cs, o)) (hc : ∀ p ∈ cs, holdC xs p) : b = true ↔ (if lt then d.val xs < 0 else d.val xs = 0) := by
  unfold decS at h
  split at h
  · rename_i hk
    simp only [Option.some.injEq, Prod.mk.injEq] at h
    obtain ⟨rfl, rfl, rfl⟩ := h
    rw [Lin.val_isK hk]
    cases lt <;> simp
  · cases orc with
    | nil => cases h
    | cons b' o' =>
      simp only [Option.some.injEq, Prod.mk.injEq] at h
      obtain ⟨rfl, rfl, rfl⟩ := h
      have := hc _ (List.mem_singleton.2 rfl)
      cases lt <;> cases b' <;> simp [holdC] at this ⊢ <;> first | exact this | omega
def addrS (cells : List (Option Lin)) (l : Lin) : Option (Nat × Option Lin) :=
  if l.isK && decide (1 ≤ l.c) && l.small then (match cells[(l.c - 1).toNat]? with | some x => some ((l.c - 1).toNat, x) | none => none) else none
theorem addrS_sound {xs : List Int} {now : Int} {i : Nat} {r : List Lin} {cells : List (Option Lin)} {f : Fr} {s : St} (h : SR xs now i r cells f s) (hx : ∀ x ∈ xs, x.natAbs ≤ 100000) {l : Lin} {k : Nat} {x : Option Lin} (ha : addrS cells l = some (k, x)) :
    ∃ v, cellP s (wrap64 (l.val xs)) = some (k, v) ∧ (∀ m, x = some m → v = m.val xs) := by
  unfold addrS at ha
  split at ha
  · rename_i hq
    simp only [Bool.and_eq_true, decide_eq_true_eq] at hq
    obtain ⟨⟨hk, h1⟩, hs⟩ := hq
    split at ha
    · rename_i y hy
      simp only [Option.some.injEq, Prod.mk.injEq] at ha
      obtain ⟨rfl, rfl⟩ := ha
      rw [Lin.val_small hs hx, Lin.val_isK hk]
      have hlt : (l.c - 1).toNat < s.cells.length := by rw [h.hl]; exact (List.getElem?_eq_some_iff.1 hy).1
      refine ⟨s.cells[(l.c - 1).toNat], ?_, fun m hm => ?_⟩
      · unfold cellP
        rw [if_pos h1, List.getElem?_eq_getElem hlt]
      · subst hm
        have := h.hc _ _ hy
        rw [List.getElem?_eq_getElem hlt] at this
        exact Option.some.inj this
    · cases ha
  · cases ha
structure SO where
  kd : Nat
  r : List Lin
  cells : List (Option Lin)
  cs : List (Lin × Nat)
  orc : List Bool
def oneS (op n xa : Int) (a b c : Nat) (i : Nat) (now : Int) (r : List Lin) (cells : List (Option Lin)) (orc : List Bool) : Option SO :=
  if op = 1 then some ⟨1, r.set a (Lin.con n), cells, [], orc⟩
  else if op = 2 then some ⟨1, r.set a (rS r b), cells, [], orc⟩
  else if op = 3 then (if ((rS r b).add (rS r c)).small then some ⟨1, r.set a ((rS r b).add (rS r c)), cells, [], orc⟩ else none)
  else if op = 4 then (if ((rS r b).add (Lin.con n)).small then some ⟨1, r.set a ((rS r b).add (Lin.con n)), cells, [], orc⟩ else none)
  else if op = 5 then (match addrS cells ((rS r b).add (Lin.con n)) with | some (_, some v) => some ⟨1, r.set a v, cells, [], orc⟩ | _ => none)
  else if op = 6 then (match addrS cells ((rS r b).add (Lin.con n)) with | some (k, _) => some ⟨1, r, cells.set k (some (rS r a)), [], orc⟩ | none => none)
  else if op = 7 then (if xa ≤ 13 then (match addrS cells ((rS r b).add (Lin.con n)) with
    | some (k, some v) => (match decS (v.sub (rS r a)) false orc with
      | some (true, cs, o) => some ⟨1, r.set (a + 2) (Lin.con 1), cells.set k (some (rS r (a + 1))), cs, o⟩
      | some (false, cs, o) => some ⟨1, r.set (a + 2) (Lin.con 0), cells, cs, o⟩
      | none => none)
    | _ => none) else none)
  else if op = 8 then some ⟨2, r, cells, [], orc⟩
  else if op = 9 then (match decS ((rS r a).sub (rS r b)) false orc with | some (true, cs, o) => some ⟨2, r, cells, cs, o⟩ | some (false, cs, o) => some ⟨1, r, cells, cs, o⟩ | none => none)
  else if op = 10 then (match decS ((rS r a).sub (rS r b)) false orc with | some (false, cs, o) => some ⟨2, r, cells, cs, o⟩ | some (true, cs, o) => some ⟨1, r, cells, cs, o⟩ | none => none)
  else if op = 11 then (match decS ((rS r a).sub (rS r b)) true orc with | some (true, cs, o) => some ⟨2, r, cells, cs, o⟩ | some (false, cs, o) => some ⟨1, r, cells, cs, o⟩ | none => none)
  else if op = 16 then (if 1 ≤ n ∧ n + cells.length ≤ 4096 ∧ 0 < cells.length then some ⟨1, r.set a (Lin.con ((cells.length : Int) + 1)), cells ++ List.replicate n.toNat (some (Lin.con 0)), [], orc⟩ else none)
  else if op = 17 then some ⟨1, r.set a (Lin.con (i : Int)), cells, [], orc⟩
  else if op = 18 then some ⟨1, r.set a (Lin.con now), cells, [], orc⟩
  else if op = 19 then some ⟨1, r.set a (Lin.con 0), cells, [], orc⟩
  else if op = 21 then some ⟨1, r, cells, [], orc⟩
  else if op = 22 then some ⟨3, r, cells, [], orc⟩
  else none
/-- What the plain instruction then comes to. -/
structure OneR (xs : List Int) (now : Int) (i : Nat) (op n : Int) (a : Nat) (f : Fr) (s : St) (o : SO) (q : O1) : Prop where
  how : q.how = o.kd
  at_ : o.kd = 2 → q.f.at_ = n
  sr : SR xs now i o.r o.cells q.f q.s
  thr : q.s.thr = s.thr
  note : op = 21 → (q.nk, q.nv) = (n, f.R a)
  came : o.kd = 3 → q.came = 2
set_option maxHeartbeats 1600000 in
theorem oneS_sound {op n xa : Int} {a b c i : Nat} {now : Int} {r : List Lin} {cells : List (Option Lin)} {orc : List Bool} {f : Fr} {s : St} {xs : List Int} {o : SO} (h : SR xs now i r cells f s) (hx : ∀ x ∈ xs, x.natAbs ≤ 100000)
    (ho : oneS op n xa a b c i now r cells orc = some o) (hc : ∀ p ∈ o.cs, holdC xs p) : ∃ q, oneQ op n xa a b c i f s = some q ∧ OneR xs now i op n a f s o q := by
  unfold oneS at ho
  unfold oneQ
  have hR := h.R
  by_cases e : op = 1
  · rw [if_pos e] at ho ⊢; obtain rfl := Option.some.inj ho
    exact ⟨_, rfl, rfl, (fun h => by cases h), h.setR a _ (Lin.val_con _ _).symm, rfl, (fun h => by omega), (fun h => by cases h)⟩
  rw [if_neg e] at ho ⊢
  by_cases e : op = 2
  · rw [if_pos e] at ho ⊢; obtain rfl := Option.some.inj ho
    exact ⟨_, rfl, rfl, (fun h => by cases h), h.setR a _ (hR b), rfl, (fun h => by omega), (fun h => by cases h)⟩
  rw [if_neg e] at ho ⊢
  by_cases e : op = 3
  · rw [if_pos e] at ho ⊢
    split at ho
    · rename_i hs
      obtain rfl := Option.some.inj ho
      exact ⟨_, rfl, rfl, (fun h => by cases h), h.setR a _ (by rw [hR b, hR c, ← Lin.val_add]; exact Lin.val_small hs hx), rfl, (fun h => by omega), (fun h => by cases h)⟩
    · cases ho
  rw [if_neg e] at ho ⊢
  by_cases e : op = 4
  · rw [if_pos e] at ho ⊢
    split at ho
    · rename_i hs
      obtain rfl := Option.some.inj ho
      exact ⟨_, rfl, rfl, (fun h => by cases h), h.setR a _ (by rw [show f.R b + n = ((rS r b).add (Lin.con n)).val xs by rw [Lin.val_add, Lin.val_con, hR b]]; exact Lin.val_small hs hx), rfl, (fun h => by omega), (fun h => by cases h)⟩
    · cases ho
  rw [if_neg e] at ho ⊢
  have hadr : f.R b + n = ((rS r b).add (Lin.con n)).val xs := by rw [Lin.val_add, Lin.val_con, hR b]
  by_cases e : op = 5
  · rw [if_pos e] at ho ⊢
    split at ho
    · rename_i k v hv
      obtain ⟨u, hu, hm⟩ := addrS_sound h hx hv
      obtain rfl := Option.some.inj ho
      rw [hadr, hu]
      exact ⟨_, rfl, rfl, (fun h => by cases h), h.setR a _ (hm v rfl), rfl, (fun h => by omega), (fun h => by cases h)⟩
    · cases ho
  rw [if_neg e] at ho ⊢
  by_cases e : op = 6
  · rw [if_pos e] at ho ⊢
    split at ho
    · rename_i k v hv
      obtain ⟨u, hu, hm⟩ := addrS_sound h hx hv
      obtain rfl := Option.some.inj ho
      rw [hadr, hu]
      exact ⟨_, rfl, rfl, (fun h => by cases h), h.setC k _ (hR a), rfl, (fun h => by omega), (fun h => by cases h)⟩
    · cases ho
  rw [if_neg e] at ho ⊢
  by_cases e : op = 7
  · rw [if_pos e] at ho ⊢
    split at ho
    · rename_i h13
      rw [if_pos h13]
      split at ho
      · rename_i k v hv
        obtain ⟨u, hu, hm⟩ := addrS_sound h hx hv
        have hm := hm v rfl
        rw [hadr, hu]
        split at ho
        · rename_i cs o' hd
          obtain rfl := Option.some.inj ho
          have := decS_sound hd hc
          simp [Lin.val_sub] at this
          have hq : u = f.R a := by rw [hm, hR a]; omega
          simp only [if_pos hq]
          exact ⟨_, rfl, rfl, (fun h => by cases h), (h.setR (a + 2) (Lin.con 1) (Lin.val_con _ _).symm).setC k _ (hR (a + 1)), rfl, (fun h => by omega), (fun h => by cases h)⟩
        · rename_i cs o' hd
          obtain rfl := Option.some.inj ho
          have := decS_sound hd hc
          simp [Lin.val_sub] at this
          have hq : ¬ u = f.R a := by rw [hm, hR a]; omega
          simp only [if_neg hq]
          exact ⟨_, rfl, rfl, (fun h => by cases h), h.setR (a + 2) (Lin.con 0) (Lin.val_con _ _).symm, rfl, (fun h => by omega), (fun h => by cases h)⟩
        · cases ho
      · cases ho
    · cases ho
  rw [if_neg e] at ho ⊢
  by_cases e : op = 8
  · rw [if_pos e] at ho ⊢; obtain rfl := Option.some.inj ho
    exact ⟨_, rfl, rfl, (fun _ => rfl), h.at' n, rfl, (fun h => by omega), (fun h => by cases h)⟩
  rw [if_neg e] at ho ⊢
  by_cases e : op = 9
  · rw [if_pos e] at ho ⊢
    split at ho
    · rename_i cs o' hd
      obtain rfl := Option.some.inj ho
      have := decS_sound hd hc
      simp [Lin.val_sub] at this
      rw [if_pos (by rw [hR a, hR b]; omega)]
      exact ⟨_, rfl, rfl, (fun _ => rfl), h.at' n, rfl, (fun h => by omega), (fun h => by cases h)⟩
    · rename_i cs o' hd
      obtain rfl := Option.some.inj ho
      have := decS_sound hd hc
      simp [Lin.val_sub] at this
      rw [if_neg (by rw [hR a, hR b]; omega)]
      exact ⟨_, rfl, rfl, (fun h => by cases h), h, rfl, (fun h => by omega), (fun h => by cases h)⟩
    · cases ho
  rw [if_neg e] at ho ⊢
  by_cases e : op = 10
  · rw [if_pos e] at ho ⊢
    split at ho
    · rename_i cs o' hd
      obtain rfl := Option.some.inj ho
      have := decS_sound hd hc
      simp [Lin.val_sub] at this
      rw [if_pos (by rw [hR a, hR b]; omega)]
      exact ⟨_, rfl, rfl, (fun _ => rfl), h.at' n, rfl, (fun h => by omega), (fun h => by cases h)⟩
    · rename_i cs o' hd
      obtain rfl := Option.some.inj ho
      have := decS_sound hd hc
      simp [Lin.val_sub] at this
      rw [if_neg (by rw [hR a, hR b]; omega)]
      exact ⟨_, rfl, rfl, (fun h => by cases h), h, rfl, (fun h => by omega), (fun h => by cases h)⟩
    · cases ho
  rw [if_neg e] at ho ⊢
  by_cases e : op = 11
  · rw [if_pos e] at ho ⊢
    split at ho
    · rename_i cs o' hd
      obtain rfl := Option.some.inj ho
      have := decS_sound hd hc
      simp [Lin.val_sub] at this
      rw [if_pos (by rw [hR a, hR b]; omega)]
      exact ⟨_, rfl, rfl, (fun _ => rfl), h.at' n, rfl, (fun h => by omega), (fun h => by cases h)⟩
    · rename_i cs o' hd
      obtain rfl := Option.some.inj ho
      have := decS_sound hd hc
      simp [Lin.val_sub] at this
      rw [if_neg (by rw [hR a, hR b]; omega)]
      exact ⟨_, rfl, rfl, (fun h => by cases h), h, rfl, (fun h => by omega), (fun h => by cases h)⟩
    · cases ho
  rw [if_neg e] at ho ⊢
  by_cases e16 : op = 16
  · rw [if_pos e16] at ho
    rw [if_neg (by omega), if_neg (by omega), if_pos e16]
    split at ho
    · rename_i hq
      obtain rfl := Option.some.inj ho
      rw [if_pos (by rw [h.hl]; exact hq)]
      refine ⟨_, rfl, rfl, (fun h => by cases h), ?_, rfl, (fun h => by omega), (fun h => by cases h)⟩
      refine ⟨by simp only [Fr.set, h.hr, List.map_set, Lin.val_con, h.hl], by simp [h.hl], fun j l hj => ?_, h.hn, h.ht⟩
      dsimp only at hj ⊢
      by_cases hlt : j < cells.length
      · rw [List.getElem?_append_left hlt] at hj
        rw [List.getElem?_append_left (by rw [h.hl]; exact hlt)]
        exact h.hc j l hj
      · rw [List.getElem?_append_right (by omega)] at hj
        rw [List.getElem?_append_right (by rw [h.hl]; omega), h.hl]
        have hb := (List.getElem?_eq_some_iff.1 hj).1
        rw [List.length_replicate] at hb
        rw [List.getElem?_replicate_of_lt hb] at hj ⊢
        obtain rfl := Option.some.inj (Option.some.inj hj)
        rw [Lin.val_con]
    · cases ho
  rw [if_neg e16] at ho
  by_cases e : op = 17
  · rw [if_pos e] at ho
    rw [if_neg (by omega), if_neg (by omega), if_neg (by omega), if_pos e]; obtain rfl := Option.some.inj ho
    exact ⟨_, rfl, rfl, (fun h => by cases h), h.setR a _ (Lin.val_con _ _).symm, rfl, (fun h => by omega), (fun h => by cases h)⟩
  rw [if_neg e] at ho
  by_cases e : op = 18
  · rw [if_pos e] at ho
    rw [if_neg (by omega), if_neg (by omega), if_neg (by omega), if_neg (by omega), if_pos e]; obtain rfl := Option.some.inj ho
    exact ⟨_, rfl, rfl, (fun h => by cases h), h.setR a _ (by rw [Lin.val_con, h.hn]), rfl, (fun h => by omega), (fun h => by cases h)⟩
  rw [if_neg e] at ho
  by_cases e : op = 19
  · rw [if_pos e] at ho
    rw [if_neg (by omega), if_neg (by omega), if_neg (by omega), if_neg (by omega), if_neg (by omega), if_pos e]; obtain rfl := Option.some.inj ho
    obtain ⟨p, hp, hfl⟩ := h.ht
    simp only [hp, if_pos hfl]
    exact ⟨_, rfl, rfl, (fun h => by cases h), h.setR a _ (Lin.val_con _ _).symm, rfl, (fun h => by omega), (fun h => by cases h)⟩
  rw [if_neg e] at ho
  by_cases e : op = 21
  · rw [if_pos e] at ho
    rw [if_neg (by omega), if_neg (by omega), if_neg (by omega), if_neg (by omega), if_neg (by omega), if_neg (by omega), if_pos e]; obtain rfl := Option.some.inj ho
    exact ⟨_, rfl, rfl, (fun h => by cases h), h, rfl, (fun _ => rfl), (fun h => by cases h)⟩
  rw [if_neg e] at ho
  by_cases e : op = 22
  · rw [if_pos e] at ho
    rw [if_neg (by omega), if_neg (by omega), if_neg (by omega), if_neg (by omega), if_neg (by omega), if_neg (by omega), if_neg (by omega), if_pos e]; obtain rfl := Option.some.inj ho
    exact ⟨_, rfl, rfl, (fun h => by cases h), h, rfl, (fun h => by omega), (fun _ => rfl)⟩
  rw [if_neg e] at ho
  cases ho
structure SS where
  at_ : Int
  r : List Lin
  rs : List (Int × List Lin)
  cells : List (Option Lin)
  notes : List (Int × Lin)
  cs : List (Lin × Nat)
  orc : List Bool
def stepS (code : List Ins) (i : Nat) (now : Int) : Nat → Bool → SS → Option (SS × Int × Lin)
  | 0, _, _ => none
  | fuel + 1, first, S =>
    if S.at_ < 0 then none else
    match code[S.at_.toNat]? with
    | none => none
    | some x =>
      if first = false ∧ 5 ≤ x.op ∧ x.op ≤ 7 then some (S, 0, Lin.con 0)
      else if x.op = 12 then (if 15 ≤ S.rs.length then none else stepS code i now fuel false { S with rs := (S.at_ + 1, S.r) :: S.rs, at_ := x.n })
      else if x.op = 13 then (match S.rs with
        | [] => none
        | g :: rs' => stepS code i now fuel false { S with rs := rs', at_ := g.1, r := (g.2.set 0 (rS S.r 0)).set 1 (rS S.r 1) })
      else match oneS x.op x.n x.a x.a.toNat x.b.toNat x.c.toNat i now S.r S.cells S.orc with
        | none => none
        | some o =>
          if o.kd = 3 then some (⟨S.at_ + 1, o.r, S.rs, o.cells, if x.op = 21 then S.notes ++ [(x.n, rS S.r x.a.toNat)] else S.notes, S.cs ++ o.cs, o.orc⟩, 2, rS o.r x.a.toNat)
          else stepS code i now fuel false ⟨if o.kd = 2 then x.n else S.at_ + 1, o.r, S.rs, o.cells, if x.op = 21 then S.notes ++ [(x.n, rS S.r x.a.toNat)] else S.notes, S.cs ++ o.cs, o.orc⟩
def alS (code : List Ins) (i : Nat) (now : Int) : Nat → SS → Option (SS × Lin)
  | 0, _ => none
  | n + 1, S => match stepS code i now 200 true S with
    | none => none
    | some (S', how, v) => if how = 2 then some (S', v) else if how = 0 then alS code i now n S' else none
structure SRel (xs : List Int) (now : Int) (i : Nat) (S : SS) (rs : List Fr) (f : Fr) (s : St) : Prop where
  at_ : f.at_ = S.at_
  rs : rs = S.rs.map (fun p => ⟨p.1, p.2.map (·.val xs)⟩)
  sr : SR xs now i S.r S.cells f s
def nval (xs : List Int) (l : List (Int × Lin)) : List (Int × Int) := l.map (fun p => (p.1, p.2.val xs))
theorem nval_app (xs : List Int) (a b : List (Int × Lin)) : nval xs (a ++ b) = nval xs a ++ nval xs b := by simp [nval]
theorem stepS_cs {code : List Ins} {i : Nat} {now : Int} : ∀ (fuel : Nat) (first : Bool) (S S' : SS) (how : Int) (v : Lin), stepS code i now fuel first S = some (S', how, v) → (∃ e, S'.cs = S.cs ++ e) ∧ (∃ e, S'.notes = S.notes ++ e)
  | 0, _, _, _, _, _, h => by rw [stepS] at h; cases h
  | fuel + 1, first, S, S', how, v, h => by
    rw [stepS] at h
    split at h
    · cases h
    split at h
    · cases h
    rename_i x hx
    split at h
    · simp only [Option.some.injEq, Prod.mk.injEq] at h
      obtain ⟨rfl, _, _⟩ := h
      exact ⟨⟨[], by simp⟩, ⟨[], by simp⟩⟩
    split at h
    · split at h
      · cases h
      · have h2 := stepS_cs fuel _ _ _ _ _ h
        exact h2
    split at h
    · split at h
      · cases h
      · have h2 := stepS_cs fuel _ _ _ _ _ h
        exact h2
    split at h
    · cases h
    rename_i o ho
    have hn : ∃ e, (if x.op = 21 then S.notes ++ [(x.n, rS S.r x.a.toNat)] else S.notes) = S.notes ++ e := by split; (· exact ⟨_, rfl⟩); (· exact ⟨[], by simp⟩)
    obtain ⟨e1, he1⟩ := hn
    split at h
    · simp only [Option.some.injEq, Prod.mk.injEq] at h
      obtain ⟨rfl, _, _⟩ := h
      exact ⟨⟨_, rfl⟩, ⟨e1, he1⟩⟩
    · obtain ⟨⟨e, he⟩, ⟨e2, he2⟩⟩ := stepS_cs fuel _ _ _ _ _ h
      dsimp only at he he2
      exact ⟨⟨o.cs ++ e, by rw [he, List.append_assoc]⟩, ⟨e1 ++ e2, by rw [he2, he1, List.append_assoc]⟩⟩
theorem alS_cs {code : List Ins} {i : Nat} {now : Int} : ∀ (n : Nat) (S S' : SS) (v : Lin), alS code i now n S = some (S', v) → ∃ e, S'.cs = S.cs ++ e
  | 0, _, _, _, h => by rw [alS] at h; cases h
  | n + 1, S, S', v, h => by
    rw [alS] at h
    split at h
    · cases h
    rename_i S1 how v1 h1
    obtain ⟨⟨e, he⟩, _⟩ := stepS_cs _ _ _ _ _ _ h1
    split at h
    · simp only [Option.some.injEq, Prod.mk.injEq] at h
      obtain ⟨rfl, _⟩ := h
      exact ⟨e, he⟩
    split at h
    · obtain ⟨e', he'⟩ := alS_cs n S1 S' v h
      exact ⟨e ++ e', by rw [he', he, List.append_assoc]⟩
    · cases h
theorem stepS_sound {code : List Ins} {i : Nat} {now : Int} {xs : List Int} (hx : ∀ x ∈ xs, x.natAbs ≤ 100000) (hmay : ∀ x ∈ code, mayB x = true) : ∀ (fuel : Nat) (first : Bool) (S S' : SS) (how : Int) (v : Lin) (rs : List Fr) (f : Fr) (s : St) (n0 : List (Int × Int)),
    stepS code i now fuel first S = some (S', how, v) → SRel xs now i S rs f s → (∀ p ∈ S'.cs, holdC xs p) →
    ∃ R, stepG code i fuel first rs f s n0 = some R ∧ R.how = how ∧ (how = 2 → R.val = v.val xs) ∧ SRel xs now i S' R.rs R.f R.s ∧ R.s.thr = s.thr ∧ (∀ e, S'.notes = S.notes ++ e → R.notes = n0 ++ nval xs e)
  | 0, _, _, _, _, _, _, _, _, _, h, _, _ => by rw [stepS] at h; cases h
  | fuel + 1, first, S, S', how, v, rs, f, s, n0, h, hS, hc => by
    rw [stepS] at h
    rw [stepG.eq_def]
    dsimp only
    rw [hS.at_]
    split at h
    · cases h
    rename_i h0
    rw [if_neg h0]
    split at h
    · cases h
    rename_i x hcx
    simp only [hcx]
    rw [if_neg (by rw [hmay x (List.mem_of_getElem? hcx)]; simp)]
    split at h
    · rename_i hq
      rw [if_pos hq]
      simp only [Option.some.injEq, Prod.mk.injEq] at h
      obtain ⟨rfl, rfl, rfl⟩ := h
      refine ⟨_, rfl, rfl, (fun h => by cases h), hS, rfl, fun e he => ?_⟩
      have : e = [] := by simpa using he
      subst this
      simp [nval]
    rename_i hq
    rw [if_neg hq]
    have hrl : rs.length = S.rs.length := by rw [hS.rs]; simp
    split at h
    · rename_i h12
      rw [if_pos h12]
      split at h
      · cases h
      rename_i hl
      rw [if_neg (by rw [hrl]; exact hl)]
      have h2 := stepS_sound hx hmay fuel false _ S' how v (f.goes :: rs) ⟨x.n, f.r⟩ s n0 h ⟨rfl, by simp [hS.rs, Fr.goes, hS.at_, hS.sr.hr], ⟨hS.sr.hr, hS.sr.hl, hS.sr.hc, hS.sr.hn, hS.sr.ht⟩⟩ hc
      exact h2
    rename_i h12
    rw [if_neg h12]
    split at h
    · rename_i h13
      rw [if_pos h13]
      split at h
      · cases h
      rename_i g rs' hg
      have hrs := hS.rs
      rw [hg, List.map_cons] at hrs
      rw [hrs]
      dsimp only
      have h2 := stepS_sound hx hmay fuel false _ S' how v (rs'.map (fun p => ⟨p.1, p.2.map (·.val xs)⟩)) ((Fr.set ⟨g.1, g.2.map (·.val xs)⟩ 0 (f.R 0)).set 1 (f.R 1)) s n0 h ⟨rfl, rfl, ⟨by simp only [Fr.set, List.map_set, hS.sr.R], hS.sr.hl, hS.sr.hc, hS.sr.hn, hS.sr.ht⟩⟩ hc
      exact h2
    rename_i h13
    rw [if_neg h13]
    split at h
    · cases h
    rename_i o ho
    have hcs : ∀ p ∈ o.cs, holdC xs p := by
      intro p hp
      split at h
      · simp only [Option.some.injEq, Prod.mk.injEq] at h
        obtain ⟨rfl, _, _⟩ := h
        exact hc p (List.mem_append_right _ hp)
      · obtain ⟨⟨e, he⟩, _⟩ := stepS_cs _ _ _ _ _ _ h
        exact hc p (by rw [he]; exact List.mem_append_left _ (List.mem_append_right _ hp))
    obtain ⟨q, hq1, hq2⟩ := oneS_sound hS.sr hx ho hcs
    have hq1' : oneP x i f s = some q := hq1
    simp only [hq1']
    have hnote : (if x.op = 21 then n0 ++ [(q.nk, q.nv)] else n0) = n0 ++ nval xs (if x.op = 21 then [(x.n, rS S.r x.a.toNat)] else []) := by
      split
      · rename_i h21
        rw [hq2.note h21, hS.sr.R]; rfl
      · simp [nval]
    have hnoteS : (if x.op = 21 then S.notes ++ [(x.n, rS S.r x.a.toNat)] else S.notes) = S.notes ++ (if x.op = 21 then [(x.n, rS S.r x.a.toNat)] else []) := by split <;> simp
    rw [hnoteS] at h
    rw [hnote]
    generalize (if x.op = 21 then [(x.n, rS S.r x.a.toNat)] else []) = nw at h ⊢
    split at h
    · rename_i hk
      have hw : q.how = 3 := by rw [hq2.how, hk]; rfl
      rw [if_pos hw]
      simp only [Option.some.injEq, Prod.mk.injEq] at h
      obtain ⟨rfl, rfl, rfl⟩ := h
      rw [hw, if_neg (by decide : ¬ (3 : Int) = 2), hq2.came hk]
      refine ⟨_, rfl, rfl, fun _ => ?_, ⟨rfl, hS.rs, ⟨hq2.sr.hr, hq2.sr.hl, hq2.sr.hc, hq2.sr.hn, hq2.sr.ht⟩⟩, hq2.thr, fun e he => ?_⟩
      · exact SR.R ⟨hq2.sr.hr, hq2.sr.hl, hq2.sr.hc, hq2.sr.hn, hq2.sr.ht⟩ _
      · have : nw = e := by simpa using he
        rw [this]
    · rename_i hk
      have hw : ¬ q.how = 3 := by rw [hq2.how]; omega
      rw [if_neg hw]
      obtain ⟨_, ⟨e', he'⟩⟩ := stepS_cs _ _ _ _ _ _ h
      have hrel : SRel xs now i ⟨if o.kd = 2 then x.n else S.at_ + 1, o.r, S.rs, o.cells, S.notes ++ nw, S.cs ++ o.cs, o.orc⟩ rs (if q.how = 2 then q.f else { q.f with at_ := S.at_ + 1 }) q.s := by
        by_cases h2 : o.kd = 2
        · have hh : q.how = 2 := by rw [hq2.how, h2]; rfl
          simp only [if_pos hh, if_pos h2]
          exact ⟨hq2.at_ h2, hS.rs, ⟨hq2.sr.hr, hq2.sr.hl, hq2.sr.hc, hq2.sr.hn, hq2.sr.ht⟩⟩
        · have hh : ¬ q.how = 2 := by rw [hq2.how]; omega
          simp only [if_neg hh, if_neg h2]
          exact ⟨rfl, hS.rs, ⟨hq2.sr.hr, hq2.sr.hl, hq2.sr.hc, hq2.sr.hn, hq2.sr.ht⟩⟩
      obtain ⟨R, hR, h1, h2, h3, h4, h5⟩ := stepS_sound hx hmay fuel false _ S' how v rs _ q.s (n0 ++ nval xs nw) h hrel hc
      refine ⟨R, hR, h1, h2, h3, h4.trans hq2.thr, fun e he => ?_⟩
      dsimp only at he'
      have hee : e = nw ++ e' := by rw [he', List.append_assoc] at he; exact (List.append_cancel_left he).symm
      rw [h5 e' he', hee, nval_app, List.append_assoc]
theorem alS_sound {code : List Ins} {i : Nat} {now : Int} {xs : List Int} (hx : ∀ x ∈ xs, x.natAbs ≤ 100000) (hmay : ∀ x ∈ code, mayB x = true) : ∀ (n : Nat) (S S' : SS) (v : Lin) (rs : List Fr) (f : Fr) (s : St) (n0 : List (Int × Int)),
    alS code i now n S = some (S', v) → SRel xs now i S rs f s → (∀ p ∈ S'.cs, holdC xs p) →
    ∃ s' f', alG code i n rs f s n0 = some (v.val xs, n0 ++ nval xs (S'.notes.drop S.notes.length), true, s') ∧ SR xs now i S'.r S'.cells f' s' ∧ s'.thr = s.thr
  | 0, _, _, _, _, _, _, _, h, _, _ => by rw [alS] at h; cases h
  | n + 1, S, S', v, rs, f, s, n0, h, hS, hc => by
    rw [alS] at h
    rw [alG]
    split at h
    · cases h
    rename_i S1 how v1 h1
    obtain ⟨_, ⟨en, hen⟩⟩ := stepS_cs _ _ _ _ _ _ h1
    have hc1 : ∀ p ∈ S1.cs, holdC xs p := by
      intro p hp
      split at h
      · simp only [Option.some.injEq, Prod.mk.injEq] at h
        obtain ⟨rfl, _⟩ := h
        exact hc p hp
      split at h
      · obtain ⟨e, he⟩ := alS_cs _ _ _ _ h
        exact hc p (by rw [he]; exact List.mem_append_left _ hp)
      · cases h
    obtain ⟨R, hR, g1, g2, g3, g4, g5⟩ := stepS_sound hx hmay 200 true S S1 how v1 rs f s [] h1 hS hc1
    have hn := g5 en hen
    rw [List.nil_append] at hn
    simp only [hR]
    split at h
    · rename_i hw
      simp only [Option.some.injEq, Prod.mk.injEq] at h
      obtain ⟨rfl, rfl⟩ := h
      rw [if_pos (g1.trans hw), g2 hw, hn]
      exact ⟨R.s, R.f, by rw [hen, List.drop_left], g3.sr, g4⟩
    rename_i hw
    split at h
    · rename_i hw0
      rw [if_neg (by rw [g1]; exact hw), if_pos (g1.trans hw0)]
      obtain ⟨s', f', k1, k2, k3⟩ := alS_sound hx hmay n S1 S' v R.rs R.f R.s (n0 ++ R.notes) h g3 hc
      refine ⟨s', f', ?_, k2, k3.trans g4⟩
      rw [k1, hn]
      have hnn : ∀ m S S' v, alS code i now m S = some (S', v) → ∃ e, S'.notes = S.notes ++ e := by
        intro m
        induction m with
        | zero => intro S S' v h; rw [alS] at h; cases h
        | succ m ih =>
          intro S S' v h
          rw [alS] at h
          split at h
          · cases h
          rename_i S2 how2 v2 h2
          obtain ⟨_, ⟨e, he⟩⟩ := stepS_cs _ _ _ _ _ _ h2
          split at h
          · simp only [Option.some.injEq, Prod.mk.injEq] at h
            obtain ⟨rfl, _⟩ := h
            exact ⟨e, he⟩
          split at h
          · obtain ⟨e', he'⟩ := ih S2 S' v h
            exact ⟨e ++ e', by rw [he', he, List.append_assoc]⟩
          · cases h
      obtain ⟨e', he'⟩ := hnn _ _ _ _ h
      rw [he', List.drop_left, hen, show S.notes ++ en ++ e' = S.notes ++ (en ++ e') from List.append_assoc _ _ _, List.drop_left, nval_app, List.append_assoc]
    · cases h
end Go.Proofs.Ytegjkheecbmioaa
