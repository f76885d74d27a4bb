/- 'append(v, make([]T, m)...)' onto an owned row. Of no program. -/
import Derived.Test.YtegjkheecbmioaaTy
namespace Go.Proofs.Ytegjkheecbmioaa
open Go.RowKit
set_option linter.unusedVariables false
set_option linter.unusedSimpArgs false

def zs (m : Nat) : List Value := List.replicate m (.int .i64 0)
theorem zeroCells_one (m : Nat) : (Builtin.zeroCells (Value.int .i64 0).cells m).toList = zs m := by
  simp only [Builtin.zeroCells, Value.cells, zs]
  apply List.ext_getElem
  · simp
  · intro i h1 h2
    have : i % 1 = 0 := Nat.mod_one i
    simp [this]
theorem zs_one (m : Nat) : ∀ u ∈ zs m, u.oneCell' = true := by
  intro u hu
  rw [List.eq_of_mem_replicate hu]
  rfl
theorem run_append_zeros {P : Program} (w : World) (base : Nat) (t ti ty e : TypeId) (i : TypeInfo) (ht : P.underlying t = some (.slice e)) (hti : P.underlying ti = some (.int .i64)) (hi : P.info? e = some i) (hz : i.zero = some (.int .i64 0))
    (hsize : i.size = 1) (hby : i.bytes = 8) (v : Value) (n : Nat) (xs : List Value) (hown : w.ownsRow base e 1 v n xs) (m : Nat) (hm : 0 < m) (hm2 : m ≤ 100000) (hn2 : n ≤ 100000) (hbase : base ≤ w.heap.size) :
    ∃ A c w', (Builtin.append_ #[t, ti] ty #[v, .int .i64 m]).run P w = .ok (.slice A (n + m) c) w' ∧ w'.ownsRow base e 1 (.slice A (n + m) c) (n + m) (xs ++ zs m) ∧ w.grownBy w' v.ownBlock := by
  have hzl : (zs m).length = m := by simp [zs]
  have hlen : (xs ++ zs m).length = (n + m) * 1 := by rw [List.length_append, hown.1, hzl]; omega
  have hw : IntKind.i64.wrap (m : Int) = m := by rw [IntKind.wrap_i64]; omega
  have hneg : ¬ ((m : Int) < 0) := by omega
  have h48i : ¬ (281474976710656 < (m : Int) * 8) := by omega
  have hns : ¬ (m = 0) := by omega
  have grown : ∀ (old : Nat), old < n + m → ∀ (row : Option Nat) (cs : Array Value), cs.toList = xs ++ zs m →
      (w.drew.alloc (.cells (cs ++ Builtin.zeroCells (Value.int .i64 0).cells (grownCap w (n + m) old e - (n + m))) e)).ownsRow base e 1
        (.slice (some ⟨w.heap.size, 0, none⟩) (n + m) (grownCap w (n + m) old e)) (n + m) (xs ++ zs m) ∧
      w.grownBy (w.drew.alloc (.cells (cs ++ Builtin.zeroCells (Value.int .i64 0).cells (grownCap w (n + m) old e - (n + m))) e)) row := by
    intro old ho row cs hcs
    have hge := grownCap_ge w (n + m) old e
    have hcm : grownCap w (n + m) old e ≤ maxLen := grownCap_le_maxLen w (n + m) old e (by unfold maxLen; omega)
    have hcl : cs.size = n + m := by have := congrArg List.length hcs; rw [hlen] at this; simpa using this
    refine ⟨⟨hlen, .inr ⟨w.heap.size, _, _, rfl, hbase, heap_alloc_new w.drew _, hge, hcm, ?_, ?_⟩⟩, ⟨rfl, rfl, rfl, by simp, fun k hk _ => Below.heap_alloc w.drew _ k hk⟩⟩
    · simp only [Array.size_append, size_zeroCells, hcl, Value.cells]
      simp
      omega
    · rw [Array.toList_append, hcs, ← hlen]
      exact List.take_left
  rcases hown.2 with ⟨rfl, rfl⟩ | ⟨g, cap, cur, rfl, hbg, hg, hnc, hcm, hcs, htake⟩
  · have hx : xs = [] := List.eq_nil_of_length_eq_zero (by simpa using hown.1)
    subst hx
    have h63' : ¬ (9223372036854775807 < (m : Int)) := by omega
    have h48' : ¬ (281474976710656 < Builtin.nextslicecap m 0 * i.bytes) := by
      rw [hby]
      have : Builtin.nextslicecap m 0 = m := by simp [Builtin.nextslicecap]; omega
      rw [this]; omega
    have hgr := grown 0 (by omega) (Value.ownBlock (.slice none 0 0)) (Builtin.zeroCells (Value.int .i64 0).cells m) (by rw [zeroCells_one]; simp)
    simp only [Nat.zero_add] at hgr ⊢
    refine ⟨_, _, _, ?_, hgr.1, hgr.2⟩
    simp [Builtin.append_, run_underlying ht, run_underlying hti, sizeOf, typeInfo, zeroValue, hi, hz, asInt, asIntOf, hw, hneg, hns, h63', hby, hsize, h48i, Question.forced, Builtin.firstCells, newRow, grownCap]
    intro h
    rw [hby] at h48'
    exact absurd h h48'
  · by_cases hroom : n + m ≤ cap
    · have hfit : n * 1 + (zs m).length ≤ cur.size := by rw [hzl, hcs]; omega
      have hst := run_storeCells_at P g (n * 1) e (zs m) 0 cur w hg (by simpa using hfit) (zs_one m)
      simp only [Nat.add_zero, Nat.mul_one] at hst
      refine ⟨_, _, w.setRow g (cur.toList.take (n * 1) ++ zs m ++ cur.toList.drop (n * 1 + (zs m).length)).toArray, ?_, ⟨hlen, .inr ⟨g, cap, _, rfl, hbg, setRow_heap w g cur _ e _ hg, hroom, hcm, ?_, ?_⟩⟩, ⟨rfl, rfl, rfl, by simp, fun k _ hk => setRow_other w g k _ (fun e => hk (by simp [Value.ownBlock, e]))⟩⟩
      · simp [Builtin.append_, run_underlying ht, run_underlying hti, sizeOf, typeInfo, zeroValue, hi, hz, asInt, asIntOf, hw, hneg, hns, hby, hsize, h48i, hroom, Addr.add_lit, zeroCells_one, hst]
      · simp only [List.size_toArray, List.length_append, List.length_take, List.length_drop, Array.length_toList]
        omega
      · rw [htake, ← hlen]
        exact List.take_left
    · have hn : ¬ (n + m ≤ cap) := hroom
      have h63' : ¬ (9223372036854775807 < ((n : Int) + (m : Int))) := by omega
      have h48' : ¬ (281474976710656 < Builtin.nextslicecap (n + m) cap * i.bytes) := by
        have := growslice_fits (bytes := 8) (show cap < n + m by omega) (by omega)
        rw [hby]; omega
      have holds : ∀ j u, xs[j]? = some u → w.cell? ((⟨g, 0, none⟩ : Addr).add j) = some u := hown.cells (g := g) rfl
      have hfo := run_firstCells_some (P := P) w.drew 1 n ⟨g, 0, none⟩ n cap xs hown.1 (by simpa using holds)
      have hgr := grown cap (by omega) (Value.ownBlock (.slice (some ⟨g, 0, none⟩) n cap)) (xs.toArray ++ Builtin.zeroCells (Value.int .i64 0).cells m) (by rw [Array.toList_append, zeroCells_one])
      refine ⟨_, _, _, ?_, hgr.1, hgr.2⟩
      simp [Builtin.append_, run_underlying ht, run_underlying hti, sizeOf, typeInfo, zeroValue, hi, hz, asInt, asIntOf, hw, hneg, hns, hn, h63', hby, hsize, h48i, Question.forced, hfo, newRow, grownCap]
      intro h
      rw [hby] at h48'
      exact absurd h h48'
theorem wp_append_zeros {P : Program} {w : World} {o : Oper} {a : Act} {K : Act → World → Prop} {Q : Exit → Act → World → Prop} (s x : Operand) (t ti : TypeId)
    (ho : o.op = .call { callee := .builtin .append, args := #[s, x], argTypes := #[t, ti] })
    (base : Nat) (e : TypeId) (i : TypeInfo) (ht : P.underlying t = some (.slice e)) (hti : P.underlying ti = some (.int .i64)) (hi : P.info? e = some i) (hz : i.zero = some (.int .i64 0))
    (hsize : i.size = 1) (hby : i.bytes = 8) (v : Value) (n : Nat) (xs : List Value) (hs : a.eval s = v) (hown : w.ownsRow base e 1 v n xs) (m : Nat) (hx : a.eval x = .int .i64 m) (hm : 0 < m) (hm2 : m ≤ 100000) (hn2 : n ≤ 100000) (hbase : base ≤ w.heap.size)
    (h : ∀ A c w', w'.ownsRow base e 1 (.slice A (n + m) c) (n + m) (xs ++ zs m) → w.grownBy w' v.ownBlock → K (a.put o.dst (.slice A (n + m) c)) w') :
    Oper.wp P o a w K Q := by
  obtain ⟨A, c', w', hr, h2, h3⟩ := run_append_zeros (P := P) w base t ti o.type e i ht hti hi hz hsize hby v n xs hown m hm hm2 hn2 hbase
  unfold Oper.wp execOp
  simp only [ho, resolve, invoke, builtin, Sem.run_bind, Sem.run_pure, Result.andThen_ok, List.map_toArray, List.map_cons, List.map_nil, hs, hx, hr]
  exact h A c' w' h2 h3
theorem wpList_append_zeros {P : Program} {w : World} {ops : Array Oper} {rest : List Oper} {o : Oper} {a : Act} {Q : Exit → Act → World → Prop} (hgd : o.guard = none) (s x : Operand) (t ti : TypeId)
    (ho : o.op = .call { callee := .builtin .append, args := #[s, x], argTypes := #[t, ti] })
    (base : Nat) (e : TypeId) (i : TypeInfo) (ht : P.underlying t = some (.slice e)) (hti : P.underlying ti = some (.int .i64)) (hi : P.info? e = some i) (hz : i.zero = some (.int .i64 0))
    (hsize : i.size = 1) (hby : i.bytes = 8) (v : Value) (n : Nat) (xs : List Value) (hs : a.eval s = v) (hown : w.ownsRow base e 1 v n xs) (m : Nat) (hx : a.eval x = .int .i64 m) (hm : 0 < m) (hm2 : m ≤ 100000) (hn2 : n ≤ 100000) (hbase : base ≤ w.heap.size)
    (h : ∀ A c w', w'.ownsRow base e 1 (.slice A (n + m) c) (n + m) (xs ++ zs m) → w.grownBy w' v.ownBlock → wpList P ops Q rest (a.put o.dst (.slice A (n + m) c)) w') :
    wpList P ops Q (o :: rest) a w :=
  wpList_plain hgd fun _ hK => wp_append_zeros s x t ti ho base e i ht hti hi hz hsize hby v n xs hs hown m hx hm hm2 hn2 hbase fun A c w' h2 h3 => hK _ _ (h A c w' h2 h3)
end Go.Proofs.Ytegjkheecbmioaa
