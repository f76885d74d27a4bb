/- The walk of pack.numbers. -/
import Derived.Test.YtikfkkinhipfjaaNum
import Derived.Lib.Zigzag
import Derived.Laws.Bits64
import Derived.Laws.BitsAllLaws
namespace Go.Proofs.Ytikfkkinhipfjaa
open Go.RowKit Go.ChangeShapes
set_option linter.unusedVariables false
set_option linter.unusedSimpArgs false

def I64.enc (n : Int) : List Value := [.int .i64 n]
def kI64 : Kd Int := Kd.fn 1 I64.enc (fun _ => rfl) (by intro x u hu; simp [I64.enc] at hu; subst hu; rfl) (by decide)
theorem at_i64 {ok : Nat → Prop} {w : World} {A : Option Addr} {xs : List Int} (h : kI64.C ok w A xs) (i : Nat) (hi : i < xs.length) : ∃ ad n, A = some ad ∧ xs[i]? = some n ∧ w.cell? (ad.add i) = some (.int .i64 n) ∧ ok ad.block := by
  obtain ⟨ad, c, e, hk, hK, hc⟩ := h.get i hi
  obtain rfl : c = I64.enc xs[i] := hK
  exact ⟨ad, xs[i], e, List.getElem?_eq_getElem hi, by have hq := hc 0 _ rfl; rwa [show i * kI64.sz + 0 = i from by simp [kI64, Kd.fn]] at hq, hk⟩
def numsB (l : List Int) : List Nat := l.flatMap numB
theorem numsB_take {l : List Int} {k : Nat} {n : Int} (h : l[k]? = some n) : numsB (l.take (k + 1)) = numsB (l.take k) ++ numB n := by
  rw [List.take_add_one, h]
  simp [numsB]
theorem numsB_len {l : List Int} (h : ∀ n ∈ l, (Lit.int .i64 n).wf = true) : (numsB l).length ≤ 10 * l.length := by
  induction l with
  | nil => simp [numsB]
  | cons a l ih =>
    have h1 := bounds_i64 (h a (by simp))
    have h2 : (numB a).length ≤ 10 := leb_len10 (zig_lt h1.1 h1.2)
    have h3 := ih (fun n hn => h n (by simp [hn]))
    simp only [numsB, List.flatMap_cons, List.length_append, List.length_cons] at h3 ⊢
    omega
theorem zig_xor {n : Int} (h1 : -9223372036854775808 ≤ n) (h2 : n ≤ 9223372036854775807) :
    bits .xor .u64 (IntKind.u64.wrap (IntKind.u64.wrap n * 2)) (IntKind.u64.wrap (n / 9223372036854775808)) = (zig n : Int) := by
  by_cases h : n < 0
  · have d : n / 9223372036854775808 = -1 := by omega
    have e1 : IntKind.u64.wrap (IntKind.u64.wrap n * 2) = (((2 * n + 18446744073709551616).toNat : Nat) : Int) := by rw [IntKind.wrap_u64, IntKind.wrap_u64]; omega
    have e2 : IntKind.u64.wrap (-1) = ((2 ^ 64 - 1 : Nat) : Int) := by decide
    rw [d, e1, e2, bits_xor_u64_nat _ _ (by omega) (by decide), Nat.xor_comm, Go.Lib.xor_ones64 _ (by omega)]
    have := zig_neg h
    omega
  · have d : n / 9223372036854775808 = 0 := by omega
    have e1 : IntKind.u64.wrap (IntKind.u64.wrap n * 2) = (((2 * n).toNat : Nat) : Int) := by rw [IntKind.wrap_u64, IntKind.wrap_u64]; omega
    have e2 : IntKind.u64.wrap 0 = ((0 : Nat) : Int) := by decide
    rw [d, e1, e2, bits_xor_u64_nat _ _ (by omega) (by decide), Nat.xor_zero]
    have := zig_pos h
    omega
theorem or128 : ∀ x, x < 256 → x ||| 128 = x % 128 + 128 := by decide +kernel
theorem byte_or (k : Nat) : bits .or .u8 ((k : Int) % 256) 128 = ((k % 128 + 128 : Nat) : Int) := by
  have e1 : (k : Int) % 256 = ((k % 256 : Nat) : Int) := by omega
  have e2 : (128 : Int) = ((128 : Nat) : Int) := rfl
  rw [e1, e2, u8_or_nat _ _ (by omega) (by decide), or128 _ (by omega)]
  omega
/-- A row of bytes that grows: what the calls and loops that append to it keep. -/
structure ByteRow (w : World) (base : Nat) (v0 : Value) (v : Value) (xs : List Nat) (wr : World) : Prop where
  own : wr.ownsRow base 5 1 v xs.length (xs.map byteV)
  on : Only (fun b => some b = v0.ownBlock) w wr
  loc : v.ownBlock = v0.ownBlock ∨ ∃ b, v.ownBlock = some b ∧ w.heap.size ≤ b
theorem ByteRow.more {w wr w1 : World} {base : Nat} {v0 v : Value} {xs : List Nat} {o : Obj} {A : Option Addr} {c x : Nat} {u : Value} (h : ByteRow w base v0 v xs wr) (hu : u = byteV x)
    (ho : w1.ownsRow base 5 1 (.slice A (xs.length + 1) c) (xs.length + 1) (xs.map byteV ++ [u])) (hg : (wr.alloc o).grownBy w1 v.ownBlock)
    (hv : (Value.slice A (xs.length + 1) c).ownBlock = v.ownBlock ∨ (Value.slice A (xs.length + 1) c).ownBlock = some (wr.heap.size + 1)) : ByteRow w base v0 (.slice A (xs.length + 1) c) (xs ++ [x]) w1 := by
  subst hu
  refine ⟨by simpa using ho, (h.on.alloc o).grown hg (fun b hb => ?_), ?_⟩
  · rcases h.loc with e | ⟨b', e, hb'⟩
    · rw [e] at hb; exact .inl hb.symm
    · rw [e] at hb; obtain rfl := Option.some.inj hb; exact .inr hb'
  · rcases hv with e | e
    · rw [e]; exact h.loc
    · exact .inr ⟨_, e, Nat.le_trans h.on.size (by omega)⟩
structure NumInv (w : World) (base : Nat) (v0 : Value) (goal : List Nat) (u : Nat) (v : Value) (xs : List Nat) (wr : World) : Prop where
  lt : u < 18446744073709551616
  e : goal = xs ++ leb u
  row : ByteRow w base v0 v xs wr
theorem NumInv.len {w : World} {base : Nat} {v0 : Value} {goal : List Nat} {u : Nat} {v : Value} {xs : List Nat} {wr : World} (h : NumInv w base v0 goal u v xs wr) : xs.length ≤ goal.length := by
  rw [h.e, List.length_append]; omega
theorem num_last {w wr w1 : World} {base : Nat} {v0 v : Value} {goal xs : List Nat} {o : Obj} {A : Option Addr} {c k : Nat} {u : Value} (h : NumInv w base v0 goal k v xs wr) (hk : k < 128) (hu : u = byteV k)
    (ho : w1.ownsRow base 5 1 (.slice A (xs.length + 1) c) (xs.length + 1) (xs.map byteV ++ [u])) (hg : (wr.alloc o).grownBy w1 v.ownBlock)
    (hv : (Value.slice A (xs.length + 1) c).ownBlock = v.ownBlock ∨ (Value.slice A (xs.length + 1) c).ownBlock = some (wr.heap.size + 1)) : ByteRow w base v0 (.slice A (xs.length + 1) c) goal w1 := by
  rw [h.e, leb_lt hk]
  exact h.row.more hu ho hg hv
theorem num_more {w wr w1 : World} {base : Nat} {v0 v : Value} {goal xs : List Nat} {o : Obj} {A : Option Addr} {c k : Nat} {u : Value} (h : NumInv w base v0 goal k v xs wr) (hk : 128 ≤ k) (hu : u = byteV (k % 128 + 128))
    (ho : w1.ownsRow base 5 1 (.slice A (xs.length + 1) c) (xs.length + 1) (xs.map byteV ++ [u])) (hg : (wr.alloc o).grownBy w1 v.ownBlock)
    (hv : (Value.slice A (xs.length + 1) c).ownBlock = v.ownBlock ∨ (Value.slice A (xs.length + 1) c).ownBlock = some (wr.heap.size + 1)) : NumInv w base v0 goal (k / 128) (.slice A (xs.length + 1) c) (xs ++ [k % 128 + 128]) w1 :=
  ⟨by have := h.lt; omega, by rw [h.e, leb_ge hk]; simp, h.row.more hu ho hg hv⟩
set_option maxRecDepth 100000 in
set_option maxHeartbeats 3200000 in
theorem numbers_calls {ok : Nat → Prop} (w : World) (base : Nat) (v0 : Value) (xs : List Nat) (l : List Int) (A : Option Addr) (c : Nat) (hl : kI64.C ok w A l) (hown : w.ownsRow base 5 1 v0 xs.length (xs.map byteV))
    (hok : ∀ b, ok b → ¬ some b = v0.ownBlock) (hbase : base ≤ w.heap.size) (hlen : xs.length + 10 * l.length ≤ 1000000) (hwf : ∀ n ∈ l, (Lit.int .i64 n).wf = true) :
    Calls Try.prog 19 #[v0, .slice A l.length c] w fun e w' => ∃ v, e = .returned v ∧ ByteRow w base v0 v (xs ++ numsB l) w' := by
  have hlm := hl.len
  obtain ⟨i0, hi0, hz0, hs0, hb0⟩ := info_u8
  have hU : Try.prog.underlying 29 = some (.slice 5) := Try.underlying29
  have hW := Lib.hid hwf
  clear hwf
  go_enter Try.func19, Try.ntmps19
  go_wp2_with fail
  go_loopw [0, 10] (fun v i wr => ∃ k : Nat, k ≤ l.length ∧ i = .int .i64 k ∧ ByteRow w base v0 v (xs ++ numsB (l.take k)) wr) (fun _ i _ => l.length - (intOf i).toNat)
  case atStart => exact ⟨0, Nat.zero_le _, rfl, ⟨by simpa [numsB] using hown, Only.refl _ _, .inl rfl⟩⟩
  case round =>
    obtain ⟨k, hk, rfl, hR⟩ := hrel
    by_cases hlt : k < l.length
    · obtain ⟨ad, n, rfl, hn, hcell, hadk⟩ := at_i64 hl k hlt
      have hnot : ¬ some (ad.add k).block = v0.ownBlock := by rw [add_block]; exact hok _ hadk
      have hc := hR.on.cell hcell hnot
      have hw := bounds_i64 (hW.out n (List.mem_of_getElem? hn))
      obtain ⟨hw1, hw2⟩ := hw
      have hzx := Lib.hid (zig_xor hw1 hw2)
      have hzl := zig_lt hw1 hw2
      have hnn := Lib.hid hn
      have hgl : (xs ++ numsB (l.take k) ++ numB n).length ≤ 1000000 := by
        have h1 := numsB_len (l := l.take (k + 1)) (fun n hn => hW.out n (List.mem_of_mem_take hn))
        rw [List.take_add_one, hn] at h1
        simp only [numsB, Option.toList, List.flatMap_append, List.flatMap_cons, List.flatMap_nil, List.append_nil, List.length_append, List.length_take, List.length_cons, List.length_nil] at h1 ⊢
        omega
      have HR := Lib.hid hR
      clear hn hR
      obtain ⟨wo, rfl⟩ : ∃ wo : World, wo = wr := ⟨_, rfl⟩
      go_wp2_with fail
      rw [hzx.out]
      go_loopw [0, 7] (fun v u wr => ∃ (j : Nat) (ys : List Nat), u = .int .u64 j ∧ NumInv w base v0 (xs ++ numsB (l.take k) ++ numB n) j v ys wr) (fun _ u _ => (intOf u).toNat)
      case atStart => exact ⟨zig n, _, rfl, hzl, rfl, HR.out⟩
      case round =>
        obtain ⟨j, ys, rfl, hI⟩ := hrel
        have hx := hI.len
        have hju := hI.lt
        have hbs : base ≤ wr.heap.size := Nat.le_trans hbase hI.row.on.size
        have hbo : Value.int .u8 (bits .or .u8 ((j : Int) % 256) 128) = byteV (j % 128 + 128) := by rw [byte_or]; rfl
        have hbo' := Lib.hid hbo
        clear hbo
        by_cases hj : 128 ≤ j
        · go_wp2_with (first | (at_builtin; refine wpList_append_uni rfl _ _ 29 rfl base 5 i0 _ 1 1 hU hi0 hz0 hs0 hb0 rfl (by decide) _ _ _ rfl (hI.row.own.alloc _) _ 1 [Value.int .u8 (bits .or .u8 ((j : Int) % 256) 128)] rfl rfl (Src.of_block (alloc_heap_at _ _) (one_ok _)) (by unfold maxLen; omega) (by omega) (Nat.le_trans hbs (by rw [alloc_size]; omega)) ?_) | fail)
          intro A c w1 o1 g1 h1
          have hJ := num_more hI hj hbo'.out o1 g1 h1
          go_wp2
          go_roundw
          case rel => exact ⟨_, _, by simp, hJ⟩
          case measure => simp [intOf]; omega
        · go_wp2_with (first | (at_builtin; refine wpList_append_uni rfl _ _ 29 rfl base 5 i0 _ 1 1 hU hi0 hz0 hs0 hb0 rfl (by decide) _ _ _ rfl (hI.row.own.alloc _) _ 1 [Value.int .u8 (j : Int)] rfl rfl (Src.of_block (alloc_heap_at _ _) (one_ok _)) (by unfold maxLen; omega) (by omega) (Nat.le_trans hbs (by rw [alloc_size]; omega)) ?_) | fail)
          intro A c w1 o1 g1 h1
          have hJ := num_last hI (by omega) rfl o1 g1 h1
          go_wp2
          go_roundw
          case rel => exact ⟨k + 1, by omega, by simp, by rw [numsB_take hnn.out, ← List.append_assoc]; exact hJ⟩
          case measure => simp [intOf]; omega
    · obtain rfl : k = l.length := by omega
      go_wp2
      go_ret
      rw [List.take_length] at hR
      exact ⟨_, rfl, hR⟩
end Go.Proofs.Ytikfkkinhipfjaa
