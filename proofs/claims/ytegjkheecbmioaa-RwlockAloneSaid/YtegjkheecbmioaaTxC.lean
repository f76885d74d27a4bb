/- Walks of the reference's words and Lines. -/
import Derived.Test.YtegjkheecbmioaaTxB
namespace Go.Proofs.Ytegjkheecbmioaa
open Go.RowKit
set_option linter.unusedVariables false
set_option linter.unusedSimpArgs false

/-- What stands between separators. -/
def spl (c : Nat) : List Nat → List (List Nat)
  | [] => [[]]
  | x :: l => if x = c then [] :: spl c l else match spl c l with
    | h :: t => (x :: h) :: t
    | [] => [[x]]
theorem spl_end {c : Nat} {l : List Nat} (h : ∀ y ∈ l, y ≠ c) : spl c l = [l] := by
  induction l with
  | nil => rfl
  | cons x l ih => rw [spl, if_neg (h x (by simp)), ih (fun y hy => h y (by simp [hy]))]
theorem spl_hit {c : Nat} {l : List Nat} {k : Nat} (h : ∀ (j : Nat) y, j < k → l[j]? = some y → y ≠ c) (hk : l[k]? = some c) : spl c l = l.take k :: spl c (l.drop (k + 1)) := by
  induction k generalizing l with
  | zero =>
    cases l with
    | nil => cases hk
    | cons x l => obtain rfl : x = c := by simpa using hk
                  simp [spl]
  | succ k ih =>
    cases l with
    | nil => cases hk
    | cons x l =>
      have hx : x ≠ c := h 0 x (by omega) rfl
      have := ih (l := l) (fun j y hj hy => h (j + 1) y (by omega) (by simpa using hy)) (by simpa using hk)
      rw [spl, if_neg hx, this]
      simp
structure SplInv (c : Nat) (m : List Nat) (pre done : List ByteArray) (f k : Nat) : Prop where
  le : f ≤ k
  top : k ≤ m.length + 1
  run : k ≤ m.length → done ++ (spl c (m.drop f)).map bs = pre ++ (spl c m).map bs ∧ ∀ (j : Nat) y, f ≤ j → j < k → m[j]? = some y → y ≠ c
  end_ : k = m.length + 1 → done = pre ++ (spl c m).map bs
  len : done.length ≤ pre.length + f
theorem SplInv.start (c : Nat) (m : List Nat) (pre : List ByteArray) : SplInv c m pre pre 0 0 := ⟨Nat.le_refl _, by omega, fun _ => ⟨by simp, fun j y _ h => absurd h (Nat.not_lt_zero _)⟩, fun h => by omega, by omega⟩
theorem SplInv.more {c : Nat} {m : List Nat} {pre done : List ByteArray} {f k x : Nat} (h : SplInv c m pre done f k) (hk : m[k]? = some x) (hx : x ≠ c) : SplInv c m pre done f (k + 1) := by
  have hl : k < m.length := (List.getElem?_eq_some_iff.1 hk).1
  refine ⟨by have := h.le; omega, by omega, fun _ => ⟨(h.run (by omega)).1, fun j y hf hj hy => ?_⟩, fun e => by omega, h.len⟩
  by_cases e : j = k
  · subst e; rw [hk] at hy; rw [← Option.some.inj hy]; exact hx
  · exact (h.run (by omega)).2 j y hf (by omega) hy
theorem SplInv.hit {c : Nat} {m : List Nat} {pre done : List ByteArray} {f k : Nat} (h : SplInv c m pre done f k) (hk : m[k]? = some c) : SplInv c m pre (done ++ [bs ((m.take k).drop f)]) (k + 1) (k + 1) := by
  have hl : k < m.length := (List.getElem?_eq_some_iff.1 hk).1
  have hf := h.le
  obtain ⟨r1, r2⟩ := h.run (by omega)
  have hs : spl c (m.drop f) = (m.drop f).take (k - f) :: spl c ((m.drop f).drop (k - f + 1)) := by
    refine spl_hit (fun j y hj hy => r2 (f + j) y (by omega) (by omega) (by rw [← hy, List.getElem?_drop])) ?_
    rw [List.getElem?_drop, ← hk]
    congr 1; omega
  refine ⟨Nat.le_refl _, by omega, fun _ => ⟨?_, fun j y a b => by omega⟩, fun e => by omega, by have := h.len; simp; omega⟩
  rw [← r1, hs, List.drop_drop, show f + (k - f + 1) = k + 1 by omega, List.drop_take]
  simp
theorem SplInv.fin {c : Nat} {m : List Nat} {pre done : List ByteArray} {f k : Nat} (h : SplInv c m pre done f k) (hk : k = m.length) : SplInv c m pre (done ++ [bs ((m.take k).drop f)]) (k + 1) (k + 1) := by
  have hf := h.le
  obtain ⟨r1, r2⟩ := h.run (by omega)
  have hs : spl c (m.drop f) = [m.drop f] := by
    refine spl_end fun y hy => ?_
    obtain ⟨j, hj, rfl⟩ := List.mem_iff_getElem.1 hy
    refine r2 (f + j) _ (by omega) (by simp at hj; omega) ?_
    rw [List.getElem_drop, List.getElem?_eq_getElem]
  refine ⟨Nat.le_refl _, by omega, fun e => by omega, fun e => ?_, by have := h.len; simp; omega⟩
  rw [← r1, hs, List.take_of_length_le (by omega)]
  simp
def kStr : Kd ByteArray := Kd.fn 1 (fun x => [.string x]) (fun _ => rfl) (fun _ u hu => by rw [List.mem_singleton.1 hu]; rfl) (by decide)
theorem info_str : (Try.prog.info? 9).map (fun i => (i.zero, i.size, i.bytes)) = some (some (.string ⟨#[]⟩), 1, 16) := by kernel_rfl
theorem info_parts {P : Program} {t : Nat} {z : Value} {n b : Nat} (h : (P.info? t).map (fun i => (i.zero, i.size, i.bytes)) = some (some z, n, b)) : ∃ i, P.info? t = some i ∧ i.zero = some z ∧ i.size = n ∧ i.bytes = b := by
  cases hi : P.info? t with
  | none => rw [hi] at h; cases h
  | some i =>
    rw [hi] at h
    simp only [Option.map_some, Option.some.injEq, Prod.mk.injEq] at h
    exact ⟨i, rfl, h.1, h.2.1, h.2.2⟩
structure StrInv (w : World) (v : Value) (done : List ByteArray) (wr : World) : Prop where
  own : wr.ownsRow w.heap.size 9 1 v done.length (done.map (.string ·))
  bl : Below w.heap.size w wr
theorem StrInv.out {w wr : World} {v : Value} {done : List ByteArray} (h : StrInv w v done wr) : ∃ A c, v = .slice A done.length c ∧ done.length ≤ c ∧ kStr.C (w.heap.size ≤ ·) wr A done := by
  have e : done.map (Value.string ·) = done.flatMap (fun x => [.string x]) := by
    clear h
    induction done with
    | nil => rfl
    | cons a l ih => simp only [List.map_cons, List.flatMap_cons, ih]; rfl
  have ho := h.own
  rw [e] at ho
  exact C_of_own (enc := fun x => [.string x]) (hl := fun _ => rfl) (h1 := by intro x u hu; rw [List.mem_singleton.1 hu]; rfl) (h0 := by decide) ho (fun k hk => own_base ho k hk)
theorem at_str {ok : Nat → Prop} {w : World} {A : Option Addr} {xs : List ByteArray} (h : kStr.C ok w A xs) (i : Nat) (hi : i < xs.length) : ∃ ad, A = some ad ∧ w.cell? (ad.add i) = some (.string xs[i]) := by
  obtain ⟨ad, c, e, _, hK, hc⟩ := h.get i hi
  have : c = [.string xs[i]] := hK
  subst this
  have := hc 0 _ rfl
  exact ⟨ad, e, by simpa [kStr, Kd.fn] using this⟩
theorem str_one (s : ByteArray) : ∀ u ∈ [Value.string s], u.oneCell' = true := by intro u hu; rw [List.mem_singleton.1 hu]; rfl
theorem StrInv.push {w wr w3 : World} {v : Value} {done : List ByteArray} {A : Option Addr} {c : Nat} {x : ByteArray} {o : Obj} (h : StrInv w v done wr) (ho : w3.ownsRow w.heap.size 9 1 (.slice A (done.length + 1) c) (done.length + 1) (done.map (.string ·) ++ [.string x]))
    (hg : (wr.alloc o).grownBy w3 v.ownBlock) : StrInv w (.slice A (done.length + 1) c) (done ++ [x]) w3 :=
  ⟨by simpa using ho, below_grown (below_alloc h.bl _) hg (by rw [alloc_size]; have := h.bl.size; omega) (fun k hk => own_base h.own k hk)⟩
set_option maxHeartbeats 1600000 in
theorem words_calls (s : ByteArray) (w : World) (hs : s.size ≤ 1000000) : Calls Try.prog 60 #[.string s] w
    fun e w' => ∃ A c, e = .returned (.slice A ((spl 32 (nb s)).map bs).length c) ∧ ((spl 32 (nb s)).map bs).length ≤ c ∧ kStr.C (w.heap.size ≤ ·) w' A ((spl 32 (nb s)).map bs) ∧ Below w.heap.size w w' := by
  obtain ⟨i0, hi0, hz0, hs0, hb0⟩ := info_parts info_str
  have hu : Try.prog.underlying 28 = some (.slice 9) := Try.underlying28
  have hl := Lib.hid (nb_len s)
  have hll := hl.out
  go_enter Try.func60, Try.ntmps60
  go_wp2_with fail
  go_loopw [3, 4, 5] (fun v f i wr => ∃ (fn k : Nat) (done : List ByteArray), f = .int .i64 fn ∧ i = .int .i64 k ∧ SplInv 32 (nb s) [] done fn k ∧ StrInv w v done wr) (fun _ _ i _ => s.size + 1 - (intOf i).toNat)
  case atStart => exact ⟨0, 0, [], rfl, rfl, SplInv.start _ _ _, World.ownsRow_nil _ _ _ _, Below.refl _ _⟩
  case round =>
    obtain ⟨f, k, done, rfl, rfl, hS, hI⟩ := hrel
    have HS := Lib.hid hS
    have HI := Lib.hid hI
    have h1 := hS.le
    have h2 := hS.top
    have h3 := hS.len
    simp only [List.length_nil, Nat.zero_add] at h3
    have h4 := hI.bl.size
    rw [hll] at h2
    obtain ⟨A, c, rfl, hc, hC⟩ := hI.out
    clear hS hI hC hll
    by_cases hlt : k ≤ s.size
    · have d1 : decide ((k : Int) ≤ (s.size : Int)) = true := decide_eq_true (by omega)
      by_cases hE : k = s.size
      · have d2 : ((k : Int) == (s.size : Int)) = true := by simp; omega
        have hfin := Lib.hid (HS.out.fin (by rw [nb_len]; exact hE))
        have hx := Lib.hid (ext_bs s f k)
        clear hE
        go_wp2_with (first | (at_builtin; go_loud (refine wpList_append_uni rfl _ _ 28 rfl w.heap.size 9 i0 _ 1 16 hu hi0 hz0 hs0 hb0 rfl (by decide) _ _ _ rfl (HI.out.own.alloc _) _ 1 [.string (s.extract f k)] rfl rfl (Src.of_block (alloc_heap_at _ _) (str_one _)) (by unfold maxLen; omega) (by omega) (by rw [alloc_size]; omega) ?_)) | fail)
        intro A3 c3 w3 o3 g3 h3'
        have hI3 := Lib.hid (HI.out.push o3 g3)
        rw [hx.out] at hI3
        clear o3 g3 h3'
        go_wp2_with fail
        go_roundw
        case rel => exact ⟨k + 1, k + 1, _, by go_num, by go_num, hfin.out, by simpa using hI3.out⟩
        case measure => simp [intOf]; omega
      · have d2 : ((k : Int) == (s.size : Int)) = false := by simp; omega
        have hks : k < s.size := by omega
        have hg := nb_get s k hks
        by_cases hC : s[k].toNat = 32
        · have d3 : ((s[k].toNat : Int) == 32) = true := by simp; omega
          have hfin := Lib.hid (HS.out.hit (by rw [hg, hC]))
          have hx := Lib.hid (ext_bs s f k)
          clear hg hC hE
          go_wp2_with (first | (at_builtin; go_loud (refine wpList_append_uni rfl _ _ 28 rfl w.heap.size 9 i0 _ 1 16 hu hi0 hz0 hs0 hb0 rfl (by decide) _ _ _ rfl (HI.out.own.alloc _) _ 1 [.string (s.extract f k)] rfl rfl (Src.of_block (alloc_heap_at _ _) (str_one _)) (by unfold maxLen; omega) (by omega) (by rw [alloc_size]; omega) ?_)) | fail)
          intro A3 c3 w3 o3 g3 h3'
          have hI3 := Lib.hid (HI.out.push o3 g3)
          rw [hx.out] at hI3
          clear o3 g3 h3'
          go_wp2_with fail
          go_roundw
          case rel => exact ⟨k + 1, k + 1, _, by go_num, by go_num, hfin.out, by simpa using hI3.out⟩
          case measure => simp [intOf]; omega
        · have d3 : ((s[k].toNat : Int) == 32) = false := by simp; omega
          have hmore := Lib.hid (HS.out.more hg hC)
          clear hg hC hE
          go_wp2_with fail
          go_roundw
          case rel => exact ⟨f, k + 1, done, rfl, by go_num, hmore.out, HI.out⟩
          case measure => simp [intOf]; omega
    · have hk : k = (nb s).length + 1 := by rw [hl.out]; omega
      have hr := Lib.hid (HS.out.end_ hk)
      have d1 : decide ((k : Int) ≤ (s.size : Int)) = false := decide_eq_false (by omega)
      clear hk
      go_wp2
      go_ret
      obtain ⟨A', c', e, hc', hC⟩ := HI.out.out
      have hr' : done = (spl 32 (nb s)).map bs := by simpa using hr.out
      rw [← hr']
      simp only [Value.slice.injEq, true_and] at e
      obtain ⟨rfl, rfl⟩ := e
      exact ⟨_, _, rfl, hc', hC, HI.out.bl⟩
end Go.Proofs.Ytegjkheecbmioaa
