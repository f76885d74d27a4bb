/- The walks of the reference's worlds: New, Cells, Lay. -/
import Derived.Test.YtegjkheecbmioaaFnA
import Derived.BigRegion
import Derived.Outline
namespace Go.Proofs.Ytegjkheecbmioaa
open Go.RowKit
set_option linter.unusedVariables false
set_option linter.unusedSimpArgs false

def prk0 : Prk := ⟨false, false, false, 0⟩
def st0 (n : Nat) : St := ⟨[], List.replicate n prk0, 0⟩
def prks : Nat → List Value
  | 0 => []
  | n + 1 => .bool false :: .bool false :: .bool false :: .int .i64 0 :: prks n
theorem prks_get : ∀ (n k : Nat), k < n → (prks n)[k * 4]? = some (.bool false) ∧ (prks n)[k * 4 + 1]? = some (.bool false) ∧ (prks n)[k * 4 + 2]? = some (.bool false) ∧ (prks n)[k * 4 + 3]? = some (.int .i64 0)
  | 0, k, h => by omega
  | n + 1, 0, _ => ⟨rfl, rfl, rfl, rfl⟩
  | n + 1, k + 1, h => by
    have := prks_get n k (by omega)
    rw [show (k + 1) * 4 = k * 4 + 4 by omega]
    exact this
/-- What New comes to. -/
theorem new_at (w : World) (n : Nat) (hn : n ≤ 8) : WAt w.heap.size (w.heap.size + 2) (w.heap.size + 1) w.heap.size (st0 n)
    (((w.alloc (.cells (prks n).toArray 71)).alloc (.cells #[.slice (some ⟨w.heap.size, 0, none⟩) n n, .int .i64 0] 74)).alloc (.cells #[.slice none 0 0, .int .i64 4096, .pointer (some ⟨w.heap.size + 1, 0, none⟩)] 77)) := by
  have s1 := alloc_size w (.cells (prks n).toArray 71)
  have b1 := Bx.new w (prks n) 71
  generalize w.alloc (.cells (prks n).toArray 71) = w1 at s1 b1
  have s2 := alloc_size w1 (.cells #[.slice (some ⟨w.heap.size, 0, none⟩) n n, .int .i64 0] 74)
  have b2 := Bx.new w1 [.slice (some ⟨w.heap.size, 0, none⟩) n n, .int .i64 0] 74
  have b1' := b1.alloc (.cells #[.slice (some ⟨w.heap.size, 0, none⟩) n n, .int .i64 0] 74)
  change Bx _ _ _ (w1.alloc (.cells #[.slice (some ⟨w.heap.size, 0, none⟩) n n, .int .i64 0] 74)) at b2
  generalize w1.alloc (.cells #[.slice (some ⟨w.heap.size, 0, none⟩) n n, .int .i64 0] 74) = w2 at s2 b2 b1'
  have b3 := Bx.new w2 [.slice none 0 0, .int .i64 4096, .pointer (some ⟨w.heap.size + 1, 0, none⟩)] 77
  have s3 := alloc_size w2 (.cells #[.slice none 0 0, .int .i64 4096, .pointer (some ⟨w.heap.size + 1, 0, none⟩)] 77)
  have b1'' := b1'.alloc (.cells #[.slice none 0 0, .int .i64 4096, .pointer (some ⟨w.heap.size + 1, 0, none⟩)] 77)
  have b2' := b2.alloc (.cells #[.slice none 0 0, .int .i64 4096, .pointer (some ⟨w.heap.size + 1, 0, none⟩)] 77)
  change Bx _ _ _ (w2.alloc (.cells #[.slice none 0 0, .int .i64 4096, .pointer (some ⟨w.heap.size + 1, 0, none⟩)] 77)) at b3
  generalize w2.alloc (.cells #[.slice none 0 0, .int .i64 4096, .pointer (some ⟨w.heap.size + 1, 0, none⟩)] 77) = w3 at s3 b3 b1'' b2' ⊢
  rw [s1] at b2'
  rw [s2, s1] at b3
  rw [s2, s1] at s3
  have hl : (st0 n).thr.length = n := by simp [st0]
  refine ⟨b3.ty, b2'.ty, b1''.ty, ⟨_, b3.cell 0 _ rfl, World.ownsRow_nil _ _ _ _⟩, b3.cell 1 _ rfl, b3.cell 2 _ rfl, by rw [hl]; exact b2'.cell 0 _ rfl, b2'.cell 1 _ rfl, fun i p hp => ?_, ⟨by omega, by omega, Nat.le_refl _, by omega⟩, by rw [hl]; exact hn⟩
  have hi : i < n := by have := (List.getElem?_eq_some_iff.1 hp).1; rw [hl] at this; exact this
  have hp2 : p = prk0 := by
    have hp' : (List.replicate n prk0)[i]? = some p := hp
    rw [List.getElem?_replicate_of_lt hi] at hp'
    exact (Option.some.inj hp').symm
  subst hp2
  obtain ⟨q0, q1, q2, q3⟩ := prks_get n i hi
  exact ⟨b1''.cell _ _ q0, b1''.cell _ _ q1, b1''.cell _ _ q2, b1''.cell _ _ q3⟩
set_option maxRecDepth 100000 in
set_option maxHeartbeats 1600000 in
theorem New8_calls (w : World) : Calls Try.prog 20 #[.int .i64 8] w fun e w' => e = .returned (.pointer (some ⟨w.heap.size + 2, 0, none⟩)) ∧ WAt w.heap.size (w.heap.size + 2) (w.heap.size + 1) w.heap.size (st0 8) w' ∧ Below w.heap.size w w' := by
  have hmk : ∀ w : World, (Instr.makeSlice 72 (.int .i64 8) (.int .i64 8)).run Try.prog w = .ok (.slice (some ⟨w.heap.size, 0, none⟩) 8 8) (w.alloc (.cells #[.bool false, .bool false, .bool false, .int .i64 0, .bool false, .bool false, .bool false, .int .i64 0, .bool false, .bool false, .bool false, .int .i64 0, .bool false, .bool false, .bool false, .int .i64 0, .bool false, .bool false, .bool false, .int .i64 0, .bool false, .bool false, .bool false, .int .i64 0, .bool false, .bool false, .bool false, .int .i64 0, .bool false, .bool false, .bool false, .int .i64 0] 71)) := fun _ => by kernel_rfl
  go_enter Try.func20, Try.ntmps20
  go_wp2
  go_ret
  exact ⟨rfl, new_at w 8 (by decide), by (repeat (with_reducible first | exact Below.refl _ _ | assumption | apply below_alloc | apply below_drewN | apply below_drew1 | (refine below_set ?_ (by simp only [alloc_size]; omega)) | (refine below_step ?_ (by assumption))))⟩
set_option maxRecDepth 100000 in
set_option maxHeartbeats 1600000 in
theorem New2_calls (w : World) : Calls Try.prog 20 #[.int .i64 2] w fun e w' => e = .returned (.pointer (some ⟨w.heap.size + 2, 0, none⟩)) ∧ WAt w.heap.size (w.heap.size + 2) (w.heap.size + 1) w.heap.size (st0 2) w' ∧ Below w.heap.size w w' := by
  have hmk : ∀ w : World, (Instr.makeSlice 72 (.int .i64 2) (.int .i64 2)).run Try.prog w = .ok (.slice (some ⟨w.heap.size, 0, none⟩) 2 2) (w.alloc (.cells #[.bool false, .bool false, .bool false, .int .i64 0, .bool false, .bool false, .bool false, .int .i64 0] 71)) := fun _ => by kernel_rfl
  go_enter Try.func20, Try.ntmps20
  go_wp2
  go_ret
  exact ⟨rfl, new_at w 2 (by decide), by (repeat (with_reducible first | exact Below.refl _ _ | assumption | apply below_alloc | apply below_drewN | apply below_drew1 | (refine below_set ?_ (by simp only [alloc_size]; omega)) | (refine below_step ?_ (by assumption))))⟩
theorem WAt.setS2 {w w3 : World} {B bW bT bL : Nat} {s : St} (h : WAt B bW bT bL s w) {v' : Value} {cs : List Int} (hs : w.heap.size ≤ w3.heap.size) (hk : ∀ k, (k = bW ∨ k = bT ∨ k = bL) → w3.heap[k]? = w.heap[k]?) (ho : w3.ownsRow B 2 1 v' cs.length (cs.map i64V)) :
    WAt B bW bT bL { s with cells := cs } (w3.setCell ⟨bW, 0, none⟩ v') := by
  have kW := hk bW (.inl rfl)
  have kT := hk bT (.inr (.inl rfl))
  have kL := hk bL (.inr (.inr rfl))
  have tW := h.tW.keep kW
  have tT := h.tT.keep kT
  have tL := h.tL.keep kL
  obtain ⟨v, hv, _⟩ := h.cC
  have hv3 : w3.cell? ⟨bW, 0, none⟩ = some v := (World.cell?_of_block kW).trans hv
  have n1 : bT ≠ bW := fun e => absurd ((e ▸ h.tT).uniq h.tW) (by decide)
  have n2 : bL ≠ bW := fun e => absurd ((e ▸ h.tL).uniq h.tW) (by decide)
  refine ⟨tW.set _ _, tT.set _ _, tL.set _ _, ⟨v', cell_set_same hv3 rfl, own_set ho _ _ (fun e => absurd ((own_ty ho e).uniq tW) (by decide))⟩, (cell_set_off ((World.cell?_of_block kW).trans h.cM) (by decide)), (cell_set_off ((World.cell?_of_block kW).trans h.cT) (by decide)),
    (cell_set_ne _ _ _ _ n1).trans ((World.cell?_of_block kT).trans h.cL), (cell_set_ne _ _ _ _ n1).trans ((World.cell?_of_block kT).trans h.cN), fun i p hp => ?_, ⟨h.bB.1, h.bB.2.1, h.bB.2.2.1, Nat.le_trans h.bB.2.2.2 (Nat.le_trans hs (by simp [World.setCell]))⟩, h.tl⟩
  obtain ⟨a, b, c, d⟩ := h.th i p hp
  exact ⟨(cell_set_ne _ _ _ _ n2).trans ((World.cell?_of_block kL).trans a), (cell_set_ne _ _ _ _ n2).trans ((World.cell?_of_block kL).trans b), (cell_set_ne _ _ _ _ n2).trans ((World.cell?_of_block kL).trans c), (cell_set_ne _ _ _ _ n2).trans ((World.cell?_of_block kL).trans d)⟩
theorem i64_form {w : World} {B n : Nat} {v : Value} {xs : List Value} (h : w.ownsRow B 2 1 v n xs) : ∃ A c, v = .slice A n c ∧ n ≤ c := by
  rcases h.2 with ⟨rfl, h0⟩ | ⟨g, cap, cur, rfl, hb, hh, hnc, hcm, hcs, ht⟩
  · exact ⟨none, 0, by rw [h0], by omega⟩
  · exact ⟨_, _, rfl, hnc⟩
set_option maxRecDepth 100000 in
set_option maxHeartbeats 3200000 in
theorem Cells_calls (w : World) (B bW bT bL m : Nat) (s : St) (hW : WAt B bW bT bL s w) (hm : 1 ≤ m) (hm2 : m ≤ 1000) (hl : s.cells.length ≤ 4096) :
    Calls Try.prog 39 #[.pointer (some ⟨bW, 0, none⟩), .int .i64 m] w
      fun e w' => e = .returned (.int .i64 ((s.cells.length : Int) + 1)) ∧ WAt B bW bT bL { s with cells := s.cells ++ List.replicate m 0 } w' ∧ Below B w w' ∧ ∀ k U, IsT k U w → U ≠ 77 → U ≠ 2 → w'.heap[k]? = w.heap[k]? := by
  obtain ⟨i0, hi0, hz0, hs0, hb0⟩ := info_parts info_i64
  have hu : Try.prog.underlying 60 = some (.slice 2) := Try.underlying60
  have hu2 : Try.prog.underlying 3 = some (.int .i64) := by kernel_rfl
  obtain ⟨v0, h0, ho⟩ := hW.cC
  obtain ⟨A0, cc, rfl, hcap⟩ := i64_form ho
  have hWl := hW.tW.lt
  have hBs := hW.bB.2.2.2
  have HW := Lib.hid hW
  have HO := Lib.hid ho
  have fz := fun k => hW.tW.frozen k
  clear hW ho
  go_enter Try.func39, Try.ntmps39
  go_wp2_with (first | (at_builtin; go_loud (refine wpList_append_zeros rfl _ _ 60 3 rfl B 2 i0 hu hu2 hi0 hz0 hs0 hb0 _ s.cells.length (s.cells.map i64V) rfl (by exact HO.out) m rfl (by omega) (by omega) (by omega) (by omega) ?_)))
  intro A4 c4 w4 o4 g4
  have hk4 : ∀ k, (k = bW ∨ k = bT ∨ k = bL) → w4.heap[k]? = w.heap[k]? := fun k hk => by
    rcases hk with rfl | rfl | rfl
    · exact g4.block _ HW.out.tW.lt (fun e => absurd ((own_ty HO.out e.symm).uniq HW.out.tW) (by decide))
    · exact g4.block _ HW.out.tT.lt (fun e => absurd ((own_ty HO.out e.symm).uniq HW.out.tT) (by decide))
    · exact g4.block _ HW.out.tL.lt (fun e => absurd ((own_ty HO.out e.symm).uniq HW.out.tL) (by decide))
  have hb4 : Below B w w4 := below_grown (Below.refl _ _) g4 hBs (fun k hk => own_base HO.out k hk)
  have hqq : w4.cell? ⟨bW, 0, none⟩ = some (.slice A0 s.cells.length cc) := (World.cell?_of_block (hk4 bW (.inl rfl))).trans h0
  have hff : w4.frozen? ⟨bW, 0, none⟩ = false := (HW.out.tW.keep (hk4 bW (.inl rfl))).frozen 0
  have hrow : w4.ownsRow B 2 1 (.slice A4 (s.cells.length + m) c4) (s.cells ++ List.replicate m 0).length ((s.cells ++ List.replicate m 0).map i64V) := by
    have := o4
    rw [zs_map] at this
    simpa using this
  have HF := Lib.hid (HW.out.setS2 (v' := .slice A4 (s.cells.length + m) c4) (cs := s.cells ++ List.replicate m 0) g4.size hk4 hrow)
  have HB4 := Lib.hid (below_set (j := 0) (v := .slice A4 (s.cells.length + m) c4) hb4 HW.out.bB.1)
  have HK := Lib.hid (show ∀ k U, IsT k U w → U ≠ 77 → U ≠ 2 → (w4.setCell ⟨bW, 0, none⟩ (.slice A4 (s.cells.length + m) c4)).heap[k]? = w.heap[k]? from fun k U hk h1 h2 => by
    refine (Below.heap_setCell _ _ _ _ (fun e => h1 (by have e : k = bW := e; subst e; exact hk.uniq HW.out.tW))).trans (g4.block k hk.lt (fun e => h2 (hk.uniq (own_ty HO.out e.symm))))
    )
  clear o4 g4 hb4 hk4 hrow h0 fz HO
  go_wp2_with fail
  go_ret
  exact ⟨rfl, HF.out, HB4.out, HK.out⟩
/-- The cells of an object with a queue of nobody. -/
def lay0 (k n : Int) (f : Bool) : List Int := [17, 17, n, 0, k, if f then 1 else 0, 0, 0, 0, 0, 0, 0, 0, 0, 0, 0, 0, 0, 0, 0, 0, 0]
/-- The stores of Lay. -/
theorem lay_sets {B bW bT bL g cap : Nat} {t : List Prk} {k n : Int} {b : Bool} {w : World} (h : WAt B bW bT bL ⟨[0, 0, 0, 0, 0, 0, 0, 0, 0, 0, 0, 0, 0, 0, 0, 0, 0, 0, 0, 0, 0, 0], t, 0⟩ w) (h0 : w.cell? ⟨bW, 0, none⟩ = some (.slice (some ⟨g, 0, none⟩) 22 cap)) (hg : bW ≠ g) (hgB : B ≤ g) :
    WAt B bW bT bL ⟨lay0 k n b, t, 0⟩ (if b then (((((w.setCell ⟨g, 0, none⟩ (.int .i64 17)).setCell ⟨g, 1, none⟩ (.int .i64 17)).setCell ⟨g, 2, none⟩ (.int .i64 n)).setCell ⟨g, 4, none⟩ (.int .i64 k)).setCell ⟨g, 5, none⟩ (.int .i64 1)) else
      ((((w.setCell ⟨g, 0, none⟩ (.int .i64 17)).setCell ⟨g, 1, none⟩ (.int .i64 17)).setCell ⟨g, 2, none⟩ (.int .i64 n)).setCell ⟨g, 4, none⟩ (.int .i64 k))) ∧
    Below B w (if b then (((((w.setCell ⟨g, 0, none⟩ (.int .i64 17)).setCell ⟨g, 1, none⟩ (.int .i64 17)).setCell ⟨g, 2, none⟩ (.int .i64 n)).setCell ⟨g, 4, none⟩ (.int .i64 k)).setCell ⟨g, 5, none⟩ (.int .i64 1)) else
      ((((w.setCell ⟨g, 0, none⟩ (.int .i64 17)).setCell ⟨g, 1, none⟩ (.int .i64 17)).setCell ⟨g, 2, none⟩ (.int .i64 n)).setCell ⟨g, 4, none⟩ (.int .i64 k))) := by
  have n0 := h.setC (k := 0) (u := 17) h0
  have h1 := cell_set_of (p := ⟨g, 0, none⟩) (u := .int .i64 17) h0 hg
  have n1 := n0.setC (k := 1) (u := 17) h1
  have h2 := cell_set_of (p := ⟨g, 1, none⟩) (u := .int .i64 17) h1 hg
  have n2 := n1.setC (k := 2) (u := n) h2
  have h3 := cell_set_of (p := ⟨g, 2, none⟩) (u := .int .i64 n) h2 hg
  have n3 := n2.setC (k := 4) (u := k) h3
  have h4 := cell_set_of (p := ⟨g, 4, none⟩) (u := .int .i64 k) h3 hg
  have n4 := n3.setC (k := 5) (u := 1) h4
  have b3 := below_set (j := 4) (v := .int .i64 k) (below_set (j := 2) (v := .int .i64 n) (below_set (j := 1) (v := .int .i64 17) (below_set (j := 0) (v := .int .i64 17) (Below.refl B w) hgB) hgB) hgB) hgB
  cases b
  · exact ⟨n3, b3⟩
  · exact ⟨n4, below_set b3 hgB⟩
set_option maxRecDepth 100000 in
set_option maxHeartbeats 6400000 in
theorem Lay_calls (w : World) (B bW bT bL : Nat) (t : List Prk) (k n : Int) (f : Bool) (hW : WAt B bW bT bL ⟨[], t, 0⟩ w) :
    Calls Try.prog 21 #[.pointer (some ⟨bW, 0, none⟩), .agg #[.int .i64 k, .bool f, .int .i64 n]] w
      fun e w' => e = .returned (.int .i64 1) ∧ WAt B bW bT bL ⟨lay0 k n f, t, 0⟩ w' ∧ Below B w w' := by
  have HW := Lib.hid hW
  have hBs := hW.bB.2.2.2
  clear hW
  go_enter Try.func21, Try.ntmps21
  have HX := Lib.hid (Bx.new w [.int .i64 k, .bool f, .int .i64 n] 23)
  have HW1 := Lib.hid (HW.out.alloc (.cells #[.int .i64 k, .bool f, .int .i64 n] 23))
  have HB1 := Lib.hid ((Below.refl B w).alloc hBs (.cells #[.int .i64 k, .bool f, .int .i64 n] 23))
  have hBX : B ≤ w.heap.size := hBs
  go_wp2_with fail
  refine (Cells_calls _ B bW bT bL 16 ⟨[], t, 0⟩ HW1.out (by decide) (by decide) (by simp)).mono ?_
  rintro e w2 ⟨rfl, hW2, hB2, hK2⟩
  have HW2 := Lib.hid hW2
  have HB2 := Lib.hid (HB1.out.trans hB2)
  have HX2 := Lib.hid (show Bx w.heap.size 23 [.int .i64 k, .bool f, .int .i64 n] w2 from ⟨HX.out.ty.keep (hK2 _ _ HX.out.ty (by decide) (by decide)), fun i v hv => (World.cell?_of_block (a := ⟨w.heap.size, i, none⟩) (hK2 _ _ HX.out.ty (by decide) (by decide))).trans (HX.out.cell i v hv)⟩)
  clear hW2 hB2 hK2 HX HW1 HB1
  go_wp2_with fail
  refine (Cells_calls _ B bW bT bL 6 _ HW2.out (by decide) (by decide) (by simp)).mono ?_
  rintro e w3 ⟨rfl, hW3, hB3, hK3⟩
  have HW3 := Lib.hid hW3
  have HB3 := Lib.hid (HB2.out.trans hB3)
  have HX3 := Lib.hid (show Bx w.heap.size 23 [.int .i64 k, .bool f, .int .i64 n] w3 from ⟨HX2.out.ty.keep (hK3 _ _ HX2.out.ty (by decide) (by decide)), fun i v hv => (World.cell?_of_block (a := ⟨w.heap.size, i, none⟩) (hK3 _ _ HX2.out.ty (by decide) (by decide))).trans (HX2.out.cell i v hv)⟩)
  clear hW3 hB3 hK3 HX2 HW2 HB2
  obtain ⟨g, cap, h0, hcap, hgT, hgB, hcs⟩ := HW3.out.c0 (k := 0) (by simp)
  have c0 := hcs 0 0 rfl
  have c1 := hcs 1 0 rfl
  have c2 := hcs 2 0 rfl
  have c4 := hcs 4 0 rfl
  have c5 := hcs 5 0 rfl
  have fz := fun k => hgT.frozen k
  have x0 := HX3.out.cell 0 _ rfl
  have x1 := HX3.out.cell 1 _ rfl
  have x2 := HX3.out.cell 2 _ rfl
  have hgW : g ≠ bW := fun e => absurd ((e ▸ hgT).uniq HW3.out.tW) (by decide)
  have hgX : g ≠ w.heap.size := fun e => absurd ((e ▸ hgT).uniq HX3.out.ty) (by decide)
  have hgX' := hgX.symm
  have hgW' := hgW.symm
  clear hcs
  simp only [List.nil_append, List.length_append, List.length_replicate, Nat.reduceAdd] at h0 hcap ⊢
  have HL := Lib.hid (fun b : Bool => lay_sets (k := k) (n := n) (b := b) (show WAt B bW bT bL ⟨[0, 0, 0, 0, 0, 0, 0, 0, 0, 0, 0, 0, 0, 0, 0, 0, 0, 0, 0, 0, 0, 0], t, 0⟩ w3 from HW3.out) h0 hgW' hgB)
  clear HW3
  go_wp2_with (first | go_region)
  · rename_i hf
    go_ret
    rw [hf]
    exact ⟨rfl, ((HL.out true).1.drew).drew, (HB3.out.trans (HL.out true).2).drew.drew⟩
  · rename_i hf
    go_ret
    rw [hf]
    exact ⟨rfl, (HL.out false).1.drew.drew, (HB3.out.trans (HL.out false).2).drew.drew⟩
end Go.Proofs.Ytegjkheecbmioaa
