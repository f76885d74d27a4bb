/- Two threads, the one waits: the plain form and the walk of ref13.Parked. -/
import Derived.Test.YtegjkheecbmioaaPlA
import Derived.Test.YtegjkheecbmioaaMuf
import Derived.OwnWalk
namespace Go.Proofs.Ytegjkheecbmioaa
open Go.RowKit
set_option linter.unusedVariables false
set_option linter.unusedSimpArgs false

/-- What Parked comes to: marks, a value, whether it is so; none: a way that is not walked. -/
def pkG (code : List Ins) (labs : List Lb) (th : List PC) : Nat → Nat → List Fr → Fr → St → List (Int × Int) → Option (List (Int × Int) × Int × Bool)
  | 0, _, _, _, _, _ => none
  | m + 1, turn, rs, f, s, ns => match s.thr[0]? with
    | none => none
    | some p => if p.blocked then
        (match th[turn]? with
        | none => some (ns, 0, false)
        | some c => if 10 ≤ turn then none else
          match alG code 1 500 [] (fr0 (findB labs (nb (entB c.k))) [1, askB c.k c.n, 0, 0] 4) s [] with
          | none => none
          | some r => if r.2.2.1 then pkG code labs th m (turn + 1) rs f r.2.2.2 ns else none)
      else match stepG code 0 200 true rs f s [] with
        | none => none
        | some R => if R.how = 2 then some (ns ++ R.notes, R.val, decide (0 < turn)) else if R.how = 3 then none else pkG code labs th m turn R.rs R.f R.s (ns ++ R.notes)
theorem pkG_step {code : List Ins} {labs : List Lb} {th : List PC} {m turn : Nat} {rs : List Fr} {f : Fr} {s : St} {ns : List (Int × Int)} {r : List (Int × Int) × Int × Bool} (h : pkG code labs th (m + 1) turn rs f s ns = some r) :
    ∃ p, s.thr[0]? = some p ∧ ((p.blocked = true ∧ th.length ≤ turn ∧ r = (ns, 0, false)) ∨
      (p.blocked = true ∧ turn < 10 ∧ ∃ c v na s', th[turn]? = some c ∧ alG code 1 500 [] (fr0 (findB labs (nb (entB c.k))) [1, askB c.k c.n, 0, 0] 4) s [] = some (v, na, true, s') ∧ pkG code labs th m (turn + 1) rs f s' ns = some r) ∨
      (p.blocked = false ∧ ∃ R, stepG code 0 200 true rs f s [] = some R ∧ R.how = 2 ∧ r = (ns ++ R.notes, R.val, decide (0 < turn))) ∨
      (p.blocked = false ∧ ∃ R, stepG code 0 200 true rs f s [] = some R ∧ R.how ≠ 2 ∧ R.how ≠ 3 ∧ pkG code labs th m turn R.rs R.f R.s (ns ++ R.notes) = some r)) := by
  rw [pkG] at h
  split at h
  · cases h
  rename_i p hp
  refine ⟨p, hp, ?_⟩
  split at h
  · rename_i hb
    split at h
    · rename_i hn
      exact .inl ⟨hb, List.getElem?_eq_none_iff.1 hn, (Option.some.inj h).symm⟩
    · rename_i c hc
      split at h
      · cases h
      rename_i ht
      split at h
      · cases h
      rename_i r0 hr0
      obtain ⟨v, na, d, s'⟩ := r0
      split at h
      · rename_i hd
        dsimp only at hd
        subst hd
        exact .inr (.inl ⟨hb, by omega, c, v, na, s', hc, hr0, h⟩)
      · cases h
  · rename_i hb
    have hb : p.blocked = false := by simpa using hb
    split at h
    · cases h
    rename_i R hR
    split at h
    · rename_i h2; exact .inr (.inr (.inl ⟨hb, R, hR, h2, (Option.some.inj h).symm⟩))
    rename_i h2
    split at h
    · cases h
    · rename_i h3; exact .inr (.inr (.inr ⟨hb, R, hR, h2, h3, h⟩))
theorem SInv.alone {w0 w1 w2 : World} {B bW bT bL : Nat} {vF vN : Value} {rs : List Fr} {f : Fr} {s s' : St} {n1 : List (Int × Int)} (h : SInv w0 B bW bT bL vF vN rs f s n1 w1) (hw : WAt B bW bT bL s' w2) (hc : Ch B (fun _ => False) w1 w2) (hcl : s'.cells.length ≤ 4096) :
    SInv w0 B bW bT bL vF vN rs f s' n1 w2 :=
  ⟨hc.own h.fo (fun _ _ h => h) (by decide) (by decide) (by decide) (by decide), hc.own h.no (fun _ _ h => h) (by decide) (by decide) (by decide) (by decide), hw, h.ch.trans hc, h.ln, hcl, h.rl⟩
/-- What Parked tells. -/
def PkPost (w0 : World) (ns : List (Int × Int)) (v : Int) (ok : Bool) (e : Ending) (w : World) : Prop := ∃ A c, e = .returned (.tuple #[.slice A ns.length c, .int .i64 v, .bool ok]) ∧ kNt.C (w0.heap.size ≤ ·) w A ns ∧ Below w0.heap.size w0 w
set_option maxRecDepth 100000 in
set_option maxHeartbeats 6400000 in
theorem Parked_calls {okt oks : Nat → Prop} (ts : List ByteArray) (A0 : Option Addr) (c0 : Nat) (w : World) (hC0 : kStr.C okt w A0 ts) (hn : ts.length ≤ 100) (hs : ∀ t ∈ ts, t.size ≤ 100000) (hsum : sizesB ts ≤ 60000) (hfl : (flatL ts).length ≤ 100000) (code : List Ins) (labs : List Lb) (hA : asmB (flatL ts) = some (code, labs)) (hcl : code.length ≤ 100000)
    (okk on : Int) (ofr : Bool) (k ob n wt : Int) (br : Bool) (hk1 : 1 ≤ k) (hk20 : k < 20) (hn0 : 0 ≤ n) (hn1 : n ≤ 1000) (th : List PC) (As : Option Addr) (cs : Nat) (hS : kPC.C oks w As th) (hth : ∀ c ∈ th, 1 ≤ c.k ∧ c.k < 20 ∧ 0 ≤ c.n ∧ c.n ≤ 1000) (ns : List (Int × Int)) (v : Int) (ok : Bool)
    (hst : pkG code labs th 500 0 [] (fr0 (findB labs (nb (entB k))) [1, askB k n, -1] 3) ⟨lay0 okk on ofr, List.replicate 2 prk0, 0⟩ [] = some (ns, v, ok)) :
    Calls Try.prog 16 #[.slice A0 ts.length c0, .agg #[.int .i64 okk, .bool ofr, .int .i64 on], .slice none 0 0, opV k ob n wt br, .slice As th.length cs] w (PkPost w ns v ok) := by
  unfold opV
  have HC := Lib.hid ((hC0.below (w1 := w.alloc (.cells #[.int .i64 okk, .bool ofr, .int .i64 on] 23)) (below_alloc (Below.refl _ _) _)).below (w1 := (w.alloc (.cells #[.int .i64 okk, .bool ofr, .int .i64 on] 23)).alloc (.cells #[.int .i64 k, .int .i64 ob, .int .i64 n, .int .i64 wt, .bool br] 33)) (below_alloc (Below.refl _ _) _))
  have HAS := Lib.hid hs
  have HA := Lib.hid hA
  have HS := Lib.hid hS.bound
  have HTH := Lib.hid hth
  have HST := Lib.hid hst
  have hslen := hS.len
  have HO := Lib.hid ((Bx.new w [.int .i64 okk, .bool ofr, .int .i64 on] 23).alloc (.cells #[.int .i64 k, .int .i64 ob, .int .i64 n, .int .i64 wt, .bool br] 33))
  have HY := Bx.new (w.alloc (.cells #[.int .i64 okk, .bool ofr, .int .i64 on] 23)) [.int .i64 k, .int .i64 ob, .int .i64 n, .int .i64 wt, .bool br] 33
  rw [alloc_size] at HY
  have HYY := Lib.hid HY
  have HB0 := Lib.hid (below_alloc (below_alloc (Below.refl w.heap.size w) (.cells #[.int .i64 okk, .bool ofr, .int .i64 on] 23)) (.cells #[.int .i64 k, .int .i64 ob, .int .i64 n, .int .i64 wt, .bool br] 33))
  clear hC0 hs hA hS hth hst HY
  go_enter Try.func16, Try.ntmps16
  go_wp2_with fail
  refine (Assemble_calls ts A0 c0 _ HC.out hn HAS.out hsum hfl code labs HA.out).mono ?_
  rintro e w1 ⟨A1, c1, A2, c2, rfl, h1, ⟨_, h2⟩, ⟨_, h3⟩, h4⟩
  have hz1 : w.heap.size + 1 < w1.heap.size := by have := h1.size; simp only [alloc_size] at this; omega
  have H1 := Lib.hid (below_step HB0.out h1)
  have HO1 := Lib.hid (HO.out.below h1)
  have HY1 := Lib.hid (HYY.out.below h1)
  have HCD := Lib.hid h2.bound
  have HLB := Lib.hid h3.bound
  have HLO := Lib.hid h4
  clear h1 h2 h3 h4 HC HA HO HYY HB0 HAS
  go_wp2_with fail
  refine (New2_calls _).mono ?_
  rintro e w2 ⟨rfl, hw2, hb2⟩
  have HW2 := Lib.hid hw2
  have HB2 := Lib.hid hb2
  have hz2 := hb2.size
  have ho0 := (HO1.out.below hb2).cell 0 _ rfl
  have ho1 := (HO1.out.below hb2).cell 1 _ rfl
  have ho2 := (HO1.out.below hb2).cell 2 _ rfl
  clear hw2 hb2
  go_wp2_with fail
  refine (Lay_calls _ w1.heap.size _ _ _ (List.replicate 2 prk0) okk on ofr HW2.out).mono ?_
  rintro e w3 ⟨rfl, hw3, hb3⟩
  have HW3 := Lib.hid hw3
  have HB3 := Lib.hid (HB2.out.trans hb3)
  have hz3 := HB3.out.size
  have hy3 := (show Bx (w.heap.size + 1) 33 [.int .i64 k, .int .i64 ob, .int .i64 n, .int .i64 wt, .bool br] w3 from ⟨HY1.out.ty.keep (HB3.out.block _ hz1), fun i v hv => (World.cell?_of_block (a := ⟨w.heap.size + 1, i, none⟩) (HB3.out.block _ hz1)).trans (HY1.out.cell i v hv)⟩)
  have HY3 := Lib.hid hy3
  clear hw3 hb3 hy3 HB2 HW2 ho0 ho1 ho2 HO1 HY1
  go_wp2_with fail
  go_loopw [18] (fun iv wr => iv = .int .i64 0 ∧ w3 = wr) (fun _ _ => 0)
  case atStart => exact ⟨rfl, rfl⟩
  case round =>
    obtain ⟨rfl, rfl⟩ := hrel
    have y0 := HY3.out.cell 0 _ rfl
    go_wp2_with fail
    refine (Entry_calls k hk1 hk20 _).mono ?_
    rintro e w4 ⟨rfl, hb4⟩
    have HB4 := Lib.hid (HB3.out.trans (show Below w1.heap.size w3 w4 from ⟨hb4.os, hb4.tape, hb4.output, hb4.size, fun i hi => hb4.block i (by omega)⟩))
    have HW4 := Lib.hid (HW3.out.below hb4)
    have HY4 := Lib.hid (HY3.out.below hb4)
    have HLB4 := Lib.hid ((HLB.out.keep (w1 := w4) (fun j hj _ => HB4.out.block j hj.2)).mono (ok' := (· < w1.heap.size)) (fun k h => h.2))
    have HCD4 := Lib.hid ((HCD.out.keep (w1 := w4) (fun j hj _ => HB4.out.block j hj.2)).mono (ok' := (· < w1.heap.size)) (fun k h => h.2))
    have HS4 := Lib.hid (((HS.out.keep (w1 := w1) (fun k h _ => H1.out.block k h.2)).mono (ok' := (· < w.heap.size)) (fun k h => h.2)).keep (w1 := w4) (fun j hj _ => HB4.out.block j (by omega)))
    have hz4 := hb4.size
    clear hb4 HB3 HW3 HY3 y0 HS HCD HLB
    go_wp2_with fail
    refine (Find_calls labs (entB k) A2 c2 w4 HLB4.out HLO.out).mono ?_
    rintro e w5 ⟨rfl, rfl⟩
    obtain ⟨at0, hat0⟩ : ∃ x, x = findB labs (nb (entB k)) := ⟨_, rfl⟩
    rw [← hat0] at HST ⊢
    clear hat0
    have hsz : (Try.prog.info? 68).map (·.size) = some 17 := by kernel_rfl
    have I0 := Lib.hid (show SInv w4 w1.heap.size (w1.heap.size + 2) (w1.heap.size + 1) w1.heap.size (.slice (some ⟨w4.heap.size, 0, none⟩) (([] : List Fr).length + 1) 1) (.slice none 0 0) [] (fr0 at0 [1, askB k n, -1] 1) ⟨lay0 okk on ofr, List.replicate 2 prk0, 0⟩ [] (w4.alloc (.cells #[.int .i64 at0, .int .i64 1, .int .i64 0, .int .i64 0, .int .i64 0, .int .i64 0, .int .i64 0, .int .i64 0, .int .i64 0, .int .i64 0, .int .i64 0, .int .i64 0, .int .i64 0, .int .i64 0, .int .i64 0, .int .i64 0, .int .i64 0] 68)) from
      ⟨World.ownsRow_lit (base := w4.heap.size) (size := 17) (e := 68) w4 #[.int .i64 at0, .int .i64 1, .int .i64 0, .int .i64 0, .int .i64 0, .int .i64 0, .int .i64 0, .int .i64 0, .int .i64 0, .int .i64 0, .int .i64 0, .int .i64 0, .int .i64 0, .int .i64 0, .int .i64 0, .int .i64 0, .int .i64 0] 1 (Nat.le_refl _) (by decide) rfl, World.ownsRow_nil _ _ _ _, HW4.out.alloc _, Ch.below (below_alloc (Below.refl _ _) _), by simp [fr0], by simp [lay0], by simp⟩)
    have B0 := Lib.hid (below_alloc (Below.refl w4.heap.size w4) (.cells #[.int .i64 at0, .int .i64 1, .int .i64 0, .int .i64 0, .int .i64 0, .int .i64 0, .int .i64 0, .int .i64 0, .int .i64 0, .int .i64 0, .int .i64 0, .int .i64 0, .int .i64 0, .int .i64 0, .int .i64 0, .int .i64 0, .int .i64 0] 68))
    have TF := Lib.hid (show Bx w4.heap.size 68 [.int .i64 at0, .int .i64 1, .int .i64 0, .int .i64 0, .int .i64 0, .int .i64 0, .int .i64 0, .int .i64 0, .int .i64 0, .int .i64 0, .int .i64 0, .int .i64 0, .int .i64 0, .int .i64 0, .int .i64 0, .int .i64 0, .int .i64 0] (w4.alloc (.cells #[.int .i64 at0, .int .i64 1, .int .i64 0, .int .i64 0, .int .i64 0, .int .i64 0, .int .i64 0, .int .i64 0, .int .i64 0, .int .i64 0, .int .i64 0, .int .i64 0, .int .i64 0, .int .i64 0, .int .i64 0, .int .i64 0, .int .i64 0] 68)) from (Bx.new w4 [.int .i64 at0, .int .i64 1, .int .i64 0, .int .i64 0, .int .i64 0, .int .i64 0, .int .i64 0, .int .i64 0, .int .i64 0, .int .i64 0, .int .i64 0, .int .i64 0, .int .i64 0, .int .i64 0, .int .i64 0, .int .i64 0, .int .i64 0] 68))
    go_wp2_with fail
    have hlt0 : w4.heap.size < (w4.alloc (.cells #[.int .i64 at0, .int .i64 1, .int .i64 0, .int .i64 0, .int .i64 0, .int .i64 0, .int .i64 0, .int .i64 0, .int .i64 0, .int .i64 0, .int .i64 0, .int .i64 0, .int .i64 0, .int .i64 0, .int .i64 0, .int .i64 0, .int .i64 0] 68)).heap.size := by rw [alloc_size]; omega
    generalize (w4.alloc (.cells #[.int .i64 at0, .int .i64 1, .int .i64 0, .int .i64 0, .int .i64 0, .int .i64 0, .int .i64 0, .int .i64 0, .int .i64 0, .int .i64 0, .int .i64 0, .int .i64 0, .int .i64 0, .int .i64 0, .int .i64 0, .int .i64 0, .int .i64 0] 68)) = z0 at I0 B0 TF hlt0 ⊢
    clear HW4 hsz
    refine Muf.region (.q 0 (.q 1 (.q 3 (.q 4 (.m 2 (.q 5 (.m 6 .nil))))))) [0, 1, 3, 4, 2, 5] (fun w' => Below z0.heap.size z0 w') (by kernel_rfl) (by kernel_rfl) (by (repeat (with_reducible first | exact Below.refl _ _ | assumption | apply below_alloc | apply below_drewN | apply below_drew1 | (refine below_set ?_ (by simp only [alloc_size]; omega)) | (refine below_step ?_ (by assumption))))) ?_
    apply Muf.quiet; (· (simp only [List.getElem?_toArray, List.getElem?_cons_succ, List.getElem?_cons_zero]) <;> rfl); (· intro w' hR V hV; go_simp; exact hV); intro K hK; simp only [Act.put, List.setIfInBounds_toArray, List.set_cons_zero, List.set_cons_succ]; refine hK _ ?_; clear hK K
    apply Muf.quiet; (· (simp only [List.getElem?_toArray, List.getElem?_cons_succ, List.getElem?_cons_zero]) <;> rfl); (· intro w' hR V hV; have yb := (HY4.out.below B0.out).below hR; have y0 := yb.cell 0 _ rfl; have y1 := yb.cell 1 _ rfl; have y2 := yb.cell 2 _ rfl; have y3 := yb.cell 3 _ rfl; have y4 := yb.cell 4 _ rfl; clear yb; go_simp; exact hV); intro K hK; simp only [Act.put, List.setIfInBounds_toArray, List.set_cons_zero, List.set_cons_succ]; refine hK _ ?_; clear hK K
    apply Muf.quiet; (· (simp only [List.getElem?_toArray, List.getElem?_cons_succ, List.getElem?_cons_zero]) <;> rfl); (· intro w' hR V hV; go_simp; exact hV); intro K hK; simp only [Act.put, List.setIfInBounds_toArray, List.set_cons_zero, List.set_cons_succ]; refine hK _ ?_; clear hK K
    apply Muf.quiet; (· (simp only [List.getElem?_toArray, List.getElem?_cons_succ, List.getElem?_cons_zero]) <;> rfl); (· intro w' hR V hV; go_simp; exact hV); intro K hK; simp only [Act.put, List.setIfInBounds_toArray, List.set_cons_zero, List.set_cons_succ]; refine hK _ ?_; clear hK K
    refine Muf.mover (Muf.chk rfl (by decide) ?_)
    go_wp2_with fail
    refine (Asked_calls k ob n wt br hn0 hn1 _).mono ?_
    rintro e w6 ⟨rfl, hb6⟩
    have HB6 := Lib.hid (below_step (show Below z0.heap.size z0 z0.drew by (repeat (with_reducible first | exact Below.refl _ _ | assumption | apply below_alloc | apply below_drewN | apply below_drew1 | (refine below_set ?_ (by simp only [alloc_size]; omega)) | (refine below_step ?_ (by assumption))))) hb6)
    clear hb6
    go_wp2_with fail
    refine ⟨HB6.out, ?_⟩
    apply Muf.quiet; (· (simp only [List.getElem?_toArray, List.getElem?_cons_succ, List.getElem?_cons_zero]) <;> rfl); (· intro w' hR V hV; go_simp; exact hV); intro K hK; simp only [Act.put, List.setIfInBounds_toArray, List.set_cons_zero, List.set_cons_succ]; refine hK _ ?_; clear hK K
    have I6 := Lib.hid (I0.out.below HB6.out)
    have TF6 := TF.out.below HB6.out
    have fz := fun i => TF6.ty.frozen i
    have b2 := TF6.cell 2 _ rfl
    have b3 := TF6.cell 3 _ rfl
    clear I0 TF
    refine Muf.mover (Muf.bare rfl (by decide) ?_)
    go_wp2_with fail
    have I7 := Lib.hid (show SInv w4 w1.heap.size (w1.heap.size + 2) (w1.heap.size + 1) w1.heap.size (.slice (some ⟨w4.heap.size, 0, none⟩) (([] : List Fr).length + 1) 1) (.slice none 0 0) [] (fr0 at0 [1, askB k n, -1] 2) ⟨lay0 okk on ofr, List.replicate 2 prk0, 0⟩ [] (w6.setCell ⟨w4.heap.size, 2, none⟩ (.int .i64 (askB k n))) from by
      have := SInv.setTop I6.out (j := 2) (f' := fr0 at0 [1, askB k n, -1] 2) (u := .int .i64 (askB k n)) (fr0_len (by simp) (by simp)) (fr0_next (k := 1) (by simp) (by simp) rfl) (by decide)
      simpa using this)
    have I8 := Lib.hid (show SInv w4 w1.heap.size (w1.heap.size + 2) (w1.heap.size + 1) w1.heap.size (.slice (some ⟨w4.heap.size, 0, none⟩) (([] : List Fr).length + 1) 1) (.slice none 0 0) [] (fr0 at0 [1, askB k n, -1] 3) ⟨lay0 okk on ofr, List.replicate 2 prk0, 0⟩ [] ((w6.setCell ⟨w4.heap.size, 2, none⟩ (.int .i64 (askB k n))).setCell ⟨w4.heap.size, 3, none⟩ (.int .i64 (-1))) from by
      have := SInv.setTop I7.out (j := 3) (f' := fr0 at0 [1, askB k n, -1] 3) (u := .int .i64 (-1)) (fr0_len (by simp) (by simp)) (fr0_next (k := 2) (by simp) (by simp) rfl) (by decide)
      simpa using this)
    clear I6 I7
    refine Muf.done ?_
    go_wp2_with fail
    generalize (w6.setCell ⟨w4.heap.size, 2, none⟩ (.int .i64 (askB k n))).setCell ⟨w4.heap.size, 3, none⟩ (.int .i64 (-1)) = z8 at I8 ⊢
    clear TF6 fz b2 b3 HB6
    generalize fr0 at0 [1, askB k n, -1] 3 = f0 at I8 HST
    have hBw : w1.heap.size ≤ w4.heap.size := HB4.out.size
    obtain ⟨i1, hi1, hz1', hs1, hbb1⟩ := info_parts info_note
    have hu1 : Try.prog.underlying 36 = some (.slice 40) := Try.underlying36
    go_loopw [23, 24, 25, 26] (fun vf vn tv iv wr => ∃ (j m turn : Nat) (rs : List Fr) (f : Fr) (s1 : St) (n1 : List (Int × Int)), iv = .int .i64 j ∧ j + m = 500 ∧ tv = .int .i64 turn ∧ turn ≤ 10 ∧ Hid (SInv w4 w1.heap.size (w1.heap.size + 2) (w1.heap.size + 1) w1.heap.size vf vn rs f s1 n1 wr) ∧ Hid (pkG code labs th m turn rs f s1 n1 = some (ns, v, ok)) ∧ n1.length ≤ 200 * j) (fun _ _ _ iv _ => 500 - (intOf iv).toNat)
    case atStart => exact ⟨0, 500, 0, [], f0, _, [], rfl, rfl, rfl, by decide, I8, HST, by simp⟩
    case round =>
      clear I8 HST
      obtain ⟨j, m, turn, rs, f, s1, n1, rfl, hj5, rfl, htn, I1, HST, hn1'⟩ := hrel
      cases m with
      | zero =>
        have hst := HST.out
        rw [pkG] at hst
        cases hst
      | succ m =>
        have d5 : decide ((j : Int) < 500) = true := decide_eq_true (by omega)
        have hst := HST.out
        obtain ⟨p0, hp0, hcase⟩ := pkG_step hst
        have HCS := Lib.hid hcase
        clear hst hcase HST
        have hthl : 0 < s1.thr.length := (List.getElem?_eq_some_iff.1 hp0).1
        have wT := I1.out.wa.cT
        have wL := I1.out.wa.cL
        have wB := (I1.out.wa.th 0 p0 hp0).2.2.1
        rw [Nat.zero_mul, Nat.zero_add] at wB
        have dl0 : decide (0 < s1.thr.length) = true := decide_eq_true hthl
        have dl1 : decide ((0 : Int) < (s1.thr.length : Int)) = true := decide_eq_true (by omega)
        clear hp0
        rcases HCS.out with ⟨hb, hle, hr⟩ | ⟨hb, ht, c, va, na, s', hc, hal, hrest⟩ | ⟨hb, R, hR, h2, hr⟩ | ⟨hb, R, hR, h2, h3, hrest⟩
        · clear HCS
          rw [hb] at wB
          simp only [Prod.mk.injEq] at hr
          obtain ⟨rfl, rfl, rfl⟩ := hr
          have dt : decide ((th.length : Int) ≤ (turn : Int)) = true := decide_eq_true (by omega)
          obtain ⟨AN, cN, eN, _, hCN⟩ := nt_own I1.out.no
          subst eN
          have HCN := Lib.hid (hCN.mono (ok' := (w.heap.size ≤ ·)) (fun x h => by have h : w4.heap.size ≤ x := h; omega))
          have BF := Lib.hid (below_step_le H1.out (by omega) (HB4.out.trans (I1.out.ch.bl hBw (fun _ h => h.elim))))
          clear hCN hb I1
          go_wp2_with fail
          go_ret3
          exact ⟨AN, cN, rfl, HCN.out, BF.out⟩
        · clear HCS
          rw [hb] at wB
          have hti : turn < th.length := (List.getElem?_eq_some_iff.1 hc).1
          have dt : decide ((th.length : Int) ≤ (turn : Int)) = false := decide_eq_false (by omega)
          have dt2 : decide ((10 : Int) ≤ (turn : Int)) = false := decide_eq_false (by omega)
          have ht0 : (0 : Int) ≤ (turn : Int) := by omega
          have ht1 : (turn : Int) < (th.length : Int) := by omega
          obtain ⟨hck1, hck2, hcn0, hcn1⟩ := HTH.out c (List.mem_of_getElem? hc)
          obtain ⟨ct, ck, cob, cn, cwt, cbr⟩ := c
          dsimp only at hck1 hck2 hcn0 hcn1 hal
          have HCC := Lib.hid hc
          have HAL := Lib.hid hal
          have HRE := Lib.hid hrest
          have hSr := I1.out.ch.old (fun k (h : k < w.heap.size) => (by omega : k < w1.heap.size)) (fun _ h => h.elim) HS4.out
          obtain ⟨ad, rfl⟩ : ∃ ad, As = some ad := by obtain ⟨ad, _, e, _⟩ := at_pc hSr turn hti; exact ⟨ad, e⟩
          have HSr := Lib.hid (hSr.below (w1 := wr.drew) (by (repeat (with_reducible first | exact Below.refl _ _ | assumption | apply below_alloc | apply below_drewN | apply below_drew1 | (refine below_set ?_ (by simp only [alloc_size]; omega)) | (refine below_step ?_ (by assumption))))))
          clear hc hal hrest hb hSr
          go_wp2_with fail
          clear dt dt2
          refine Muf.region (.q 0 (.q 1 (.q 2 (.q 3 (.q 4 (.q 5 (.q 6 (.q 7 (.q 8 (.q 10 (.q 11 (.q 12 (.q 13 (.q 14 (.q 15 (.m 9 (.m 16 (.m 17 (.m 18 (.q 19 (.q 20 (.q 21 (.q 22 (.q 23 (.q 24 (.q 25 .nil)))))))))))))))))))))))))) [0, 1, 2, 3, 4, 5, 6, 7, 8, 10, 11, 12, 13, 14, 15, 9, 16, 17, 18, 19, 20, 21, 22, 23, 24, 25] (fun w' => kPC.C (· < w.heap.size) w' (some ad) th) (by kernel_rfl) (by kernel_rfl) (by exact HSr.out) ?_
          iterate 5 (apply Muf.quiet; (· (simp only [List.getElem?_toArray, List.getElem?_cons_succ, List.getElem?_cons_zero]) <;> rfl); (· intro w' hR V hV; go_simp; exact hV); intro K hK; simp only [Act.put, List.setIfInBounds_toArray, List.set_cons_zero, List.set_cons_succ]; refine hK _ ?_; clear hK K)
          apply Muf.quiet; (· (simp only [List.getElem?_toArray, List.getElem?_cons_succ, List.getElem?_cons_zero]) <;> rfl); (· intro w' hR V hV; first | (go_simp; exact hV) | (go_simp; rw [if_pos ⟨ht0, ht1⟩]; exact hV)); intro K hK; simp only [Act.put, List.setIfInBounds_toArray, List.set_cons_zero, List.set_cons_succ]; refine hK _ ?_; clear hK K
          iterate 2 (apply Muf.quiet; (· (simp only [List.getElem?_toArray, List.getElem?_cons_succ, List.getElem?_cons_zero]) <;> rfl); (· intro w' hR V hV; go_simp; exact hV); intro K hK; simp only [Act.put, List.setIfInBounds_toArray, List.set_cons_zero, List.set_cons_succ]; refine hK _ ?_; clear hK K)
          apply Muf.quiet; (· (simp only [List.getElem?_toArray, List.getElem?_cons_succ, List.getElem?_cons_zero]) <;> rfl); (· intro w' hR V hV; have ha := at_pc hR turn hti; obtain ⟨ad2, o2, e2, ho2, s0, s1', s2, s3, s4, s5⟩ := ha; obtain rfl := Option.some.inj e2; obtain rfl := Option.some.inj (HCC.out.symm.trans ho2); dsimp only at s0 s1' s2 s3 s4 s5; clear ho2; go_simp; exact hV); intro K hK; simp only [Act.put, List.setIfInBounds_toArray, List.set_cons_zero, List.set_cons_succ]; refine hK _ ?_; clear hK K
          iterate 3 (apply Muf.quiet; (· (simp only [List.getElem?_toArray, List.getElem?_cons_succ, List.getElem?_cons_zero]) <;> rfl); (· intro w' hR V hV; go_simp; exact hV); intro K hK; simp only [Act.put, List.setIfInBounds_toArray, List.set_cons_zero, List.set_cons_succ]; refine hK _ ?_; clear hK K)
          apply Muf.quiet; (· (simp only [List.getElem?_toArray, List.getElem?_cons_succ, List.getElem?_cons_zero]) <;> rfl); (· intro w' hR V hV; first | (go_simp; exact hV) | (go_simp; rw [if_pos ⟨ht0, ht1⟩]; exact hV)); intro K hK; simp only [Act.put, List.setIfInBounds_toArray, List.set_cons_zero, List.set_cons_succ]; refine hK _ ?_; clear hK K
          iterate 1 (apply Muf.quiet; (· (simp only [List.getElem?_toArray, List.getElem?_cons_succ, List.getElem?_cons_zero]) <;> rfl); (· intro w' hR V hV; go_simp; exact hV); intro K hK; simp only [Act.put, List.setIfInBounds_toArray, List.set_cons_zero, List.set_cons_succ]; refine hK _ ?_; clear hK K)
          apply Muf.quiet; (· (simp only [List.getElem?_toArray, List.getElem?_cons_succ, List.getElem?_cons_zero]) <;> rfl); (· intro w' hR V hV; have ha := at_pc hR turn hti; obtain ⟨ad2, o2, e2, ho2, s0, s1', s2, s3, s4, s5⟩ := ha; obtain rfl := Option.some.inj e2; obtain rfl := Option.some.inj (HCC.out.symm.trans ho2); dsimp only at s0 s1' s2 s3 s4 s5; clear ho2; go_simp; exact hV); intro K hK; simp only [Act.put, List.setIfInBounds_toArray, List.set_cons_zero, List.set_cons_succ]; refine hK _ ?_; clear hK K
          refine Muf.mover (Muf.chk rfl (by decide) ?_)
          go_wp2_with fail
          refine (Entry_calls ck hck1 hck2 _).mono ?_
          rintro e y1 ⟨rfl, hb1⟩
          have B1 := Lib.hid hb1
          have R1 := Lib.hid (HSr.out.below hb1)
          clear hb1
          go_wp2_with fail
          refine ⟨R1.out, ?_⟩
          refine Muf.mover (Muf.chk rfl (by decide) ?_)
          go_wp2_with fail
          refine (Asked_calls ck cob cn cwt cbr hcn0 hcn1 _).mono ?_
          rintro e y2 ⟨rfl, hb2⟩
          have B2 := Lib.hid (below_step B1.out hb2)
          have R2 := Lib.hid (R1.out.below hb2)
          clear hb2 B1 R1
          go_wp2_with fail
          refine ⟨R2.out, ?_⟩
          refine Muf.mover (Muf.chk rfl (by decide) ?_)
          go_wp2_with fail
          have KA := Lib.hid (kint_lit y2 2 1 (askB ck cn) 0 0)
          have R3 := Lib.hid (R2.out.below (w1 := y2.alloc (.cells #[.int .i64 1, .int .i64 (askB ck cn), .int .i64 0, .int .i64 0] 2)) (below_alloc (Below.refl _ _) _))
          have I3 := Lib.hid (I1.out.below (show Below wr.heap.size wr (y2.alloc (.cells #[.int .i64 1, .int .i64 (askB ck cn), .int .i64 0, .int .i64 0] 2)) from below_alloc (below_step (show Below wr.heap.size wr wr.drew by (repeat (with_reducible first | exact Below.refl _ _ | assumption | apply below_alloc | apply below_drewN | apply below_drew1 | (refine below_set ?_ (by simp only [alloc_size]; omega)) | (refine below_step ?_ (by assumption))))) B2.out) _))
          refine ⟨R3.out, ?_⟩
          clear I1 B2 R2
          refine Muf.mover (Muf.chk rfl (by decide) ?_)
          go_wp2_with fail
          have HCy := Lib.hid (I3.out.ch.old (fun k (h : k < w1.heap.size) => h) (fun _ h => h.elim) HCD4.out)
          have HLy := Lib.hid (I3.out.ch.old (fun k (h : k < w1.heap.size) => h) (fun _ h => h.elim) HLB4.out)
          generalize y2.alloc (.cells #[.int .i64 1, .int .i64 (askB ck cn), .int .i64 0, .int .i64 0] 2) = y3 at KA R3 I3 HCy HLy ⊢
          refine (Alone_calls y3 w1.heap.size (w1.heap.size + 2) (w1.heap.size + 1) w1.heap.size 1 code labs (entB ck) [1, askB ck cn, 0, 0] A1 A2 (some ⟨y2.heap.size, 0, none⟩) c1 c2 4 s1 va na true s' HCy.out (fun k h => h) hcl HLy.out HLO.out KA.out (by simp) I3.out.wa I3.out.cl HAL.out).mono ?_
          rintro e y4 ⟨AN, cN, rfl, hno, hwa4, hch4, hcl4⟩
          have I4 := Lib.hid (I3.out.alone hwa4 hch4 hcl4)
          have R4 := Lib.hid (hch4.old (fun k (h : k < w.heap.size) => (by omega : k < w1.heap.size)) (fun _ h => h.elim) R3.out)
          clear hno hwa4 hch4 hcl4 KA R3 I3 HCy HLy HAL
          go_wp2_with fail
          refine ⟨R4.out, ?_⟩
          iterate 7 (apply Muf.quiet; (· (simp only [List.getElem?_toArray, List.getElem?_cons_succ, List.getElem?_cons_zero]) <;> rfl); (· intro w' hR V hV; go_simp; exact hV); intro K hK; simp only [Act.put, List.setIfInBounds_toArray, List.set_cons_zero, List.set_cons_succ]; refine hK _ ?_; clear hK K)
          refine Muf.done ?_
          go_wp2_with fail
          go_roundw
          case rel => exact ⟨j + 1, m, turn + 1, rs, f, s', n1, by go_num, by omega, by go_num, by omega, I4, HRE, by omega⟩
          case measure => simp [intOf]; omega
        · clear HCS
          rw [hb] at wB
          have HR := Lib.hid hR
          have HNL := Lib.hid (stepG_notes _ _ _ _ _ _ _ hR)
          have e2 : (R.how == 2) = true := by simpa using h2
          have HHR := Lib.hid hr
          clear hR h2 hr hb
          go_wp2_with fail
          refine (step_calls wr w1.heap.size (w1.heap.size + 2) (w1.heap.size + 1) w1.heap.size 0 code A1 c1 rs f s1 u23 R (I1.out.ch.old (fun k h => h) (fun _ h => h.elim) HCD4.out) (fun k h => h) hcl (own_mono I1.out.fo hBw) I1.out.ln I1.out.rl I1.out.wa I1.out.cl HR.out).mono ?_
          rintro e w7 ⟨AF, cF, AN, cN, rfl, hI2⟩
          have I2 := Lib.hid hI2
          have HN2 := Lib.hid (show w7.ownsRow w4.heap.size 40 2 u24 n1.length (n1.flatMap noteEnc) from hI2.ch.own I1.out.no (fun _ _ h => h) (by decide) (by decide) (by decide) (by decide))
          have hnl := HNL.out.1
          simp only [List.length_nil, Nat.zero_add] at hnl
          have hzz : w4.heap.size ≤ w7.heap.size := Nat.le_trans I1.out.ch.on.size hI2.ch.on.size
          have hlen2 : (R.notes.flatMap noteEnc).length = R.notes.length * 2 := hI2.no.1
          clear hI2
          go_wp2_with (first | (at_builtin; go_loud (refine wpList_append_uni rfl _ _ 36 rfl w4.heap.size 40 i1 _ 2 16 hu1 hi1 hz1' hs1 hbb1 rfl (by decide) _ _ _ rfl (by exact HN2.out) _ R.notes.length (R.notes.flatMap noteEnc) rfl hlen2 (by exact src_row I2.out.no (note_one _)) (by unfold maxLen; omega) (by omega) (by omega) ?_)))
          intro A3 c3 w8 o3 g3 h3'
          have I3 := Lib.hid (I1.out.app I2.out o3 g3)
          clear o3 g3 h3' I1 I2 HN2
          have hL : Hid ((n1 ++ R.notes).length = n1.length + R.notes.length) := Lib.hid List.length_append
          go_wp2_with fail
          go_ret3
          have hr := HHR.out
          simp only [Prod.mk.injEq] at hr
          obtain ⟨rfl, rfl, rfl⟩ := hr
          obtain ⟨AN', cN', eN, _, hCN⟩ := nt_own I3.out.no
          simp only [Value.slice.injEq] at eN
          obtain ⟨rfl, _, rfl⟩ := eN
          exact ⟨A3, c3, by first | (rw [hL.out]; done) | (rw [hL.out]; rfl) | (simp [List.length_append]; done), hCN.mono (fun x h => by have h : w4.heap.size ≤ x := h; omega), below_step_le H1.out (by omega) (HB4.out.trans (I3.out.ch.bl hBw (fun _ h => h.elim)))⟩
        · clear HCS
          rw [hb] at wB
          have HR := Lib.hid hR
          have HNL := Lib.hid (stepG_notes _ _ _ _ _ _ _ hR)
          have e2 : (R.how == 2) = false := by simpa using h2
          have e3 : (R.how == 3) = false := by simpa using h3
          have HRE := Lib.hid hrest
          clear hR h2 h3 hrest hb
          go_wp2_with fail
          refine (step_calls wr w1.heap.size (w1.heap.size + 2) (w1.heap.size + 1) w1.heap.size 0 code A1 c1 rs f s1 u23 R (I1.out.ch.old (fun k h => h) (fun _ h => h.elim) HCD4.out) (fun k h => h) hcl (own_mono I1.out.fo hBw) I1.out.ln I1.out.rl I1.out.wa I1.out.cl HR.out).mono ?_
          rintro e w7 ⟨AF, cF, AN, cN, rfl, hI2⟩
          have I2 := Lib.hid hI2
          have HN2 := Lib.hid (show w7.ownsRow w4.heap.size 40 2 u24 n1.length (n1.flatMap noteEnc) from hI2.ch.own I1.out.no (fun _ _ h => h) (by decide) (by decide) (by decide) (by decide))
          have hnl := HNL.out.1
          simp only [List.length_nil, Nat.zero_add] at hnl
          have hzz : w4.heap.size ≤ w7.heap.size := Nat.le_trans I1.out.ch.on.size hI2.ch.on.size
          have hlen2 : (R.notes.flatMap noteEnc).length = R.notes.length * 2 := hI2.no.1
          clear hI2
          go_wp2_with (first | (at_builtin; go_loud (refine wpList_append_uni rfl _ _ 36 rfl w4.heap.size 40 i1 _ 2 16 hu1 hi1 hz1' hs1 hbb1 rfl (by decide) _ _ _ rfl (by exact HN2.out) _ R.notes.length (R.notes.flatMap noteEnc) rfl hlen2 (by exact src_row I2.out.no (note_one _)) (by unfold maxLen; omega) (by omega) (by omega) ?_)))
          intro A3 c3 w8 o3 g3 h3'
          have I3 := Lib.hid (I1.out.app I2.out o3 g3)
          clear o3 g3 h3' I1 I2 HN2
          have hL : Hid ((n1 ++ R.notes).length = n1.length + R.notes.length) := Lib.hid List.length_append
          go_wp2_with fail
          go_roundw
          case rel => exact ⟨j + 1, m, turn, R.rs, R.f, R.s, n1 ++ R.notes, by go_num, by omega, rfl, by omega, I3, HRE, by rw [hL.out]; omega⟩
          case measure => simp [intOf]; omega
end Go.Proofs.Ytegjkheecbmioaa
