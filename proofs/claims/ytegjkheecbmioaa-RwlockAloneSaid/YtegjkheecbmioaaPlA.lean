/- The walk of ref13.Plays: what holds inside. -/
import Derived.Test.YtegjkheecbmioaaFnF
import Derived.BigQuiet
import Derived.Test.YtegjkheecbmioaaMux
import Derived.Test.YtegjkheecbmioaaCls
import Derived.Outline
namespace Go.Proofs.Ytegjkheecbmioaa
open Go.RowKit
set_option linter.unusedVariables false
set_option linter.unusedSimpArgs false

/-- A call of a thread. -/
structure PC where
  t : Int
  k : Int
  ob : Int
  n : Int
  wt : Int
  br : Bool
def PC.enc (c : PC) : List Value := [.int .i64 c.t, .int .i64 c.k, .int .i64 c.ob, .int .i64 c.n, .int .i64 c.wt, .bool c.br]
def kPC : Kd PC := Kd.fn 6 PC.enc (fun _ => rfl) (by intro x u hu; simp [PC.enc] at hu; rcases hu with rfl | rfl | rfl | rfl | rfl | rfl <;> rfl) (by decide)
theorem at_pc {ok : Nat → Prop} {w : World} {A : Option Addr} {xs : List PC} (h : kPC.C ok w A xs) (i : Nat) (hi : i < xs.length) : ∃ ad o, A = some ad ∧ xs[i]? = some o ∧ w.cell? (ad.add (i * 6)) = some (.int .i64 o.t) ∧
    w.cell? ⟨(ad.add (i * 6)).block, (ad.add (i * 6)).off + 1, none⟩ = some (.int .i64 o.k) ∧ w.cell? ⟨(ad.add (i * 6)).block, (ad.add (i * 6)).off + 2, none⟩ = some (.int .i64 o.ob) ∧
    w.cell? ⟨(ad.add (i * 6)).block, (ad.add (i * 6)).off + 3, none⟩ = some (.int .i64 o.n) ∧ w.cell? ⟨(ad.add (i * 6)).block, (ad.add (i * 6)).off + 4, none⟩ = some (.int .i64 o.wt) ∧ w.cell? ⟨(ad.add (i * 6)).block, (ad.add (i * 6)).off + 5, none⟩ = some (.bool o.br) := by
  obtain ⟨ad, c, e, _, hK, hc⟩ := h.get i hi
  obtain rfl : c = PC.enc xs[i] := hK
  exact ⟨ad, xs[i], e, List.getElem?_eq_getElem hi, hc 0 _ rfl, by rw [← add_field _ _ 1 (by omega)]; exact hc 1 _ rfl, by rw [← add_field _ _ 2 (by omega)]; exact hc 2 _ rfl, by rw [← add_field _ _ 3 (by omega)]; exact hc 3 _ rfl, by rw [← add_field _ _ 4 (by omega)]; exact hc 4 _ rfl, by rw [← add_field _ _ 5 (by omega)]; exact hc 5 _ rfl⟩
/-- May a call be played on an object of a kind? -/
def playP (ok k n : Int) : Prop := ofK k = ok ∧ 0 ≤ n ∧ n ≤ 1000 ∧ ¬ ((k = 4 ∨ k = 5 ∨ k = 6) ∧ n = 0) ∧ ¬ (k ≠ 4 ∧ k ≠ 5 ∧ k ≠ 6 ∧ k ≠ 19 ∧ n ≠ 0)
structure PInv (B bW bT bL bX : Nat) (w1 : World) (Inv : Nat → Th → St → Prop) (k : Nat) (x : Th) (s : St) (w : World) : Prop where
  bl : Below B w1 w
  wa : WAt B bW bT bL s w
  bx : Bx bX 52 x.enc w
  hb : B ≤ bX
  cl : s.cells.length ≤ 4096
  inv : Inv k x s
theorem kint_lit (w : World) (T : Nat) (a b c d : Int) : kInt.C (w.heap.size ≤ ·) (w.alloc (.cells #[.int .i64 a, .int .i64 b, .int .i64 c, .int .i64 d] T)) (some ⟨w.heap.size, 0, none⟩) [a, b, c, d] :=
  C_of_block (css := [[.int .i64 a], [.int .i64 b], [.int .i64 c], [.int .i64 d]]) rfl (fun i x cc hx hc => by
    match i with
    | 0 => cases hx; cases hc; rfl
    | 1 => cases hx; cases hc; rfl
    | 2 => cases hx; cases hc; rfl
    | 3 => cases hx; cases hc; rfl
    | _ + 4 => simp at hx) (alloc_heap_at _ _) (by simp) (Nat.le_refl _)
theorem ofK_rng {k o : Int} (h : ofK k = o) (ho : o ≠ 0) : 1 ≤ k ∧ k < 20 := by
  unfold ofK at h
  split at h
  · rename_i hk
    refine ⟨?_, hk.2⟩
    by_cases h0 : k = 0
    · subst h0; exact absurd h.symm ho
    · omega
  · exact absurd h.symm ho
theorem Bx.sets {b T : Nat} {cs vs : List Value} {w : World} (h : Bx b T cs w) (hl : vs.length = cs.length) : Bx b T vs (w.setCells b 0 vs) := by
  refine ⟨IsT.sets vs 0 _ h.ty, fun i v hv => ?_⟩
  have := World.rangeAt_setCells_same w b 0 vs (fun j hj => ⟨by rw [Nat.zero_add, h.cell j _ (List.getElem?_eq_getElem (by omega))]; rfl, h.ty.frozen _⟩) i v hv
  simpa using this
theorem th_one (x : Th) : ∀ u ∈ x.enc, u.oneCell' = true := by
  intro u hu
  simp only [Th.enc, List.mem_cons, List.not_mem_nil, or_false] at hu
  rcases hu with h | h | h | h | h | h | h | h | h | h | h | h | h | h | h <;> (subst h; rfl)
theorem below_step_le {w w1 w2 : World} (h : Below w.heap.size w w1) (hz : w.heap.size < w1.heap.size) (k : Below w1.heap.size w1 w2) : Below w.heap.size w w2 :=
  h.trans ⟨k.os, k.tape, k.output, k.size, fun i hi => k.block i (by omega)⟩
theorem PInv.step {B bW bT bL bX : Nat} {w1 : World} {Inv : Nat → Th → St → Prop} {k : Nat} {x : Th} {s : St} {w w' : World} (h : PInv B bW bT bL bX w1 Inv k x s w) (hb : Below w.heap.size w w') : PInv B bW bT bL bX w1 Inv k x s w' :=
  ⟨h.bl.trans ⟨hb.os, hb.tape, hb.output, hb.size, fun i hi => hb.block i (Nat.lt_of_lt_of_le hi h.wa.bB.2.2.2)⟩, h.wa.below hb, h.bx.below hb, h.hb, h.cl, h.inv⟩
theorem PInv.obj {B bW bT bL bX : Nat} {w1 : World} {Inv : Nat → Th → St → Prop} {k : Nat} {x : Th} {s : St} {w : World} (h : PInv B bW bT bL bX w1 Inv k x s w) {a : Addr} {v : Value} (hc : w1.cell? a = some v) (ha : a.block < B) : w.cell? a = some v := (World.cell?_of_block (h.bl.block _ ha)).trans hc
/-- What each call is to come to. -/
def PlStep (code : List Ins) (labs : List Lb) (ok : Int) (Inv : Nat → Th → St → Prop) : Prop := ∀ (j : Nat) (x : Th) (s : St) (t : Nat) (k ob n wt : Int) (br : Bool), j < 40 → Inv j x s → t < 8 → playP ok k n →
  ∃ val ns s' y want, alG code t 500 [] (fr0 (findB labs (nb (entB k))) [1, askB k n, 0, 0] 4) s [] = some (val, ns, true, s') ∧ Inv (j + 1) y s' ∧ SameN ns want ∧ ∀ w, Calls Try.prog 28 #[x.v, .int .i64 t, opV k ob n wt br] w (ExPost w y want val)
set_option maxRecDepth 100000 in
set_option maxHeartbeats 6400000 in
theorem Plays_calls {okt oks : Nat → Prop} (ts : List ByteArray) (A0 : Option Addr) (c0 : Nat) (w : World) (hC0 : kStr.C okt w A0 ts) (hn : ts.length ≤ 100) (hs : ∀ t ∈ ts, t.size ≤ 100000) (hsum : sizesB ts ≤ 60000) (hfl : (flatL ts).length ≤ 100000) (code : List Ins) (labs : List Lb) (hA : asmB (flatL ts) = some (code, labs)) (hcl : code.length ≤ 100000)
    (okk on : Int) (ofr : Bool) (script : List PC) (As : Option Addr) (cs : Nat) (hS : kPC.C oks w As script) (hr : ∀ c ∈ script, -9223372036854775808 ≤ c.t ∧ c.t ≤ 9223372036854775807) (Inv : Nat → Th → St → Prop) (hI0 : Inv 0 (thNew okk on) ⟨lay0 okk on ofr, List.replicate 8 prk0, 0⟩) (hsk : ∀ j x s, Inv j x s → Inv (j + 1) x s) (hst : PlStep code labs okk Inv) (hok0 : okk ≠ 0) :
    Calls Try.prog 10 #[.slice A0 ts.length c0, .agg #[.int .i64 okk, .bool ofr, .int .i64 on], .slice As script.length cs] w fun e w' => e = .returned (.bool true) ∧ Below w.heap.size w w' := by
  have HC := Lib.hid (hC0.below (w1 := w.alloc (.cells #[.int .i64 okk, .bool ofr, .int .i64 on] 23)) (below_alloc (Below.refl _ _) _))
  have HAS := Lib.hid hs
  have HA := Lib.hid hA
  have HS := Lib.hid hS.bound
  have HR := Lib.hid hr
  have HI0 := Lib.hid hI0
  have HSK := Lib.hid hsk
  have HST := Lib.hid hst
  have hslen := hS.len
  have HO := Lib.hid (Bx.new w [.int .i64 okk, .bool ofr, .int .i64 on] 23)
  have HB0 := Lib.hid (below_alloc (Below.refl w.heap.size w) (.cells #[.int .i64 okk, .bool ofr, .int .i64 on] 23))
  clear hC0 hs hA hS hr hI0 hsk hst
  go_enter Try.func10, Try.ntmps10
  go_wp2_with fail
  refine (Assemble_calls ts A0 c0 _ HC.out hn HAS.out hsum hfl code labs HA.out).mono ?_
  rintro e w1 ⟨A1, c1, A2, c2, rfl, h1, ⟨_, h2⟩, ⟨_, h3⟩, h4⟩
  have hz1 : w.heap.size < w1.heap.size := by have := h1.size; rw [alloc_size] at this; omega
  have H1 := Lib.hid (below_step HB0.out h1)
  have HO1 := Lib.hid (HO.out.below h1)
  have HCD := Lib.hid h2.bound
  have HLB := Lib.hid h3.bound
  have HLO := Lib.hid h4
  clear h1 h2 h3 h4 HC HA HO HB0 HAS
  go_wp2_with fail
  refine (New8_calls _).mono ?_
  rintro e w2 ⟨rfl, hw2, hb2⟩
  have HW2 := Lib.hid hw2
  have HB2 := Lib.hid hb2
  have hz2 := hb2.size
  have ho0 := (HO1.out.below hb2).cell 0 _ rfl
  have ho1 := (HO1.out.below hb2).cell 1 _ rfl
  have ho2 := (HO1.out.below hb2).cell 2 _ rfl
  clear hw2 hb2
  go_wp2_with fail
  refine (Lay_calls _ w1.heap.size _ _ _ (List.replicate 8 prk0) okk on ofr HW2.out).mono ?_
  rintro e w3 ⟨rfl, hw3, hb3⟩
  have HW3 := Lib.hid hw3
  have HB3 := Lib.hid (HB2.out.trans hb3)
  have hz3 := HB3.out.size
  have ho3 := (show Bx w.heap.size 23 [.int .i64 okk, .bool ofr, .int .i64 on] w3 from ⟨HO1.out.ty.keep (HB3.out.block _ hz1), fun i v hv => (World.cell?_of_block (a := ⟨w.heap.size, i, none⟩) (HB3.out.block _ hz1)).trans (HO1.out.cell i v hv)⟩)
  have HO3 := Lib.hid ho3
  have ho0 := ho3.cell 0 _ rfl
  have ho1 := ho3.cell 1 _ rfl
  have ho2 := ho3.cell 2 _ rfl
  clear hw3 hb3 ho3 HB2 HW2
  go_wp2_with fail
  refine (ThNew_calls _ _ _ _).mono ?_
  rintro e w4 ⟨rfl, hb4⟩
  have HW4 := Lib.hid (HW3.out.below hb4)
  have HO4 := Lib.hid (HO3.out.below hb4)
  have HB4 := Lib.hid (HB3.out.trans (show Below w1.heap.size w3 w4 from ⟨hb4.os, hb4.tape, hb4.output, hb4.size, fun i hi => hb4.block i (by omega)⟩))
  have hz4 : w1.heap.size ≤ w4.heap.size := HB4.out.size
  have HX4 := Lib.hid (Bx.new w4 (thNew okk on).enc 52)
  clear hb4 HO3 HB3 HW3 ho0 ho1 ho2
  unfold Th.v thNew
  go_wp2_with fail
  have P0 := Lib.hid (show PInv w1.heap.size (w1.heap.size + 2) (w1.heap.size + 1) w1.heap.size w4.heap.size w1 Inv 0 (thNew okk on) ⟨lay0 okk on ofr, List.replicate 8 prk0, 0⟩ (w4.alloc (.cells (thNew okk on).enc.toArray 52)) from ⟨HB4.out.alloc hz4 _, HW4.out.alloc _, HX4.out, hz4, by simp [lay0], HI0.out⟩)
  change Hid (PInv _ _ _ _ _ _ _ _ _ _ (w4.alloc (.cells #[.int .i64 okk, .int .i64 on, .int .i64 (-1), .int .i64 0, .int .i64 0, .int .i64 0, .int .i64 0, .int .i64 0, .int .i64 0, .int .i64 0, .int .i64 0, .int .i64 0, .slice none 0 0, .int .i64 (-1), .int .i64 0] 52))) at P0
  generalize w4.alloc (.cells #[.int .i64 okk, .int .i64 on, .int .i64 (-1), .int .i64 0, .int .i64 0, .int .i64 0, .int .i64 0, .int .i64 0, .int .i64 0, .int .i64 0, .int .i64 0, .int .i64 0, .slice none 0 0, .int .i64 (-1), .int .i64 0] 52) = w5 at P0 ⊢
  generalize w4.heap.size = bX at P0 ⊢
  clear HW4 HO4 HB4 HX4 HI0 ho0 ho1 ho2
  have HCD2 := Lib.hid (HCD.out.mono (ok' := (· < w1.heap.size)) (fun k h => h.2))
  have HLB2 := Lib.hid (HLB.out.mono (ok' := (· < w1.heap.size)) (fun k h => h.2))
  have HS2 := Lib.hid ((HS.out.keep (w1 := w1) (fun k h _ => H1.out.block k h.2)).mono (ok' := (· < w.heap.size)) (fun k h => h.2))
  clear HCD HLB HS
  go_wp2_with fail
  go_loopw [13] (fun iv wr => ∃ (k : Nat) (x : Th) (s : St), iv = .int .i64 k ∧ k ≤ script.length ∧ k ≤ 40 ∧ Hid (PInv w1.heap.size (w1.heap.size + 2) (w1.heap.size + 1) w1.heap.size bX w1 Inv k x s wr)) (fun iv _ => script.length - (intOf iv).toNat)
  case atStart => exact ⟨0, _, _, rfl, Nat.zero_le _, Nat.zero_le _, P0⟩
  case round =>
    clear P0
    obtain ⟨k, x, s, rfl, hk, hk4, PI⟩ := hrel
    by_cases hlt : k < script.length
    · have d0 : decide ((k : Int) < (script.length : Int)) = true := decide_eq_true (by omega)
      by_cases hlt4 : k < 40
      · have d1 : decide ((k : Int) < 40) = true := decide_eq_true (by omega)
        have hat := at_pc (HS2.out.keep (w1 := wr) (fun j h _ => PI.out.bl.block j (by omega))) k hlt
        obtain ⟨ad, c, rfl, hc, q0, q1, q2, q3, q4, q5⟩ := hat
        obtain ⟨ct, ck, cob, cn, cwt, cbr⟩ := c
        have hrg := HR.out _ (List.mem_of_getElem? hc)
        dsimp only at q0 q1 q2 q3 q4 q5 hrg
        clear hc
        go_upto_region 11 with fail
        have PC1 := Lib.hid (PI.out.step (below_alloc (Below.refl _ _) (.cells #[.int .i64 ck, .int .i64 cob, .int .i64 cn, .int .i64 cwt, .bool cbr] 33)))
        have YC := Lib.hid (Bx.new wr [.int .i64 ck, .int .i64 cob, .int .i64 cn, .int .i64 cwt, .bool cbr] 33)
        have Q0 := Lib.hid (cell_alloc_of q0 (.cells #[.int .i64 ck, .int .i64 cob, .int .i64 cn, .int .i64 cwt, .bool cbr] 33))
        change Hid (Bx _ _ _ (wr.alloc (.cells #[.int .i64 ck, .int .i64 cob, .int .i64 cn, .int .i64 cwt, .bool cbr] 33))) at YC
        have hBw : w1.heap.size ≤ wr.heap.size := PI.out.bl.size
        have hlen5 : wr.heap.size < (wr.alloc (.cells #[.int .i64 ck, .int .i64 cob, .int .i64 cn, .int .i64 cwt, .bool cbr] 33)).heap.size := by rw [alloc_size]; omega
        clear q0 q1 q2 q3 q4 q5 PI
        generalize wr.alloc (.cells #[.int .i64 ck, .int .i64 cob, .int .i64 cn, .int .i64 cwt, .bool cbr] 33) = wd at PC1 YC Q0 hlen5 ⊢
        generalize wr.heap.size = bC at YC hBw hlen5 ⊢
        go_cut [111] from 36 to 155 (fun v wx => ∃ b : Bool, v = .bool b ∧ (b = false ↔ playP okk ck cn) ∧ Below wd.heap.size wd wx)
        case first =>
          have y0 := YC.out.cell 0 _ rfl
          have y2 := YC.out.cell 2 _ rfl
          have yo := PC1.out.obj (HO1.out.cell 0 _ rfl) hz1
          have g0 : ∀ u : WIn wd, u.w.cell? ⟨bC, 0, none⟩ = some (.int .i64 ck) := fun u => u.cell y0
          have g2 : ∀ u : WIn wd, u.w.cell? ⟨bC, 2, none⟩ = some (.int .i64 cn) := fun u => u.cell y2
          have go : ∀ u : WIn wd, u.w.cell? ⟨w.heap.size, 0, none⟩ = some (.int .i64 okk) := fun u => u.cell yo
          clear y0 y2 yo
          refine region_cls (by kernel_rfl) (by kernel_rfl) ?_
          by_cases hof : ofK ck = okk
          · have nof : (ofK ck != okk) = false := by simp [hof]
            by_cases hneg : cn < 0
            · have dneg : decide (cn < 0) = true := decide_eq_true hneg

              as_aux_lemma =>
              repeat (go_big_quiet_step (first | (go_at_call 23; exact cls_call (Of_calls _ _))))
              refine wpQuiet_nil ?_
              rintro w6 ⟨u, rfl⟩
              go_wp2_with fail
              go_meet
              exact ⟨true, rfl, ⟨by unfold playP; intro h; first | (cases h; done) | omega, by unfold playP; intro h; first | rfl | (exfalso; omega)⟩, u.h⟩
            · have dneg : decide (cn < 0) = false := decide_eq_false hneg
              by_cases hbig : 1000 < cn
              · have dbig : decide (1000 < cn) = true := decide_eq_true hbig

                as_aux_lemma =>
                repeat (go_big_quiet_step (first | (go_at_call 23; exact cls_call (Of_calls _ _))))
                refine wpQuiet_nil ?_
                rintro w6 ⟨u, rfl⟩
                go_wp2_with fail
                go_meet
                exact ⟨true, rfl, ⟨by unfold playP; intro h; first | (cases h; done) | omega, by unfold playP; intro h; first | rfl | (exfalso; omega)⟩, u.h⟩
              · have dbig : decide (1000 < cn) = false := decide_eq_false hbig
                by_cases h4 : ck = 4
                · subst h4
                  by_cases hz : cn = 0
                  · subst hz

                    as_aux_lemma =>
                    repeat (go_big_quiet_step (first | (go_at_call 23; exact cls_call (Of_calls _ _))))
                    refine wpQuiet_nil ?_
                    rintro w6 ⟨u, rfl⟩
                    go_wp2_with fail
                    go_meet
                    exact ⟨true, rfl, ⟨by unfold playP; intro h; first | (cases h; done) | omega, by unfold playP; intro h; first | rfl | (exfalso; omega)⟩, u.h⟩
                  · have ez : (cn == 0) = false := by simp [hz]
                    have nz : (cn != 0) = true := by simp [hz]

                    as_aux_lemma =>
                    repeat (go_big_quiet_step (first | (go_at_call 23; exact cls_call (Of_calls _ _))))
                    refine wpQuiet_nil ?_
                    rintro w6 ⟨u, rfl⟩
                    go_wp2_with fail
                    go_meet
                    exact ⟨false, rfl, ⟨by unfold playP; intro h; first | (cases h; done) | omega, by unfold playP; intro h; first | rfl | (exfalso; omega)⟩, u.h⟩
                · have e4 : (ck == 4) = false := by simp [h4]
                  have n4 : (ck != 4) = true := by simp [h4]
                  by_cases h5 : ck = 5
                  · subst h5
                    by_cases hz : cn = 0
                    · subst hz

                      as_aux_lemma =>
                      repeat (go_big_quiet_step (first | (go_at_call 23; exact cls_call (Of_calls _ _))))
                      refine wpQuiet_nil ?_
                      rintro w6 ⟨u, rfl⟩
                      go_wp2_with fail
                      go_meet
                      exact ⟨true, rfl, ⟨by unfold playP; intro h; first | (cases h; done) | omega, by unfold playP; intro h; first | rfl | (exfalso; omega)⟩, u.h⟩
                    · have ez : (cn == 0) = false := by simp [hz]
                      have nz : (cn != 0) = true := by simp [hz]

                      as_aux_lemma =>
                      repeat (go_big_quiet_step (first | (go_at_call 23; exact cls_call (Of_calls _ _))))
                      refine wpQuiet_nil ?_
                      rintro w6 ⟨u, rfl⟩
                      go_wp2_with fail
                      go_meet
                      exact ⟨false, rfl, ⟨by unfold playP; intro h; first | (cases h; done) | omega, by unfold playP; intro h; first | rfl | (exfalso; omega)⟩, u.h⟩
                  · have e5 : (ck == 5) = false := by simp [h5]
                    have n5 : (ck != 5) = true := by simp [h5]
                    by_cases h6 : ck = 6
                    · subst h6
                      by_cases hz : cn = 0
                      · subst hz

                        as_aux_lemma =>
                        repeat (go_big_quiet_step (first | (go_at_call 23; exact cls_call (Of_calls _ _))))
                        refine wpQuiet_nil ?_
                        rintro w6 ⟨u, rfl⟩
                        go_wp2_with fail
                        go_meet
                        exact ⟨true, rfl, ⟨by unfold playP; intro h; first | (cases h; done) | omega, by unfold playP; intro h; first | rfl | (exfalso; omega)⟩, u.h⟩
                      · have ez : (cn == 0) = false := by simp [hz]
                        have nz : (cn != 0) = true := by simp [hz]

                        as_aux_lemma =>
                        repeat (go_big_quiet_step (first | (go_at_call 23; exact cls_call (Of_calls _ _))))
                        refine wpQuiet_nil ?_
                        rintro w6 ⟨u, rfl⟩
                        go_wp2_with fail
                        go_meet
                        exact ⟨false, rfl, ⟨by unfold playP; intro h; first | (cases h; done) | omega, by unfold playP; intro h; first | rfl | (exfalso; omega)⟩, u.h⟩
                    · have e6 : (ck == 6) = false := by simp [h6]
                      have n6 : (ck != 6) = true := by simp [h6]
                      by_cases h19 : ck = 19
                      · subst h19

                        as_aux_lemma =>
                        repeat (go_big_quiet_step (first | (go_at_call 23; exact cls_call (Of_calls _ _))))
                        refine wpQuiet_nil ?_
                        rintro w6 ⟨u, rfl⟩
                        go_wp2_with fail
                        go_meet
                        exact ⟨false, rfl, ⟨by unfold playP; intro h; first | (cases h; done) | omega, by unfold playP; intro h; first | rfl | (exfalso; omega)⟩, u.h⟩
                      · have e19 : (ck == 19) = false := by simp [h19]
                        have n19 : (ck != 19) = true := by simp [h19]
                        by_cases hz : cn = 0
                        · subst hz

                          as_aux_lemma =>
                          repeat (go_big_quiet_step (first | (go_at_call 23; exact cls_call (Of_calls _ _))))
                          refine wpQuiet_nil ?_
                          rintro w6 ⟨u, rfl⟩
                          go_wp2_with fail
                          go_meet
                          exact ⟨false, rfl, ⟨by unfold playP; intro h; first | (cases h; done) | omega, by unfold playP; intro h; first | rfl | (exfalso; omega)⟩, u.h⟩
                        · have ez : (cn == 0) = false := by simp [hz]
                          have nz : (cn != 0) = true := by simp [hz]

                          as_aux_lemma =>
                          repeat (go_big_quiet_step (first | (go_at_call 23; exact cls_call (Of_calls _ _))))
                          refine wpQuiet_nil ?_
                          rintro w6 ⟨u, rfl⟩
                          go_wp2_with fail
                          go_meet
                          exact ⟨true, rfl, ⟨by unfold playP; intro h; first | (cases h; done) | omega, by unfold playP; intro h; first | rfl | (exfalso; omega)⟩, u.h⟩
          · have nof : (ofK ck != okk) = true := by simp [hof]

            as_aux_lemma =>
            repeat (go_big_quiet_step (first | (go_at_call 23; exact cls_call (Of_calls _ _))))
            refine wpQuiet_nil ?_
            rintro w6 ⟨u, rfl⟩
            go_wp2_with fail
            go_meet
            exact ⟨true, rfl, ⟨by unfold playP; intro h; first | (cases h; done) | omega, by unfold playP; intro h; first | rfl | (exfalso; omega)⟩, u.h⟩
        case rest =>
          obtain ⟨b, rfl, hb, hbw⟩ := hcut
          cases b with
          | true =>
            have PE := Lib.hid (show PInv w1.heap.size (w1.heap.size + 2) (w1.heap.size + 1) w1.heap.size bX w1 Inv (k + 1) x s wc from ⟨(PC1.out.step hbw).bl, (PC1.out.step hbw).wa, (PC1.out.step hbw).bx, PC1.out.hb, PC1.out.cl, HSK.out k x s PC1.out.inv⟩)
            clear PC1 YC Q0 hb hbw
            go_wp2_with fail
            go_roundw
            case rel => exact ⟨k + 1, x, s, by go_num, by omega, by omega, PE⟩
            case measure => simp [intOf]; omega
          | false =>
            have hp := hb.1 rfl
            have P2 := Lib.hid (PC1.out.step hbw)
            have YC2 := Lib.hid (YC.out.below hbw)
            have qt := cell_below_of Q0.out hbw
            obtain ⟨hck, hcn0, hcn1, _, _⟩ := id hp
            obtain ⟨hk1, hk20⟩ := ofK_rng hck hok0
            have hpk := pickP_bd ct 8 (by decide)
            obtain ⟨t, ht⟩ := Int.eq_ofNat_of_zero_le hpk.1
            have ht8 : t < 8 := by omega
            have HPK := Lib.hid ht
            obtain ⟨val, ns, s', y, want, hal, hinv, hsame, hexp⟩ := HST.out k x s t ck cob cn cwt cbr hlt4 P2.out.inv ht8 hp
            have HAL := Lib.hid hal
            have HINV := Lib.hid hinv
            have HSAME := Lib.hid hsame
            have HEXP := Lib.hid hexp
            clear PC1 YC Q0 hb hbw hp hck hpk ht hal hinv hsame hexp
            go_wp2_with fail
            refine (Pick_calls ct 8 (.inl rfl) hrg.1 hrg.2 _).mono ?_
            rw [HPK.out]
            rintro e w7 ⟨rfl, rfl⟩
            go_wp2_with fail
            have e1 : Hid (w1.heap.size ≤ wc.drew.heap.size) := Lib.hid P2.out.bl.size
            refine Mux.regionS [(true, 0), (true, 1), (true, 2), (true, 3), (true, 4), (true, 5), (true, 7), (true, 8), (false, 6), (false, 9), (false, 10), (false, 11), (true, 12), (true, 13), (true, 14), (true, 15), (true, 16), (true, 17), (true, 18)] [6, 9, 10, 11] (fun w' => Bx bC 33 [.int .i64 ck, .int .i64 cob, .int .i64 cn, .int .i64 cwt, .bool cbr] w') (by kernel_rfl) (by kernel_rfl) (by exact YC2.out.drew) ?_
            iterate 5 (apply Mux.quietS; (· (simp only [List.getElem?_toArray, List.getElem?_cons_succ, List.getElem?_cons_zero]) <;> rfl); (· intro w' hR V hV; go_simp; exact hV); intro K hK; simp only [Act.put, List.setIfInBounds_toArray, List.set_cons_zero, List.set_cons_succ]; refine hK _ ?_; clear hK K)
            iterate 1 (apply Mux.quietS; (· (simp only [List.getElem?_toArray, List.getElem?_cons_succ, List.getElem?_cons_zero]) <;> rfl); (· intro w' hR V hV; have z0 := hR.cell 0 _ rfl; have z1 := hR.cell 1 _ rfl; have z2 := hR.cell 2 _ rfl; have z3 := hR.cell 3 _ rfl; have z4 := hR.cell 4 _ rfl; go_simp; exact hV); intro K hK; simp only [Act.put, List.setIfInBounds_toArray, List.set_cons_zero, List.set_cons_succ]; refine hK _ ?_; clear hK K)
            iterate 1 (apply Mux.quietS; (· (simp only [List.getElem?_toArray, List.getElem?_cons_succ, List.getElem?_cons_zero]) <;> rfl); (· intro w' hR V hV; go_simp; exact hV); intro K hK; simp only [Act.put, List.setIfInBounds_toArray, List.set_cons_zero, List.set_cons_succ]; refine hK _ ?_; clear hK K)
            iterate 1 (apply Mux.quietS; (· (simp only [List.getElem?_toArray, List.getElem?_cons_succ, List.getElem?_cons_zero]) <;> rfl); (· intro w' hR V hV; have z0 := hR.cell 0 _ rfl; have z1 := hR.cell 1 _ rfl; have z2 := hR.cell 2 _ rfl; have z3 := hR.cell 3 _ rfl; have z4 := hR.cell 4 _ rfl; go_simp; exact hV); intro K hK; simp only [Act.put, List.setIfInBounds_toArray, List.set_cons_zero, List.set_cons_succ]; refine hK _ ?_; clear hK K)
            refine Mux.mover_chkS rfl (by decide) ?_
            go_wp2_with fail
            refine (Entry_calls ck hk1 hk20 _).mono ?_
            rintro e y1 ⟨rfl, hb1⟩
            have Y1 := Lib.hid (YC2.out.drew.below hb1)
            have B1 := Lib.hid hb1
            clear hb1
            go_wp2_with fail
            refine ⟨Y1.out, ?_⟩
            refine Mux.mover_chkS rfl (by decide) ?_
            go_wp2_with fail
            refine (Asked_calls ck cob cn cwt cbr hcn0 hcn1 _).mono ?_
            rintro e y2 ⟨rfl, hb2⟩
            have Y2 := Lib.hid (Y1.out.below hb2)
            have B2 := Lib.hid (below_step B1.out hb2)
            clear hb2 B1 Y1
            go_wp2_with fail
            refine ⟨Y2.out, ?_⟩
            refine Mux.mover_chkS rfl (by decide) ?_
            go_wp2_with fail
            have KA := Lib.hid (kint_lit y2 2 1 (askB ck cn) 0 0)
            have Y3 := Lib.hid (Y2.out.alloc (.cells #[.int .i64 1, .int .i64 (askB ck cn), .int .i64 0, .int .i64 0] 2))
            have P3 := Lib.hid (P2.out.step (show Below wc.heap.size wc (y2.alloc (.cells #[.int .i64 1, .int .i64 (askB ck cn), .int .i64 0, .int .i64 0] 2)) from below_alloc (below_step (show Below wc.heap.size wc wc.drew by (repeat (with_reducible first | exact Below.refl _ _ | assumption | apply below_alloc | apply below_drewN | apply below_drew1 | (refine below_set ?_ (by simp only [alloc_size]; omega)) | (refine below_step ?_ (by assumption))))) B2.out) _))
            refine ⟨Y3.out, ?_⟩
            clear Y2 P2 YC2 B2
            refine Mux.mover_chkS rfl (by decide) ?_
            go_wp2_with fail
            have HCy := Lib.hid (HCD2.out.keep (fun j hj _ => P3.out.bl.block j hj))
            have HLy := Lib.hid (HLB2.out.keep (fun j hj _ => P3.out.bl.block j hj))
            generalize y2.alloc (.cells #[.int .i64 1, .int .i64 (askB ck cn), .int .i64 0, .int .i64 0] 2) = y3 at KA Y3 P3 HCy HLy ⊢
            refine (Alone_calls y3 w1.heap.size (w1.heap.size + 2) (w1.heap.size + 1) w1.heap.size t code labs (entB ck) [1, askB ck cn, 0, 0] A1 A2 (some ⟨y2.heap.size, 0, none⟩) c1 c2 4 s val ns true s' HCy.out (fun k h => h) hcl HLy.out HLO.out KA.out (by simp) P3.out.wa P3.out.cl HAL.out).mono ?_
            rintro e y4 ⟨AN, cN, rfl, hno, hwa4, hch4, hcl4⟩
            have Y4 := Lib.hid (hch4.box Y3.out id (by decide) (by decide) (by decide) (by decide))
            have hb34 := hch4.bl P3.out.wa.bB.2.2.2 (fun k h => h.elim)
            have X4 := Lib.hid (hch4.box P3.out.bx id (by decide) (by decide) (by decide) (by decide))
            have BL4 := Lib.hid (P3.out.bl.trans hb34)
            have HB := Lib.hid P3.out.hb
            have W4 := Lib.hid hwa4
            have N4 := Lib.hid hno
            have C4 := Lib.hid hcl4
            clear hno hwa4 hch4 hcl4 hb34 KA Y3 P3 HCy HLy HAL
            go_wp2_with fail
            refine ⟨Y4.out, ?_⟩
            iterate 7 (apply Mux.quietS; (· (simp only [List.getElem?_toArray, List.getElem?_cons_succ, List.getElem?_cons_zero]) <;> rfl); (· intro w' hR V hV; go_simp; exact hV); intro K hK; simp only [Act.put, List.setIfInBounds_toArray, List.set_cons_zero, List.set_cons_succ]; refine hK _ ?_; clear hK K)
            refine Mux.doneS ?_
            obtain ⟨xk, xn, xo, xh, x0, x1, x2, x3, x4, x5, x6, x7, xf, xi⟩ := x
            have HXR := Lib.hid (show y4.rangeAt bX 0 [.int .i64 xk, .int .i64 xn, .int .i64 xo, .int .i64 xh, .int .i64 x0, .int .i64 x1, .int .i64 x2, .int .i64 x3, .int .i64 x4, .int .i64 x5, .int .i64 x6, .int .i64 x7, .slice none 0 0, .int .i64 xf, .int .i64 xi] from fun j v hv => by have := X4.out.cell j v hv; rwa [Nat.zero_add])
            have HSX := Lib.hid (show (Try.prog.info? 52).map (·.size) = some ([.int .i64 xk, .int .i64 xn, .int .i64 xo, .int .i64 xh, .int .i64 x0, .int .i64 x1, .int .i64 x2, .int .i64 x3, .int .i64 x4, .int .i64 x5, .int .i64 x6, .int .i64 x7, .slice none 0 0, .int .i64 xf, .int .i64 xi] : List Value).length from by kernel_rfl)
            have f0 := Y4.out.cell 0 _ rfl
            have f1 := Y4.out.cell 1 _ rfl
            have f2 := Y4.out.cell 2 _ rfl
            have f3 := Y4.out.cell 3 _ rfl
            have f4 := Y4.out.cell 4 _ rfl
            go_wp2_with (first | (refine wpList_load_mid rfl 52 _ rfl bX 0 rfl _ _ HXR.out Try.underlying52 rfl (by exact HSX.out) ?_) | fail)
            refine (HEXP.out y4).mono ?_
            rintro e y5 ⟨AW, cW, rfl, hkw, hb5⟩
            obtain ⟨yk, yn, yo, yh, y0, y1', y2', y3', y4', y5', y6', y7', yf, yi⟩ := y
            rw [show (⟨yk, yn, yo, yh, y0, y1', y2', y3', y4', y5', y6', y7', yf, yi⟩ : Th).v = .agg #[.int .i64 yk, .int .i64 yn, .int .i64 yo, .int .i64 yh, .int .i64 y0, .int .i64 y1', .int .i64 y2', .int .i64 y3', .int .i64 y4', .int .i64 y5', .int .i64 y6', .int .i64 y7', .slice none 0 0, .int .i64 yf, .int .i64 yi] from rfl]
            obtain ⟨AN', cN', eN, _, hCN⟩ := nt_own N4.out
            simp only [Value.slice.injEq, true_and] at eN
            obtain ⟨eN1, eN2⟩ := eN
            rw [← eN1] at hCN
            have NA := Lib.hid (hCN.below hb5)
            have NW := Lib.hid hkw
            have hbx := hb5
            have hz45 := hb5.size
            have BL5 := Lib.hid (BL4.out.trans (show Below w1.heap.size y4 y5 from ⟨hb5.os, hb5.tape, hb5.output, hb5.size, fun i hi => hb5.block i (by have := W4.out.bB.2.2.2; omega)⟩))
            have W5 := Lib.hid (W4.out.below hb5)
            have X5 := Lib.hid (X4.out.below hb5)
            have hB5 := W5.out.bB.2.2.2
            clear hkw hb5 hbx hCN eN1 eN2 N4 BL4 W4 X4 Y4 f0 f1 f2 f3 f4 HXR HSX HEXP
            go_wp2_with fail
            have Z5 := Lib.hid (Bx.new y5 [.int .i64 yk, .int .i64 yn, .int .i64 yo, .int .i64 yh, .int .i64 y0, .int .i64 y1', .int .i64 y2', .int .i64 y3', .int .i64 y4', .int .i64 y5', .int .i64 y6', .int .i64 y7', .slice none 0 0, .int .i64 yf, .int .i64 yi] 52)
            change Hid (Bx _ _ _ (y5.alloc (.cells #[.int .i64 yk, .int .i64 yn, .int .i64 yo, .int .i64 yh, .int .i64 y0, .int .i64 y1', .int .i64 y2', .int .i64 y3', .int .i64 y4', .int .i64 y5', .int .i64 y6', .int .i64 y7', .slice none 0 0, .int .i64 yf, .int .i64 yi] 52))) at Z5
            have BL6 := Lib.hid (BL5.out.alloc hB5 (.cells #[.int .i64 yk, .int .i64 yn, .int .i64 yo, .int .i64 yh, .int .i64 y0, .int .i64 y1', .int .i64 y2', .int .i64 y3', .int .i64 y4', .int .i64 y5', .int .i64 y6', .int .i64 y7', .slice none 0 0, .int .i64 yf, .int .i64 yi] 52))
            have W6 := Lib.hid (W5.out.alloc (.cells #[.int .i64 yk, .int .i64 yn, .int .i64 yo, .int .i64 yh, .int .i64 y0, .int .i64 y1', .int .i64 y2', .int .i64 y3', .int .i64 y4', .int .i64 y5', .int .i64 y6', .int .i64 y7', .slice none 0 0, .int .i64 yf, .int .i64 yi] 52))
            have X6 := Lib.hid (X5.out.alloc (.cells #[.int .i64 yk, .int .i64 yn, .int .i64 yo, .int .i64 yh, .int .i64 y0, .int .i64 y1', .int .i64 y2', .int .i64 y3', .int .i64 y4', .int .i64 y5', .int .i64 y6', .int .i64 y7', .slice none 0 0, .int .i64 yf, .int .i64 yi] 52))
            have NA6 := Lib.hid (NA.out.below (w1 := y5.alloc (.cells #[.int .i64 yk, .int .i64 yn, .int .i64 yo, .int .i64 yh, .int .i64 y0, .int .i64 y1', .int .i64 y2', .int .i64 y3', .int .i64 y4', .int .i64 y5', .int .i64 y6', .int .i64 y7', .slice none 0 0, .int .i64 yf, .int .i64 yi] 52)) (below_alloc (Below.refl _ _) _))
            have NW6 := Lib.hid (NW.out.below (w1 := y5.alloc (.cells #[.int .i64 yk, .int .i64 yn, .int .i64 yo, .int .i64 yh, .int .i64 y0, .int .i64 y1', .int .i64 y2', .int .i64 y3', .int .i64 y4', .int .i64 y5', .int .i64 y6', .int .i64 y7', .slice none 0 0, .int .i64 yf, .int .i64 yi] 52)) (below_alloc (Below.refl _ _) _))
            have hxy : bX ≠ y5.heap.size := by have := X5.out.ty.lt; omega
            clear BL5 W5 X5 NA NW
            generalize y5.alloc (.cells #[.int .i64 yk, .int .i64 yn, .int .i64 yo, .int .i64 yh, .int .i64 y0, .int .i64 y1', .int .i64 y2', .int .i64 y3', .int .i64 y4', .int .i64 y5', .int .i64 y6', .int .i64 y7', .slice none 0 0, .int .i64 yf, .int .i64 yi] 52) = y6 at Z5 BL6 W6 X6 NA6 NW6 ⊢
            generalize y5.heap.size = bY at Z5 hxy ⊢
            refine (Same_calls ns want AN AW cN cW _ NA6.out NW6.out HSAME.out).mono ?_
            rintro e y7 ⟨rfl, hb7⟩
            have Z7 := Lib.hid (Z5.out.below hb7)
            have BL7 := Lib.hid (BL6.out.trans (show Below w1.heap.size y6 y7 from ⟨hb7.os, hb7.tape, hb7.output, hb7.size, fun i hi => hb7.block i (by have := W6.out.bB.2.2.2; omega)⟩))
            have W7 := Lib.hid (W6.out.below hb7)
            have X7 := Lib.hid (X6.out.below hb7)
            clear hb7 Z5 BL6 W6 X6 NA6 NW6
            have T0 := X7.out.ty
            have V0 := W7.out
            have K0 := BL7.out
            have V1 := V0.other (j := 0) (u := .int .i64 yk) T0 (by decide) (by decide) (by decide) (by decide)
            have T1 := T0.set ⟨bX, 0, none⟩ (.int .i64 yk)
            have K1 := below_set (j := 0) (v := .int .i64 yk) K0 HB.out
            have V2 := V1.other (j := 1) (u := .int .i64 yn) T1 (by decide) (by decide) (by decide) (by decide)
            have T2 := T1.set ⟨bX, 1, none⟩ (.int .i64 yn)
            have K2 := below_set (j := 1) (v := .int .i64 yn) K1 HB.out
            have V3 := V2.other (j := 2) (u := .int .i64 yo) T2 (by decide) (by decide) (by decide) (by decide)
            have T3 := T2.set ⟨bX, 2, none⟩ (.int .i64 yo)
            have K3 := below_set (j := 2) (v := .int .i64 yo) K2 HB.out
            have V4 := V3.other (j := 3) (u := .int .i64 yh) T3 (by decide) (by decide) (by decide) (by decide)
            have T4 := T3.set ⟨bX, 3, none⟩ (.int .i64 yh)
            have K4 := below_set (j := 3) (v := .int .i64 yh) K3 HB.out
            have V5 := V4.other (j := 4) (u := .int .i64 y0) T4 (by decide) (by decide) (by decide) (by decide)
            have T5 := T4.set ⟨bX, 4, none⟩ (.int .i64 y0)
            have K5 := below_set (j := 4) (v := .int .i64 y0) K4 HB.out
            have V6 := V5.other (j := 5) (u := .int .i64 y1') T5 (by decide) (by decide) (by decide) (by decide)
            have T6 := T5.set ⟨bX, 5, none⟩ (.int .i64 y1')
            have K6 := below_set (j := 5) (v := .int .i64 y1') K5 HB.out
            have V7 := V6.other (j := 6) (u := .int .i64 y2') T6 (by decide) (by decide) (by decide) (by decide)
            have T7 := T6.set ⟨bX, 6, none⟩ (.int .i64 y2')
            have K7 := below_set (j := 6) (v := .int .i64 y2') K6 HB.out
            have V8 := V7.other (j := 7) (u := .int .i64 y3') T7 (by decide) (by decide) (by decide) (by decide)
            have T8 := T7.set ⟨bX, 7, none⟩ (.int .i64 y3')
            have K8 := below_set (j := 7) (v := .int .i64 y3') K7 HB.out
            have V9 := V8.other (j := 8) (u := .int .i64 y4') T8 (by decide) (by decide) (by decide) (by decide)
            have T9 := T8.set ⟨bX, 8, none⟩ (.int .i64 y4')
            have K9 := below_set (j := 8) (v := .int .i64 y4') K8 HB.out
            have V10 := V9.other (j := 9) (u := .int .i64 y5') T9 (by decide) (by decide) (by decide) (by decide)
            have T10 := T9.set ⟨bX, 9, none⟩ (.int .i64 y5')
            have K10 := below_set (j := 9) (v := .int .i64 y5') K9 HB.out
            have V11 := V10.other (j := 10) (u := .int .i64 y6') T10 (by decide) (by decide) (by decide) (by decide)
            have T11 := T10.set ⟨bX, 10, none⟩ (.int .i64 y6')
            have K11 := below_set (j := 10) (v := .int .i64 y6') K10 HB.out
            have V12 := V11.other (j := 11) (u := .int .i64 y7') T11 (by decide) (by decide) (by decide) (by decide)
            have T12 := T11.set ⟨bX, 11, none⟩ (.int .i64 y7')
            have K12 := below_set (j := 11) (v := .int .i64 y7') K11 HB.out
            have V13 := V12.other (j := 12) (u := .slice none 0 0) T12 (by decide) (by decide) (by decide) (by decide)
            have T13 := T12.set ⟨bX, 12, none⟩ (.slice none 0 0)
            have K13 := below_set (j := 12) (v := .slice none 0 0) K12 HB.out
            have V14 := V13.other (j := 13) (u := .int .i64 yf) T13 (by decide) (by decide) (by decide) (by decide)
            have T14 := T13.set ⟨bX, 13, none⟩ (.int .i64 yf)
            have K14 := below_set (j := 13) (v := .int .i64 yf) K13 HB.out
            have V15 := V14.other (j := 14) (u := .int .i64 yi) T14 (by decide) (by decide) (by decide) (by decide)
            have T15 := T14.set ⟨bX, 14, none⟩ (.int .i64 yi)
            have K15 := below_set (j := 14) (v := .int .i64 yi) K14 HB.out
            have PN := Lib.hid (show PInv w1.heap.size (w1.heap.size + 2) (w1.heap.size + 1) w1.heap.size bX w1 Inv (k + 1) ⟨yk, yn, yo, yh, y0, y1', y2', y3', y4', y5', y6', y7', yf, yi⟩ s' (((((((((((((((y7.setCell ⟨bX, 0, none⟩ (.int .i64 yk)).setCell ⟨bX, 1, none⟩ (.int .i64 yn)).setCell ⟨bX, 2, none⟩ (.int .i64 yo)).setCell ⟨bX, 3, none⟩ (.int .i64 yh)).setCell ⟨bX, 4, none⟩ (.int .i64 y0)).setCell ⟨bX, 5, none⟩ (.int .i64 y1')).setCell ⟨bX, 6, none⟩ (.int .i64 y2')).setCell ⟨bX, 7, none⟩ (.int .i64 y3')).setCell ⟨bX, 8, none⟩ (.int .i64 y4')).setCell ⟨bX, 9, none⟩ (.int .i64 y5')).setCell ⟨bX, 10, none⟩ (.int .i64 y6')).setCell ⟨bX, 11, none⟩ (.int .i64 y7')).setCell ⟨bX, 12, none⟩ (.slice none 0 0)).setCell ⟨bX, 13, none⟩ (.int .i64 yf)).setCell ⟨bX, 14, none⟩ (.int .i64 yi)) from ⟨K15, V15, (((((((((((((((X7.out.set 0 (.int .i64 yk)).set 1 (.int .i64 yn)).set 2 (.int .i64 yo)).set 3 (.int .i64 yh)).set 4 (.int .i64 y0)).set 5 (.int .i64 y1')).set 6 (.int .i64 y2')).set 7 (.int .i64 y3')).set 8 (.int .i64 y4')).set 9 (.int .i64 y5')).set 10 (.int .i64 y6')).set 11 (.int .i64 y7')).set 12 (.slice none 0 0)).set 13 (.int .i64 yf)).set 14 (.int .i64 yi)), HB.out, C4.out, HINV.out⟩)
            clear V0 T0 K0 V1 T1 K1 V2 T2 K2 V3 T3 K3 V4 T4 K4 V5 T5 K5 V6 T6 K6 V7 T7 K7 V8 T8 K8 V9 T9 K9 V10 T10 K10 V11 T11 K11 V12 T12 K12 V13 T13 K13 V14 T14 K14 V15 T15 K15
            have z0 := Z7.out.cell 0 _ rfl
            have z1 := Z7.out.cell 1 _ rfl
            have z2 := Z7.out.cell 2 _ rfl
            have z3 := Z7.out.cell 3 _ rfl
            have z4 := Z7.out.cell 4 _ rfl
            have z5 := Z7.out.cell 5 _ rfl
            have z6 := Z7.out.cell 6 _ rfl
            have z7 := Z7.out.cell 7 _ rfl
            have z8 := Z7.out.cell 8 _ rfl
            have z9 := Z7.out.cell 9 _ rfl
            have z10 := Z7.out.cell 10 _ rfl
            have z11 := Z7.out.cell 11 _ rfl
            have z12 := Z7.out.cell 12 _ rfl
            have z13 := Z7.out.cell 13 _ rfl
            have z14 := Z7.out.cell 14 _ rfl
            have v0 := X7.out.cell 0 _ rfl
            have v1 := X7.out.cell 1 _ rfl
            have v2 := X7.out.cell 2 _ rfl
            have v3 := X7.out.cell 3 _ rfl
            have v4 := X7.out.cell 4 _ rfl
            have v5 := X7.out.cell 5 _ rfl
            have v6 := X7.out.cell 6 _ rfl
            have v7 := X7.out.cell 7 _ rfl
            have v8 := X7.out.cell 8 _ rfl
            have v9 := X7.out.cell 9 _ rfl
            have v10 := X7.out.cell 10 _ rfl
            have v11 := X7.out.cell 11 _ rfl
            have v12 := X7.out.cell 12 _ rfl
            have v13 := X7.out.cell 13 _ rfl
            have v14 := X7.out.cell 14 _ rfl
            have fz := fun i => X7.out.ty.frozen i
            have hyx := hxy.symm
            clear Z7 BL7 W7 X7 HINV HSAME
            go_upto_region 17 with fail
            go_wp2_with fail
            go_roundw
            case rel => exact ⟨k + 1, ⟨yk, yn, yo, yh, y0, y1', y2', y3', y4', y5', y6', y7', yf, yi⟩, s', by go_num, by omega, by omega, PN⟩
            case measure => simp [intOf]; omega
      · have d1 : decide ((k : Int) < 40) = false := decide_eq_false (by omega)
        have BF := Lib.hid (below_step_le H1.out hz1 PI.out.bl)
        clear PI
        go_wp2_with fail
        go_ret
        exact ⟨rfl, BF.out⟩
    · have d0 : decide ((k : Int) < (script.length : Int)) = false := decide_eq_false (by omega)
      have BF := Lib.hid (below_step_le H1.out hz1 PI.out.bl)
      clear PI
      go_wp2_with fail
      go_ret
      exact ⟨rfl, BF.out⟩
end Go.Proofs.Ytegjkheecbmioaa
