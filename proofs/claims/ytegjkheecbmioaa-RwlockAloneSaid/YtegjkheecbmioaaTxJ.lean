/- The walk of the reference's Assemble. -/
import Derived.Test.YtegjkheecbmioaaTxI
import Derived.Outline
namespace Go.Proofs.Ytegjkheecbmioaa
open Go.RowKit
set_option linter.unusedVariables false
set_option linter.unusedSimpArgs false

theorem info_ins : (Try.prog.info? 95).map (fun i => (i.zero, i.size, i.bytes)) = some (some (.agg #[.int .i64 0, .int .i64 0, .int .i64 0, .int .i64 0, .int .i64 0]), 5, 40) := by kernel_rfl
theorem info_lab : (Try.prog.info? 92).map (fun i => (i.zero, i.size, i.bytes)) = some (some (.agg #[.string ⟨#[]⟩, .int .i64 0]), 2, 24) := by kernel_rfl
structure AsmInv (W : World) (vc vl : Value) (code : List Ins) (labs : List Lb) (w : World) : Prop where
  oc : w.ownsRow W.heap.size 95 5 vc code.length (code.flatMap Ins.enc)
  ol : w.ownsRow W.heap.size 92 2 vl labs.length (labs.flatMap Lb.enc)
  bl : Below W.heap.size W w
  ok : lbOk labs
section
variable {W w w' w3 : World} {vc vl : Value} {code : List Ins} {labs : List Lb}
theorem AsmInv.step (h : AsmInv W vc vl code labs w) (hb : Below w.heap.size w w') : AsmInv W vc vl code labs w' :=
  ⟨own_below h.oc hb, own_below h.ol hb, below_step h.bl hb, h.ok⟩
theorem AsmInv.outC (h : AsmInv W vc vl code labs w) : ∃ A c, vc = .slice A code.length c ∧ code.length ≤ c ∧ kIns.C (W.heap.size ≤ ·) w A code :=
  C_of_own (enc := Ins.enc) (hl := fun _ => rfl) (h1 := by intro x u hu; simp [Ins.enc] at hu; rcases hu with rfl | rfl | rfl | rfl | rfl <;> rfl) (h0 := by decide) h.oc (fun k hk => own_base h.oc k hk)
theorem AsmInv.outL (h : AsmInv W vc vl code labs w) : ∃ A c, vl = .slice A labs.length c ∧ labs.length ≤ c ∧ kLb.C (W.heap.size ≤ ·) w A labs :=
  C_of_own (enc := Lb.enc) (hl := fun _ => rfl) (h1 := by intro x u hu; simp [Lb.enc] at hu; rcases hu with rfl | rfl <;> rfl) (h0 := by decide) h.ol (fun k hk => own_base h.ol k hk)
theorem AsmInv.pushC (h : AsmInv W vc vl code labs w) {A : Option Addr} {c : Nat} {x : Ins} (ho : w3.ownsRow W.heap.size 95 5 (.slice A (code.length + 1) c) (code.length + 1) (code.flatMap Ins.enc ++ Ins.enc x)) (hg : w.grownBy w3 vc.ownBlock) :
    AsmInv W (.slice A (code.length + 1) c) vl (code ++ [x]) labs w3 := by
  have hT := TOnly.grown h.oc hg
  exact ⟨by simpa using ho, hT.own (by decide) h.ol, h.bl.trans (hT.bl h.bl.size), h.ok⟩
theorem AsmInv.pushL (h : AsmInv W vc vl code labs w) {A : Option Addr} {c : Nat} {x : Lb} (ho : w3.ownsRow W.heap.size 92 2 (.slice A (labs.length + 1) c) (labs.length + 1) (labs.flatMap Lb.enc ++ Lb.enc x)) (hg : w.grownBy w3 vl.ownBlock)
    (hx : ∀ y ∈ x.name, y < 256) : AsmInv W vc (.slice A (labs.length + 1) c) code (labs ++ [x]) w3 := by
  have hT := TOnly.grown h.ol hg
  refine ⟨hT.own (by decide) h.oc, by simpa using ho, h.bl.trans (hT.bl h.bl.size), fun y hy => ?_⟩
  rcases List.mem_append.1 hy with e | e
  · exact h.ok y e
  · rw [List.mem_singleton.1 e]; exact hx
theorem AsmInv.cellN (h : AsmInv W vc vl code labs w) {g cap n : Nat} {x : Ins} (hv : vc = .slice (some ⟨g, 0, none⟩) code.length cap) (hn : code[n]? = some x) :
    w.cell? ⟨g, n * 5 + 4, none⟩ = some (.int .i64 x.n) ∧ w.frozen? ⟨g, n * 5 + 4, none⟩ = false ∧ g < w.heap.size := by
  subst hv
  have hty := own_ty h.oc (g := g) rfl
  refine ⟨?_, hty.frozen _, hty.lt⟩
  rcases h.oc.2 with ⟨e, _⟩ | ⟨g', cap', cur, e, hb, hg, hnc, hcm, hcs, ht⟩
  · cases e
  · simp only [Value.slice.injEq, Option.some.injEq, Addr.mk.injEq, and_true, true_and] at e
    obtain ⟨rfl, rfl⟩ := e
    have hl : n < code.length := (List.getElem?_eq_some_iff.1 hn).1
    have h2 : (code.flatMap Ins.enc)[n * 5 + 4]? = some (.int .i64 x.n) := by
      rw [List.flatMap_def, flat_get (sz := 5) (c := Ins.enc x) (by intro c hc; obtain ⟨y, _, rfl⟩ := List.mem_map.1 hc; rfl) (by rw [List.getElem?_map, hn]; rfl) 4 (by decide)]
      rfl
    rw [← ht, List.getElem?_take_of_lt (by omega)] at h2
    simp only [World.cell?, hg]
    simpa using h2
theorem AsmInv.store (h : AsmInv W vc vl code labs w) {g cap n : Nat} {x : Ins} {v : Int} (hv : vc = .slice (some ⟨g, 0, none⟩) code.length cap) (hn : code[n]? = some x) :
    AsmInv W vc vl (code.set n { x with n := v }) labs (w.setCell ⟨g, n * 5 + 4, none⟩ (.int .i64 v)) := by
  subst hv
  have h1 := (World.ownsRow.stored h.oc (n * 5 + 4) (.int .i64 v)).1
  rw [flat_set (enc := Ins.enc) (fun _ => rfl) code n 4 x { x with n := v } _ hn (by decide) rfl] at h1
  have hb : W.heap.size ≤ g := own_base h.oc g rfl
  refine ⟨by simpa using h1, own_set h.ol _ _ (fun e => ?_), below_set h.bl hb, h.ok⟩
  have t1 := own_ty h.ol e
  have t2 := own_ty h.oc (g := g) rfl
  exact absurd (t1.uniq t2) (by decide)
end
theorem alloc2_at (w : World) (o o2 : Obj) : ((w.alloc o).alloc o2).heap[w.heap.size + 1]? = some o2 := by
  have := alloc_heap_at (w.alloc o) o2
  rwa [alloc_size] at this
theorem ins_one (x : Ins) : ∀ u ∈ Ins.enc x, u.oneCell' = true := by intro u hu; simp [Ins.enc] at hu; rcases hu with rfl | rfl | rfl | rfl | rfl <;> rfl
theorem lab_one (x : Lb) : ∀ u ∈ Lb.enc x, u.oneCell' = true := by intro u hu; simp [Lb.enc] at hu; rcases hu with rfl | rfl <;> rfl
def flatL (ts : List ByteArray) : List (List Nat) := ts.flatMap (fun t => spl 10 (nb t))
theorem linesB_eq (ts : List ByteArray) : linesB ts = (flatL ts).map bs := by simp [linesB, flatL, List.map_flatMap]
theorem flatL_ok (ts : List ByteArray) (hs : ∀ t ∈ ts, t.size ≤ 100000) : ∀ l ∈ flatL ts, (∀ x ∈ l, x < 256) ∧ l.length ≤ 100000 := by
  intro l hl
  obtain ⟨t, ht, hlt⟩ := List.mem_flatMap.1 hl
  exact ⟨fun x hx => nb_lt t x (spl_sub 10 _ l hlt x hx), by have := spl_len 10 _ l hlt; rw [nb_len] at this; have := hs t ht; omega⟩
set_option maxRecDepth 100000 in
set_option maxHeartbeats 6400000 in
theorem Asm_calls {ok : Nat → Prop} (ts : List ByteArray) (A0 : Option Addr) (c0 : Nat) (w : World) (hC0 : kStr.C ok w A0 ts) (hn : ts.length ≤ 100) (hs : ∀ t ∈ ts, t.size ≤ 100000) (hfl : (flatL ts).length ≤ 100000) (code : List Ins) (labs : List Lb) (hA : asmB (flatL ts) = some (code, labs)) :
    Calls Try.prog 38 #[.slice A0 ts.length c0] w fun e w' => ∃ A1 c1 A2 c2, e = .returned (.tuple #[.slice A1 code.length c1, .slice A2 labs.length c2, .int .i64 0, .int .i64 (-1)]) ∧ Below w.heap.size w w' ∧
      (code.length ≤ c1 ∧ kIns.C (w.heap.size ≤ ·) w' A1 code) ∧ (labs.length ≤ c2 ∧ kLb.C (w.heap.size ≤ ·) w' A2 labs) ∧ lbOk labs := by
  obtain ⟨i0, hi0, hz0, hs0, hb0⟩ := info_parts info_ins
  have hu0 : Try.prog.underlying 42 = some (.slice 95) := Try.underlying42
  obtain ⟨i1, hi1, hz1, hs1, hb1⟩ := info_parts info_lab
  have hu1 : Try.prog.underlying 43 = some (.slice 92) := Try.underlying43
  obtain ⟨cd1, h1, h2⟩ : ∃ cd1, asm1 (flatL ts) [] [] = some (cd1, labs) ∧ asm2 (flatL ts) labs 0 cd1 = some code := by
    unfold asmB at hA
    split at hA
    · cases hA
    · rename_i c l e
      split at hA
      · cases hA
      · rename_i c' e'
        simp only [Option.some.injEq, Prod.mk.injEq] at hA
        obtain ⟨rfl, rfl⟩ := hA
        exact ⟨c, e, e'⟩
  have HL := Lib.hid (flatL_ok ts hs)
  have hcall := fun w (h : kStr.C ok w A0 ts) => lines_calls ts A0 c0 w h hn hs
  have hlE := linesB_eq ts
  simp only [hlE] at hcall
  obtain ⟨F, hF⟩ : ∃ F, F = flatL ts := ⟨_, rfl⟩
  rw [← hF] at h1 h2 HL hcall hfl
  have H1 := Lib.hid h1
  have H2 := Lib.hid h2
  have HC0 := Lib.hid hC0
  clear h1 h2 hA hlE hF hC0 hs
  go_enter Try.func38, Try.ntmps38
  go_wp2_with fail
  refine (hcall _ HC0.out).mono ?_
  rintro e w1 ⟨A, c, rfl, hcc, hC, hbw⟩
  have HC := Lib.hid hC.bound
  have BB := Lib.hid hbw
  rw [List.length_map] at hcc ⊢
  clear hC hbw hcall HC0
  go_wp2_with fail
  go_loopw [6, 7, 9] (fun vc vl i wr => ∃ (k : Nat) (cd : List Ins) (lb : List Lb), i = .int .i64 k ∧ k ≤ F.length ∧ AsmInv w1 vc vl cd lb wr ∧ cd.length ≤ k ∧ lb.length ≤ k ∧ Hid (asm1 (F.drop k) cd lb = some (cd1, labs))) (fun _ _ i _ => F.length - (intOf i).toNat)
  case atStart => exact ⟨0, [], [], rfl, Nat.zero_le _, ⟨World.ownsRow_nil _ _ _ _, World.ownsRow_nil _ _ _ _, Below.refl _ _, fun x hx => by cases hx⟩, Nat.le_refl _, Nat.le_refl _, H1⟩
  case round =>
    clear H1
    obtain ⟨k, cd, lb, rfl, hk, hI, hcl, hll, hA⟩ := hrel
    have HI := Lib.hid hI
    obtain ⟨Ac, cc, rfl, hcc1, _⟩ := hI.outC
    obtain ⟨Al, cl, rfl, hcl1, _⟩ := hI.outL
    have hz := hI.bl.size
    clear hI
    by_cases hlt : k < F.length
    · have d1 : decide ((k : Int) < (F.length : Int)) = true := decide_eq_true (by omega)
      obtain ⟨l, L, hgl, hpL, hok, hA'⟩ := asm1_step hlt hA.out
      have hlo := HL.out l (List.mem_of_getElem? hgl)
      have HP := Lib.hid (parse_bytes hpL hlo.1)
      have HPL := Lib.hid (parse_lab hpL)
      obtain ⟨ad, t, rfl, ht, hcell⟩ := at_str' (HC.out.below HI.out.bl) k (by rw [List.length_map]; exact hlt)
      have htl : t = bs l := by rw [List.getElem?_map, hgl] at ht; exact (Option.some.inj ht).symm
      have hpc := fun w => Parse_calls t w (by rw [htl, bs_size]; omega) L (by rw [htl, nb_bs hlo.1]; exact hpL)
      have hA2 := Lib.hid hA'
      clear hA' hA hgl hpL hlo ht htl
      go_wp2_with fail
      refine (hpc _).mono ?_
      rintro e w2 ⟨rfl, hb2⟩
      have I2 := Lib.hid (HI.out.step hb2)
      clear hpc hcell hb2 HI
      unfold Ln.val
      simp only [ok1, Bool.and_eq_true, Bool.or_eq_true, decide_eq_true_eq] at hok
      obtain ⟨hok1, hok2⟩ := hok
      by_cases hlb : L.label = []
      · have e1 : (bs L.label).toList.isEmpty = true := isEmpty_of _ _ (by rw [bs_size, hlb]; rfl)
        by_cases ho : 0 < L.op
        · have e2 : decide (0 < L.op) = true := decide_eq_true ho
          have hA3 : Hid (asm1 (F.drop (k + 1)) (cd ++ [L.ins]) lb = some (cd1, labs)) := Lib.hid (by have := hA2.out; rwa [code1, lab1, if_pos ho, if_pos hlb] at this)
          have hlt2 : cd.length < 1024 := by rcases hok2 with h | h <;> omega
          have e3 : decide (1024 ≤ (cd.length : Int)) = false := decide_eq_false (by omega)
          have hz2 := I2.out.bl.size
          clear hA2 hok1 hok2 hlb ho
          go_wp2_with (first | (at_builtin; go_loud (refine wpList_append_uni rfl _ _ 42 rfl w1.heap.size 95 i0 _ 5 40 hu0 hi0 hz0 hs0 hb0 rfl (by decide) _ _ _ rfl (by exact own_below I2.out.oc (by (repeat (with_reducible first | exact Below.refl _ _ | assumption | apply below_alloc | apply below_drewN | apply below_drew1 | (refine below_set ?_ (by simp only [alloc_size]; omega)) | (refine below_step ?_ (by assumption)))))) _ 1 (Ins.enc L.ins) rfl rfl (Src.of_block (by exact alloc2_at _ _ _) (ins_one _)) (by unfold maxLen; omega) (by omega) (by simp only [alloc_size]; omega) ?_)) | fail)
          intro A3 c3 w3 o3 g3 h3'
          have hI3 := Lib.hid ((I2.out.step (by (repeat (with_reducible first | exact Below.refl _ _ | assumption | apply below_alloc | apply below_drewN | apply below_drew1 | (refine below_set ?_ (by simp only [alloc_size]; omega)) | (refine below_step ?_ (by assumption)))))).pushC o3 g3)
          clear o3 g3 h3'
          go_wp2_with fail
          go_roundw
          case rel => exact ⟨k + 1, _, _, by go_num, by omega, by simpa using hI3.out, by simp; omega, by omega, hA3⟩
          case measure => simp [intOf]; omega
        · have e2 : decide (0 < L.op) = false := decide_eq_false ho
          have hA3 : Hid (asm1 (F.drop (k + 1)) cd lb = some (cd1, labs)) := Lib.hid (by have := hA2.out; rwa [code1, lab1, if_neg ho, if_pos hlb] at this)
          clear hA2 hok1 hok2 hlb
          go_wp2_with fail
          go_roundw
          case rel => exact ⟨k + 1, _, _, by go_num, by omega, I2.out.step (by (repeat (with_reducible first | exact Below.refl _ _ | assumption | apply below_alloc | apply below_drewN | apply below_drew1 | (refine below_set ?_ (by simp only [alloc_size]; omega)) | (refine below_step ?_ (by assumption))))), by omega, by omega, hA3⟩
          case measure => simp [intOf]; omega
      · have e1 : (bs L.label).toList.isEmpty = false := isEmpty_of _ _ (by
          rw [bs_size]
          exact (decide_eq_false (fun h => hlb (List.length_eq_zero_iff.1 h))).symm)
        have ho : ¬ 0 < L.op := by rw [HPL.out hlb]; decide
        have e2 : decide (0 < L.op) = false := decide_eq_false ho
        have hA3 : Hid (asm1 (F.drop (k + 1)) cd (lb ++ [⟨L.label, cd.length⟩]) = some (cd1, labs)) := Lib.hid (by have := hA2.out; rwa [code1, lab1, if_neg ho, if_neg hlb] at this)
        have hfd : findB lb L.label < 0 := by rcases hok1 with h | h; (· exact absurd h hlb); (· exact h)
        have e3 : decide (0 ≤ findB lb L.label) = false := decide_eq_false (by omega)
        have hz2 := I2.out.bl.size
        obtain ⟨_, _, ee, _, hCl⟩ := I2.out.outL
        simp only [Value.slice.injEq, true_and] at ee
        obtain ⟨rfl, rfl⟩ := ee
        have hfc := fun w h => find_calls (ok := (w1.heap.size ≤ ·)) lb (bs L.label) Al cl w h I2.out.ok
        rw [nb_bs HP.out.1] at hfc
        have HCl := Lib.hid hCl
        clear hA2 hok1 hok2 hlb ho hfd hCl
        go_wp2_with fail
        refine (hfc _ (HCl.out.below (by (repeat (with_reducible first | exact Below.refl _ _ | assumption | apply below_alloc | apply below_drewN | apply below_drew1 | (refine below_set ?_ (by simp only [alloc_size]; omega)) | (refine below_step ?_ (by assumption))))))).mono ?_
        rintro e w' ⟨rfl, rfl⟩
        clear hfc
        go_wp2_with (first | (at_builtin; go_loud (refine wpList_append_uni rfl _ _ 43 rfl w1.heap.size 92 i1 _ 2 24 hu1 hi1 hz1 hs1 hb1 rfl (by decide) _ _ _ rfl (by exact own_below I2.out.ol (by (repeat (with_reducible first | exact Below.refl _ _ | assumption | apply below_alloc | apply below_drewN | apply below_drew1 | (refine below_set ?_ (by simp only [alloc_size]; omega)) | (refine below_step ?_ (by assumption)))))) _ 1 (Lb.enc ⟨L.label, cd.length⟩) rfl rfl (Src.of_block (by exact alloc2_at _ _ _) (lab_one _)) (by unfold maxLen; omega) (by omega) (by simp only [alloc_size]; omega) ?_)) | fail)
        intro A3 c3 w3 o3 g3 h3'
        have hI3 := Lib.hid ((I2.out.step (by (repeat (with_reducible first | exact Below.refl _ _ | assumption | apply below_alloc | apply below_drewN | apply below_drew1 | (refine below_set ?_ (by simp only [alloc_size]; omega)) | (refine below_step ?_ (by assumption)))))).pushL o3 g3 HP.out.1)
        have hq := (TOnly.grown (I2.out.step (by (repeat (with_reducible first | exact Below.refl _ _ | assumption | apply below_alloc | apply below_drewN | apply below_drew1 | (refine below_set ?_ (by simp only [alloc_size]; omega)) | (refine below_step ?_ (by assumption)))))).ol g3).cell (p := ⟨w2.heap.size, 1, none⟩) (U := 102) (by decide) ((IsT.new w2 _ _).alloc _) (cell_alloc_of (box_cell w2 [.string (bs L.label), .int .i64 L.op, .int .i64 L.a, .int .i64 L.b, .int .i64 L.c, .int .i64 L.n, .string (bs L.target)] 102 (i := 1) rfl) _)
        clear o3 g3 h3'
        go_wp2_with fail
        go_roundw
        case rel => exact ⟨k + 1, _, _, by go_num, by omega, by simpa using hI3.out, by omega, by simp; omega, hA3⟩
        case measure => simp [intOf]; omega
    · have d1 : decide ((k : Int) < (F.length : Int)) = false := decide_eq_false (by omega)
      have hfin := hA.out
      rw [List.drop_of_length_le (by omega), asm1] at hfin
      simp only [Option.some.injEq, Prod.mk.injEq] at hfin
      obtain ⟨rfl, rfl⟩ := hfin
      clear hA
      go_wp2_with fail
      go_loopw [12, 13] (fun nv i wr => ∃ (k n : Nat) (c2 : List Ins), nv = .int .i64 n ∧ i = .int .i64 k ∧ k ≤ F.length ∧ n ≤ k ∧ AsmInv w1 (.slice Ac cd.length cc) (.slice Al lb.length cl) c2 lb wr ∧ c2.length = cd.length ∧ Hid (asm2 (F.drop k) lb n c2 = some code)) (fun _ i _ => F.length - (intOf i).toNat)
      case atStart => exact ⟨0, 0, cd, rfl, rfl, Nat.zero_le _, Nat.le_refl _, HI.out, rfl, H2⟩
      case round =>
        clear H2 HI
        obtain ⟨k, n, c2, rfl, rfl, hk, hnk, hI, hce, hA⟩ := hrel
        have HI := Lib.hid hI
        have hz := hI.bl.size
        clear hI
        by_cases hlt : k < F.length
        · have d1 : decide ((k : Int) < (F.length : Int)) = true := decide_eq_true (by omega)
          obtain ⟨l, L, hgl, hpL, hok, hA'⟩ := asm2_step hlt hA.out
          have hlo := HL.out l (List.mem_of_getElem? hgl)
          have HP := Lib.hid (parse_bytes hpL hlo.1)
          obtain ⟨ad, t, rfl, ht, hcell⟩ := at_str' (HC.out.below HI.out.bl) k (by rw [List.length_map]; exact hlt)
          have htl : t = bs l := by rw [List.getElem?_map, hgl] at ht; exact (Option.some.inj ht).symm
          have hpc := fun w => Parse_calls t w (by rw [htl, bs_size]; omega) L (by rw [htl, nb_bs hlo.1]; exact hpL)
          have hA2 := Lib.hid hA'
          clear hA' hA hgl hpL hlo ht htl
          go_wp2_with fail
          refine (hpc _).mono ?_
          rintro e w2 ⟨rfl, hb2⟩
          have I2 := Lib.hid (HI.out.step hb2)
          have hz2 := I2.out.bl.size
          clear hpc hcell hb2 HI
          unfold Ln.val
          simp only [ok2, Bool.and_eq_true, Bool.or_eq_true, decide_eq_true_eq] at hok
          by_cases hlb : L.target = []
          · have e1 : (bs L.target).toList.isEmpty = true := isEmpty_of _ _ (by rw [bs_size, hlb]; rfl)
            have hA3 : Hid (asm2 (F.drop (k + 1)) lb (next2 L n) c2 = some code) := Lib.hid (by have := hA2.out; rwa [code2, if_pos hlb] at this)
            clear hA2 hok hlb
            by_cases ho : 0 < L.op
            · have e2 : decide (0 < L.op) = true := decide_eq_true ho
              have HN := Lib.hid (show next2 L n = n + 1 by rw [next2, if_pos ho])
              clear ho
              go_wp2_with fail
              go_roundw
              case rel => exact ⟨k + 1, n + 1, c2, by go_num, by go_num, by omega, by omega, I2.out.step (by (repeat (with_reducible first | exact Below.refl _ _ | assumption | apply below_alloc | apply below_drewN | apply below_drew1 | (refine below_set ?_ (by simp only [alloc_size]; omega)) | (refine below_step ?_ (by assumption))))), hce, Lib.hid (by rw [← HN.out]; exact hA3.out)⟩
              case measure => simp [intOf]; omega
            · have e2 : decide (0 < L.op) = false := decide_eq_false ho
              have HN := Lib.hid (show next2 L n = n by rw [next2, if_neg ho])
              clear ho
              go_wp2_with fail
              go_roundw
              case rel => exact ⟨k + 1, n, c2, rfl, by go_num, by omega, by omega, I2.out.step (by (repeat (with_reducible first | exact Below.refl _ _ | assumption | apply below_alloc | apply below_drewN | apply below_drew1 | (refine below_set ?_ (by simp only [alloc_size]; omega)) | (refine below_step ?_ (by assumption))))), hce, Lib.hid (by have := hA3.out; rwa [HN.out] at this)⟩
              case measure => simp [intOf]; omega
          · have e1 : (bs L.target).toList.isEmpty = false := isEmpty_of _ _ (by
              rw [bs_size]
              exact (decide_eq_false (fun h => hlb (List.length_eq_zero_iff.1 h))).symm)
            obtain ⟨hf0, hnl⟩ : 0 ≤ findB lb L.target ∧ n < c2.length := by rcases hok with h | h; (· exact absurd h hlb); (· exact h)
            have e3 : decide (findB lb L.target < 0) = false := decide_eq_false (by omega)
            obtain ⟨x, hx⟩ : ∃ x, c2[n]? = some x := ⟨_, List.getElem?_eq_getElem hnl⟩
            have HX := Lib.hid hx
            have hA3 : Hid (asm2 (F.drop (k + 1)) lb (next2 L n) (c2.set n { x with n := findB lb L.target }) = some code) := Lib.hid (by have := hA2.out; rw [code2, if_neg hlb, hx] at this; exact this)
            obtain ⟨_, _, ee, _, hCl⟩ := I2.out.outL
            simp only [Value.slice.injEq, true_and] at ee
            obtain ⟨rfl, rfl⟩ := ee
            obtain ⟨g, hg⟩ : ∃ g, Ac = some ⟨g, 0, none⟩ := by
              rcases I2.out.oc.2 with ⟨e, h0⟩ | ⟨g, cap, cur, e, _⟩
              · omega
              · simp only [Value.slice.injEq] at e
                exact ⟨g, e.1⟩
            subst hg
            have hfc := fun w h => find_calls (ok := (w1.heap.size ≤ ·)) lb (bs L.target) Al cl w h I2.out.ok
            rw [nb_bs HP.out.2] at hfc
            have HCl := Lib.hid hCl
            have IB := Lib.hid (I2.out.step (w' := w2.alloc (.cells #[.string (bs L.label), .int .i64 L.op, .int .i64 L.a, .int .i64 L.b, .int .i64 L.c, .int .i64 L.n, .string (bs L.target)] 102)) (by (repeat (with_reducible first | exact Below.refl _ _ | assumption | apply below_alloc | apply below_drewN | apply below_drew1 | (refine below_set ?_ (by simp only [alloc_size]; omega)) | (refine below_step ?_ (by assumption))))))
            have hst := Lib.hid (I2.out.store (g := g) (cap := cc) (v := findB lb L.target) (by rw [hce]) HX.out)
            obtain ⟨fv, hfv⟩ : ∃ fv, fv = findB lb L.target := ⟨_, rfl⟩
            have hcc3 : c2.length ≤ cc := by rcases I2.out.oc.2 with ⟨e, h0⟩ | ⟨g, cap, cur, e, _, _, h, _⟩; (· omega); (· simp only [Value.slice.injEq] at e; omega)
            obtain ⟨y0, y1, y2⟩ := IB.out.cellN (cap := cc) (g := g) (by rw [hce]) HX.out
            have y2' : g < w2.heap.size := (I2.out.cellN (cap := cc) (g := g) (by rw [hce]) HX.out) |>.2.2
            have y4 : (n : Int) < (cd.length : Int) := by omega
            have HCE := Lib.hid hce
            clear hA2 hok hlb hCl hx hce
            by_cases ho : 0 < L.op
            · have e2 : decide (0 < L.op) = true := decide_eq_true ho
              have HN := Lib.hid (show next2 L n = n + 1 by rw [next2, if_pos ho])
              clear ho
              go_wp2_with fail
              refine (hfc _ (HCl.out.below (by (repeat (with_reducible first | exact Below.refl _ _ | assumption | apply below_alloc | apply below_drewN | apply below_drew1 | (refine below_set ?_ (by simp only [alloc_size]; omega)) | (refine below_step ?_ (by assumption))))))).mono ?_
              rintro e w' ⟨rfl, rfl⟩
              clear hfc
              go_wp2_with fail
              go_roundw
              case rel => exact ⟨k + 1, n + 1, c2.set n { x with n := findB lb L.target }, by go_num, by go_num, by omega, by omega, hst.out.step (by (repeat (with_reducible first | exact Below.refl _ _ | assumption | apply below_alloc | apply below_drewN | apply below_drew1 | (refine below_set ?_ (by simp only [alloc_size]; omega)) | (refine below_step ?_ (by assumption))))), by rw [List.length_set]; exact HCE.out, Lib.hid (by rw [← HN.out]; exact hA3.out)⟩
              case measure => simp [intOf]; omega
            · have e2 : decide (0 < L.op) = false := decide_eq_false ho
              have HN := Lib.hid (show next2 L n = n by rw [next2, if_neg ho])
              clear ho
              go_wp2_with fail
              refine (hfc _ (HCl.out.below (by (repeat (with_reducible first | exact Below.refl _ _ | assumption | apply below_alloc | apply below_drewN | apply below_drew1 | (refine below_set ?_ (by simp only [alloc_size]; omega)) | (refine below_step ?_ (by assumption))))))).mono ?_
              rintro e w' ⟨rfl, rfl⟩
              clear hfc
              go_wp2_with fail
              go_roundw
              case rel => exact ⟨k + 1, n, c2.set n { x with n := findB lb L.target }, rfl, by go_num, by omega, by omega, hst.out.step (by (repeat (with_reducible first | exact Below.refl _ _ | assumption | apply below_alloc | apply below_drewN | apply below_drew1 | (refine below_set ?_ (by simp only [alloc_size]; omega)) | (refine below_step ?_ (by assumption))))), by rw [List.length_set]; exact HCE.out, Lib.hid (by have := hA3.out; rwa [HN.out] at this)⟩
              case measure => simp [intOf]; omega
        · have d1 : decide ((k : Int) < (F.length : Int)) = false := decide_eq_false (by omega)
          have hfin := hA.out
          rw [List.drop_of_length_le (by omega), asm2] at hfin
          obtain rfl := Option.some.inj hfin
          obtain ⟨A9, c9, ee, hc9, hCc⟩ := HI.out.outC
          obtain ⟨A8, c8, ee2, hc8, hCl⟩ := HI.out.outL
          have hBB := Lib.hid (below_step BB.out HI.out.bl)
          have hzz := BB.out.size
          have HCE := Lib.hid hce
          have EE := Lib.hid ee
          have EE2 := Lib.hid ee2
          have OK := Lib.hid HI.out.ok
          clear hA hce ee ee2 HI
          go_wp2_with fail
          refine bodyPost_ret (v := .tuple #[.slice Ac cd.length cc, .slice Al lb.length cl, .int .i64 0, .int .i64 (-1)]) (by simp [results, Try.results38, go_sem]) rfl ?_
          refine ⟨A9, c9, A8, c8, by rw [EE.out, EE2.out], hBB.out, ⟨hc9, hCc.mono fun k hk => Nat.le_trans hzz hk⟩, ⟨hc8, hCl.mono fun k hk => Nat.le_trans hzz hk⟩, OK.out⟩
end Go.Proofs.Ytegjkheecbmioaa
