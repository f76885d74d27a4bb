/- The walk of PackStays. -/
import Derived.Test.YtikfkkinhipfjaaLawBack
import Derived.Test.YtikfkkinhipfjaaMux
namespace Go.Proofs.Ytikfkkinhipfjaa
open Go.RowKit Go.ChangeShapes
set_option linter.unusedVariables false
set_option linter.unusedSimpArgs false

/-- The bytes of a script; none, if it may not be. -/
def pbs (s : Scr) : List Nat := if checkE s = none then putB s else []
theorem put_all {ok : Nat → Prop} (s : Scr) (A0 A1 A2 : Option Addr) (c0 c1 c2 : Nat) (w : World) (h : ScrAt ok w s A0 A1 A2 c0 c1 c2) :
    Calls Try.prog 10 #[scrV s A0 A1 A2 c0 c1 c2] w fun e w' => ∃ v, e = .returned (.tuple #[v, errV (checkE s)]) ∧ w'.ownsRow w.heap.size 5 1 v (pbs s).length ((pbs s).map byteV) ∧ Below w.heap.size w w' := by
  unfold pbs
  cases hc : checkE s with
  | none =>
    rw [if_pos rfl]
    exact put_calls s A0 A1 A2 c0 c1 c2 w h hc
  | some ce =>
    rw [if_neg (by simp)]
    exact (put_bad s ce A0 A1 A2 c0 c1 c2 w h hc).mono fun e w' ⟨h1, h2⟩ => ⟨_, h1, World.ownsRow_nil _ _ _ _, h2⟩
theorem pbs_len (s : Scr) : (pbs s).length ≤ 90000 := by
  unfold pbs
  split
  · exact putB_len (by assumption)
  · simp
theorem pbs_byte (s : Scr) : ∀ x ∈ pbs s, x < 256 := by
  unfold pbs
  split
  · exact putB_byte s
  · simp
theorem errV_nil (x : Option Int) : ∃ b : Bool, (∀ w, (binOp .eql 31 (errV x) .nilIface).run Try.prog w = .ok (.bool b) w) ∧ ∀ a w, (eqGuard .eql 31 a (.const .nilIface) (errV x) .nilIface).run Try.prog w = .ok () w := by
  cases x with
  | none => exact ⟨true, fun w => by simp only [errV]; kernel_rfl, fun a w => by simp [errV, eqGuard]⟩
  | some c => exact ⟨false, fun w => by simp only [errV]; kernel_rfl, fun a w => by simp [errV, eqGuard]⟩
/-- Bytes that are turned in place. -/
structure BumpInv (B : Nat) (v : Value) (n : Nat) (L : List Nat) (w wr : World) : Prop where
  own : wr.ownsRow B 5 1 v n (L.map byteV)
  on : Only (fun b => some b = v.ownBlock) w wr
theorem bump_at {B n k : Nat} {v : Value} {L : List Nat} {w wr : World} (h : BumpInv B v n L w wr) (hk : k < n) : ∃ g cap x, v = .slice (some ⟨g, 0, none⟩) n cap ∧ n ≤ cap ∧ L[k]? = some x ∧ wr.cell? ⟨g, k, none⟩ = some (.int .u8 (x : Int)) ∧ wr.frozen? ⟨g, k, none⟩ = false ∧
    BumpInv B v n (L.set k ((x + 1) % 256)) w (wr.setCell ⟨g, k, none⟩ (.int .u8 (((x + 1) % 256 : Nat) : Int))) := by
  have hl : L.length = n := by have := h.own.1; simpa using this
  rcases h.own.2 with ⟨rfl, h0⟩ | ⟨g, cap, cur, rfl, hg, hh, hnc, hcm, hcs, ht⟩
  · omega
  · have hx : L[k]? = some (L[k]'(by omega)) := List.getElem?_eq_getElem (by omega)
    refine ⟨g, cap, L[k]'(by omega), rfl, hnc, hx, ?_, (show IsT g 5 wr from ⟨cur, hh⟩).frozen k, ?_, ?_⟩
    · have h1 : (L.map byteV)[k]? = some (byteV (L[k]'(by omega))) := by rw [List.getElem?_map, hx]; rfl
      rw [← ht, Nat.mul_one, List.getElem?_take_of_lt (by omega)] at h1
      have h1 : cur[k]? = some (byteV (L[k]'(by omega))) := by simpa using h1
      simp [World.cell?, hh, h1, byteV]
    · have := (World.ownsRow.stored h.own k (.int .u8 ((((L[k]'(by omega)) + 1) % 256 : Nat) : Int))).1
      rw [List.map_set]
      exact this
    · exact h.on.set (p := ⟨g, k, none⟩) (.inl rfl) _
theorem u8_inc (x : Nat) : ((x : Int) + 1) % 256 = (((x + 1) % 256 : Nat) : Int) := by omega
theorem InBox.only {w w1 : World} {g : Nat} {s : Scr} {A0 A1 A2 : Option Addr} {c0 c1 c2 : Nat} {S : Nat → Prop} (h : InBox w g s A0 A1 A2 c0 c1 c2) (hO : Only S w w1) (hg : ¬ S g) : InBox w1 g s A0 A1 A2 c0 c1 c2 :=
  ⟨hO.cell h.x0 hg, hO.cell h.x1 hg, hO.cell h.x2 hg⟩
set_option maxRecDepth 100000 in
set_option maxHeartbeats 12800000 in
theorem stays_calls {ok : Nat → Prop} (s : Scr) (A0 A1 A2 : Option Addr) (c0 c1 c2 : Nat) (l : List Nat) (A : Option Addr) (c : Nat) (w : World) (h : ScrAt ok w s A0 A1 A2 c0 c1 c2) (hl : kByte.C (fun _ => True) w A l) (hlc : l.length ≤ c) (hx : ∀ x ∈ l, x < 256) :
    Calls Try.prog 6 #[scrV s A0 A1 A2 c0 c1 c2, .slice A l.length c] w fun e w' => e = .returned (.bool true) ∧ Below w.heap.size w w' := by
  obtain ⟨i0, hi0, hz0, hs0, hbb0⟩ := info_u8
  have hu : Try.prog.underlying 29 = some (.slice 5) := Try.underlying29
  have hS := Lib.hid h.bound
  have hL := Lib.hid hl.bound
  have hX := Lib.hid hx
  have hll := hl.len
  clear h hl hx
  have x1 := Lib.hid (InBox.new w s A0 A1 A2 c0 c1 c2 26)
  unfold scrV
  go_enter Try.func6, Try.ntmps6
  go_wp2_with fail
  refine (up06_calls _).mono ?_
  rintro e w1 ⟨rfl, hb1⟩
  have S1 := Lib.hid ((hS.out.below (by (repeat (with_reducible first | exact Below.refl _ _ | assumption | apply below_alloc | apply below_drewN | apply below_drew1 | (refine below_set ?_ (by simp only [alloc_size]; omega)) | (refine below_step ?_ (by assumption)))))).below hb1)
  have X1 := Lib.hid (x1.out.below hb1)
  have bb1 : Below w.heap.size w w1 := by (repeat (with_reducible first | exact Below.refl _ _ | assumption | apply below_alloc | apply below_drewN | apply below_drew1 | (refine below_set ?_ (by simp only [alloc_size]; omega)) | (refine below_step ?_ (by assumption))))
  have BB1 := Lib.hid bb1
  have e0 := X1.out.x0
  have e1 := X1.out.x1
  have e2 := X1.out.x2
  clear hb1 bb1 x1 hS
  go_wp2_with fail
  refine (few_calls s A0 A1 A2 c0 c1 c2 _ S1.out).mono ?_
  rintro e w2 ⟨rfl, hb2⟩
  have S2 := Lib.hid (S1.out.below hb2)
  have X2 := Lib.hid (X1.out.below hb2)
  have BB2 := Lib.hid (below_step BB1.out hb2)
  clear hb2 e0 e1 e2 S1 X1 BB1
  cases hf : fewB s with
  | false =>
    go_wp2_with fail
    go_ret
    exact ⟨rfl, BB2.out⟩
  | true =>
    have hff := Lib.hid hf
    clear hf
    by_cases h4 : 4000 < (l.length : Int)
    · have h4' : decide (4000 < (l.length : Int)) = true := by simpa using h4
      go_wp2_with fail
      go_ret
      exact ⟨rfl, BB2.out⟩
    have h4' : decide (4000 < (l.length : Int)) = false := by simpa using h4
    have hl4 : l.length ≤ 4000 := by omega
    clear h4
    have e0 := X2.out.x0
    have e1 := X2.out.x1
    have e2 := X2.out.x2
    go_wp2_with fail
    refine (copy_calls s A0 A1 A2 c0 c1 c2 _ S2.out hff.out).mono ?_
    rintro e w3 ⟨E0, E1, E2, f0, f1, f2, rfl, ⟨g1, hO⟩, hb3⟩
    have S3 := Lib.hid (S2.out.below hb3)
    have X3 := Lib.hid (X2.out.below hb3)
    have O3 := Lib.hid hO.at.bound
    have BB3 := Lib.hid (below_step BB2.out hb3)
    have z3 : w.heap.size < w3.heap.size := cell_lt X3.out.x0
    have R4 := Lib.hid (InBox.new w3 s E0 E1 E2 f0 f1 f2 26)
    clear hb3 e0 e1 e2 S2 X2 BB2 hO hff
    unfold scrV
    go_wp2_with fail
    refine (put_all s E0 E1 E2 f0 f1 f2 _ (O3.out.below (by (repeat (with_reducible first | exact Below.refl _ _ | assumption | apply below_alloc | apply below_drewN | apply below_drew1 | (refine below_set ?_ (by simp only [alloc_size]; omega)) | (refine below_step ?_ (by assumption))))))).mono ?_
    rintro e w5 ⟨p, rfl, o5, hb5⟩
    have S5 := Lib.hid ((S3.out.below (by (repeat (with_reducible first | exact Below.refl _ _ | assumption | apply below_alloc | apply below_drewN | apply below_drew1 | (refine below_set ?_ (by simp only [alloc_size]; omega)) | (refine below_step ?_ (by assumption)))))).below hb5)
    have X5 := Lib.hid ((X3.out.below (by (repeat (with_reducible first | exact Below.refl _ _ | assumption | apply below_alloc | apply below_drewN | apply below_drew1 | (refine below_set ?_ (by simp only [alloc_size]; omega)) | (refine below_step ?_ (by assumption)))))).below hb5)
    have O5 := Lib.hid ((O3.out.below (by (repeat (with_reducible first | exact Below.refl _ _ | assumption | apply below_alloc | apply below_drewN | apply below_drew1 | (refine below_set ?_ (by simp only [alloc_size]; omega)) | (refine below_step ?_ (by assumption)))))).below hb5)
    have R5 := Lib.hid (R4.out.below hb5)
    have BB5 := Lib.hid (below_step (below_step BB3.out (by (repeat (with_reducible first | exact Below.refl _ _ | assumption | apply below_alloc | apply below_drewN | apply below_drew1 | (refine below_set ?_ (by simp only [alloc_size]; omega)) | (refine below_step ?_ (by assumption)))))) hb5)
    have z5 := hb5.size
    rw [alloc_size] at z5 o5
    have hpl := pbs_len s
    have HB := Lib.hid (pbs_byte s)
    obtain ⟨b1, hb1, hgd1⟩ := errV_nil (checkE s)
    clear hb5 S3 X3 O3 R4 BB3
    obtain ⟨ev, hev⟩ : ∃ ev, ev = errV (checkE s) := ⟨_, rfl⟩
    rw [← hev] at hb1 hgd1 ⊢
    obtain ⟨pb, hpb⟩ : ∃ pb, pb = pbs s := ⟨_, rfl⟩
    rw [← hpb] at o5 hpl HB
    have HEV := Lib.hid hev
    have HPB := Lib.hid hpb
    clear hev hpb
    obtain ⟨A5, c5, rfl, hl5, hC5⟩ := own_bytes o5
    have q5 := conv_bytes (c := c5) _ hC5
    have P5 := Lib.hid o5
    clear o5 hC5
    go_wp2_with fail
    clear q5
    have ownp : ∀ k, (Value.slice A5 pb.length c5).ownBlock = some k → w3.heap.size + 1 ≤ k := fun k hk => own_base P5.out k hk
    have OWN := Lib.hid ownp
    clear ownp
    go_loopw [11] (fun i wr => ∃ (k : Nat) (L : List Nat), k ≤ pb.length ∧ i = .int .i64 k ∧ BumpInv (w3.heap.size + 1) (.slice A5 pb.length c5) pb.length L w5 wr) (fun i _ => pb.length - (intOf i).toNat)
    case atStart => exact ⟨0, pb, Nat.zero_le _, rfl, P5.out, Only.refl _ _⟩
    case round =>
      obtain ⟨k, L, hk, rfl, hI⟩ := hrel
      by_cases hlt : k < pb.length
      · obtain ⟨g, cap, x, hv, hcap, hLx, hcell, hfz, hJ⟩ := bump_at hI hlt
        have HJ := Lib.hid hJ
        have hinc := Lib.hid (u8_inc x)
        simp only [Value.slice.injEq, true_and] at hv
        obtain ⟨rfl, rfl⟩ := hv
        clear hI hJ hLx
        go_wp2_with fail
        rw [hinc.out]
        go_roundw
        case rel => exact ⟨k + 1, _, by omega, by go_num, HJ.out⟩
        case measure => simp [intOf]; omega
      · obtain rfl : k = pb.length := by omega
        have hO := hI.on
        have S6 := Lib.hid (S5.out.only hO (fun k hk e => by have := OWN.out k e.symm; have := hk.2; omega))
        have O6 := Lib.hid (O5.out.only hO (fun k hk e => by have := OWN.out k e.symm; have := hk.2; omega))
        have X6 := Lib.hid (X5.out.only hO (fun e => by have := OWN.out _ e.symm; omega))
        have R6 := Lib.hid (R5.out.only hO (fun e => by have := OWN.out _ e.symm; omega))
        have BB6 := Lib.hid (BB5.out.trans (hO.below BB5.out.size (fun i e => by have := OWN.out _ e.symm; omega)))
        have z6 := hO.size
        have e0 := R6.out.x0
        have e1 := R6.out.x1
        have e2 := R6.out.x2
        clear hI hO S5 X5 O5 R5 BB5 P5
        go_wp2_with fail
        refine (put_all s E0 E1 E2 f0 f1 f2 _ O6.out).mono ?_
        rintro e y2 ⟨q, rfl, o2, hb2⟩
        rw [← HEV.out]
        rw [← HPB.out] at o2
        have S7 := Lib.hid (S6.out.below hb2)
        have X7 := Lib.hid (X6.out.below hb2)
        have O7 := Lib.hid (O6.out.below hb2)
        have R7 := Lib.hid (R6.out.below hb2)
        have BB7 := Lib.hid (below_step BB6.out hb2)
        have z7 := hb2.size
        obtain ⟨A7, d7, rfl, hl7, hC7⟩ := own_bytes o2
        have C7 := Lib.hid hC7.bound
        clear hb2 e0 e1 e2 S6 X6 O6 R6 BB6 o2 hC7
        go_wp2_with (first | (at_builtin; go_loud (refine wpList_append_uni rfl _ _ 29 rfl y2.heap.size 5 i0 _ 1 1 hu hi0 hz0 hs0 hbb0 rfl (by decide) _ _ _ rfl (own_empty y2 5 0) _ l.length (l.map byteV) rfl (by simp) (Src.of_bytes ((hL.out.below BB7.out).below (by (repeat (with_reducible first | exact Below.refl _ _ | assumption | apply below_alloc | apply below_drewN | apply below_drew1 | (refine below_set ?_ (by simp only [alloc_size]; omega)) | (refine below_step ?_ (by assumption))))))) (by unfold maxLen; omega) (by omega) (by simp only [alloc_size]; omega) ?_)) | fail)
        intro A8 c8 y3 o8 g8 h8
        try simp only [Nat.zero_add, List.nil_append] at o8
        try simp only [Nat.zero_add, List.nil_append] at g8 h8
        try simp only [Nat.zero_add, List.nil_append]
        have b8 : Below y2.heap.size y2 y3 := below_grown (by (repeat (with_reducible first | exact Below.refl _ _ | assumption | apply below_alloc | apply below_drewN | apply below_drew1 | (refine below_set ?_ (by simp only [alloc_size]; omega)) | (refine below_step ?_ (by assumption))))) g8 (by simp only [alloc_size]; omega) (fun k hk => by simp [Value.ownBlock] at hk; omega)
        have hl8 : (l.map byteV).length = l.length := by simp
        obtain ⟨_, _, e8, hl9, hC8⟩ := own_bytes o8
        simp only [Value.slice.injEq, true_and] at e8
        obtain ⟨rfl, rfl⟩ := e8
        have C8 := Lib.hid hC8.bound
        have P8 := Lib.hid o8
        have S8 := Lib.hid (S7.out.below b8)
        have X8 := Lib.hid (X7.out.below b8)
        have O8 := Lib.hid (O7.out.below b8)
        have R8 := Lib.hid (R7.out.below b8)
        have Q8 := Lib.hid (C7.out.below b8)
        have BB8 := Lib.hid (below_step BB7.out b8)
        have z8 := b8.size
        have own8 := Lib.hid (fun k hk => P8.out.lt k hk)
        clear b8 o8 g8 h8 hC8 S7 X7 O7 R7 BB7 C7
        go_wp2_with fail
        refine (get_calls l A8 c8 _ C8.out hX.out hl9 (by omega) (fun k hk => hk.2)).mono ?_
        rintro e y4 ⟨G0, G1, G2, h0, h1, h2, rfl, hU, hb9⟩
        have U9 := Lib.hid hU.bound
        obtain ⟨b2, hb2, hgd2⟩ := errV_nil (getR l).1
        have S9 := Lib.hid (S8.out.below hb9)
        have X9 := Lib.hid (X8.out.below hb9)
        have O9 := Lib.hid (O8.out.below hb9)
        have R9 := Lib.hid (R8.out.below hb9)
        have Q9 := Lib.hid (Q8.out.below hb9)
        have P9 := Lib.hid (own_below P8.out hb9)
        have BB9 := Lib.hid (below_step BB8.out hb9)
        have z9 := hb9.size
        have hG : Hid (GetPost l = GetPost l) := Lib.hid rfl
        clear hU hb9 S8 X8 O8 R8 Q8 P8 BB8 C8
        obtain ⟨t, ht⟩ : ∃ t, t = (getR l).2 := ⟨_, rfl⟩
        rw [← ht] at U9 ⊢
        have HT := Lib.hid ht
        obtain ⟨gv, hgv⟩ : ∃ gv, gv = errV (getR l).1 := ⟨_, rfl⟩
        rw [← hgv] at hb2 hgd2 ⊢
        have HGV := Lib.hid hgv
        clear ht hgv
        have V9 := Lib.hid (InBox.new y4 t G0 G1 G2 h0 h1 h2 26)
        unfold scrV
        go_wp2_with fail
        go_loopw [17] (fun i wr => ∃ (k : Nat) (L : List Nat), k ≤ l.length ∧ i = .int .i64 k ∧ BumpInv y2.heap.size (.slice A8 l.length c8) l.length L (y4.alloc (.cells #[.slice G0 t.objs.length h0, .slice G1 t.progs.length h1, .slice G2 t.picks.length h2] 26)) wr) (fun i _ => l.length - (intOf i).toNat)
        case atStart => exact ⟨0, l, Nat.zero_le _, rfl, P9.out.alloc _, Only.refl _ _⟩
        case round =>
          obtain ⟨k, L, hk, rfl, hI⟩ := hrel
          by_cases hlt : k < l.length
          · obtain ⟨g, cap, x, hv, hcap, hLx, hcell, hfz, hJ⟩ := bump_at hI hlt
            have HJ := Lib.hid hJ
            have hinc := Lib.hid (u8_inc x)
            simp only [Value.slice.injEq, true_and] at hv
            obtain ⟨rfl, rfl⟩ := hv
            clear hI hJ hLx
            go_wp2_with fail
            rw [hinc.out]
            go_roundw
            case rel => exact ⟨k + 1, _, by omega, by go_num, HJ.out⟩
            case measure => simp [intOf]; omega
          · obtain rfl : k = l.length := by omega
            have hO := hI.on
            have bA : Below y4.heap.size y4 (y4.alloc (.cells #[.slice G0 t.objs.length h0, .slice G1 t.progs.length h1, .slice G2 t.picks.length h2] 26)) := by (repeat (with_reducible first | exact Below.refl _ _ | assumption | apply below_alloc | apply below_drewN | apply below_drew1 | (refine below_set ?_ (by simp only [alloc_size]; omega)) | (refine below_step ?_ (by assumption))))
            have S10 := Lib.hid ((S9.out.below bA).only hO (fun k hk e => by have := own8.out k e.symm; have := hk.2; omega))
            have O10 := Lib.hid ((O9.out.below bA).only hO (fun k hk e => by have := own8.out k e.symm; have := hk.2; omega))
            have X10 := Lib.hid ((X9.out.below bA).only hO (fun e => by have := own8.out _ e.symm; omega))
            have R10 := Lib.hid ((R9.out.below bA).only hO (fun e => by have := own8.out _ e.symm; omega))
            have Q10 := Lib.hid ((Q9.out.below bA).only hO (fun k hk e => by have := own8.out k e.symm; have := hk.2; omega))
            have U10 := Lib.hid ((U9.out.below bA).only hO (fun k hk e => by have := own8.out k e.symm; have := hk.1; omega))
            have V10 := Lib.hid (V9.out.only hO (fun e => by have := own8.out _ e.symm; omega))
            have bb10 := below_step BB9.out bA
            have BB10 := Lib.hid (bb10.trans (hO.below bb10.size (fun i e => by have := own8.out _ e.symm; omega)))
            have z10 := hO.size
            rw [alloc_size] at z10
            clear hI hO S9 X9 O9 R9 Q9 U9 V9 BB9 P9 bA bb10
            go_wp2_with fail
            refine (get_calls (ok := fun k => True ∧ k < w.heap.size) l A c _ (hL.out.below BB10.out) hX.out hlc (by omega) (fun k hk => Nat.lt_of_lt_of_le hk.2 BB10.out.size)).mono ?_
            rintro e y6 ⟨F0, F1, F2, d0, d1, d2, rfl, hU, hb11⟩
            rw [← HT.out, ← HGV.out]
            rw [← HT.out] at hU
            have W11 := Lib.hid hU
            have S11 := Lib.hid (S10.out.below hb11)
            have X11 := Lib.hid (X10.out.below hb11)
            have O11 := Lib.hid (O10.out.below hb11)
            have R11 := Lib.hid (R10.out.below hb11)
            have Q11 := Lib.hid (Q10.out.below hb11)
            have U11 := Lib.hid (U10.out.below hb11)
            have V11 := Lib.hid (V10.out.below hb11)
            have BB11 := Lib.hid (below_step BB10.out hb11)
            have z11 := hb11.size
            have W12 := Lib.hid (InBox.new y6 t F0 F1 F2 d0 d1 d2 26)
            clear hU hb11 S10 X10 O10 R10 Q10 U10 V10 BB10
            have bB : Below y6.heap.size y6 (y6.alloc (.cells #[.slice F0 t.objs.length d0, .slice F1 t.progs.length d1, .slice F2 t.picks.length d2] 26)) := by (repeat (with_reducible first | exact Below.refl _ _ | assumption | apply below_alloc | apply below_drewN | apply below_drew1 | (refine below_set ?_ (by simp only [alloc_size]; omega)) | (refine below_step ?_ (by assumption))))
            unfold scrV
            go_wp2_with fail
            have S12 := Lib.hid (S11.out.below bB)
            have X12 := Lib.hid (X11.out.below bB)
            have O12 := Lib.hid (O11.out.below bB)
            have R12 := Lib.hid (R11.out.below bB)
            have Q12 := Lib.hid (Q11.out.below bB)
            have U12 := Lib.hid (U11.out.below bB)
            have V12 := Lib.hid (V11.out.below bB)
            have T12 := Lib.hid (W11.out.below bB)
            have BB12 := Lib.hid (below_step BB11.out bB)
            clear S11 X11 O11 R11 Q11 U11 V11 W11 BB11 bB
            generalize y6.alloc (.cells #[.slice F0 t.objs.length d0, .slice F1 t.progs.length d1, .slice F2 t.picks.length d2] 26) = y7 at S12 X12 O12 R12 Q12 U12 V12 T12 W12 BB12 ⊢
            have hs1 := Lib.hid (show sameB s s = true by simp [sameB])
            have hs2 := Lib.hid (show sameB t t = true by simp [sameB])
            refine Mux.regionS [(true, 0), (true, 1), (true, 2), (true, 3), (false, 4), (true, 5), (true, 6), (true, 7), (true, 8), (true, 9), (true, 10), (true, 11), (true, 12), (true, 13), (true, 14), (true, 15), (true, 16), (true, 17), (true, 18), (true, 19), (true, 20), (true, 21), (true, 22), (true, 23), (true, 24), (true, 25), (true, 26), (true, 27), (true, 28), (false, 29), (false, 30), (false, 31)] [4] (fun w' => Below y7.heap.size y7 w') (by kernel_rfl) (by kernel_rfl) (by (repeat (with_reducible first | exact Below.refl _ _ | assumption | apply below_alloc | apply below_drewN | apply below_drew1 | (refine below_set ?_ (by simp only [alloc_size]; omega)) | (refine below_step ?_ (by assumption))))) ?_
            iterate 2 (apply Mux.quietS; (· (simp only [List.getElem?_toArray, List.getElem?_cons_succ, List.getElem?_cons_zero]) <;> rfl); (· intro w' hR V hV; go_simp; exact hV); intro K hK; simp only [Act.put, List.setIfInBounds_toArray, List.set_cons_zero, List.set_cons_succ]; refine hK _ ?_; clear hK K)
            (apply Mux.quietS; (· (simp only [List.getElem?_toArray, List.getElem?_cons_succ, List.getElem?_cons_zero]) <;> rfl); (· intro w' hR V hV; have q0 := cell_below_of R12.out.x0 hR; have q1 := cell_below_of R12.out.x1 hR; have q2 := cell_below_of R12.out.x2 hR; go_simp; exact hV); intro K hK; simp only [Act.put, List.setIfInBounds_toArray, List.set_cons_zero, List.set_cons_succ]; refine hK _ ?_; clear hK K)
            (apply Mux.quietS; (· (simp only [List.getElem?_toArray, List.getElem?_cons_succ, List.getElem?_cons_zero]) <;> rfl); (· intro w' hR V hV; have q4 := cell_below_of X12.out.x0 hR; have q5 := cell_below_of X12.out.x1 hR; have q6 := cell_below_of X12.out.x2 hR; go_simp; exact hV); intro K hK; simp only [Act.put, List.setIfInBounds_toArray, List.set_cons_zero, List.set_cons_succ]; refine hK _ ?_; clear hK K)
            refine Mux.mover_chkS rfl (by decide) ?_
            go_wp2_with fail
            refine (same_calls s s E0 E1 E2 A0 A1 A2 f0 f1 f2 c0 c1 c2 _ (O12.out.below (by (repeat (with_reducible first | exact Below.refl _ _ | assumption | apply below_alloc | apply below_drewN | apply below_drew1 | (refine below_set ?_ (by simp only [alloc_size]; omega)) | (refine below_step ?_ (by assumption)))))) (S12.out.below (by (repeat (with_reducible first | exact Below.refl _ _ | assumption | apply below_alloc | apply below_drewN | apply below_drew1 | (refine below_set ?_ (by simp only [alloc_size]; omega)) | (refine below_step ?_ (by assumption))))))).mono ?_
            rw [hs1.out]
            rintro e y8 ⟨rfl, hb13⟩
            have bb13 : Below y7.heap.size y7 y8 := below_step (by (repeat (with_reducible first | exact Below.refl _ _ | assumption | apply below_alloc | apply below_drewN | apply below_drew1 | (refine below_set ?_ (by simp only [alloc_size]; omega)) | (refine below_step ?_ (by assumption))))) hb13
            have B13 := Lib.hid bb13
            clear hb13 bb13
            go_wp2_with fail
            refine ⟨B13.out, ?_⟩
            iterate 10 (apply Mux.quietS; (· (simp only [List.getElem?_toArray, List.getElem?_cons_succ, List.getElem?_cons_zero]) <;> rfl); (· intro w' hR V hV; go_simp; exact hV); intro K hK; simp only [Act.put, List.setIfInBounds_toArray, List.set_cons_zero, List.set_cons_succ]; refine hK _ ?_; clear hK K)
            (apply Mux.quietS; (· (simp only [List.getElem?_toArray, List.getElem?_cons_succ, List.getElem?_cons_zero]) <;> rfl); (· intro w' hR V hV; have q7 := conv_bytes (c := d7) _ (Q12.out.below hR); go_simp; exact hV); intro K hK; simp only [Act.put, List.setIfInBounds_toArray, List.set_cons_zero, List.set_cons_succ]; refine hK _ ?_; clear hK K)
            iterate 11 (apply Mux.quietS; (· (simp only [List.getElem?_toArray, List.getElem?_cons_succ, List.getElem?_cons_zero]) <;> rfl); (· intro w' hR V hV; go_simp; exact hV); intro K hK; simp only [Act.put, List.setIfInBounds_toArray, List.set_cons_zero, List.set_cons_succ]; refine hK _ ?_; clear hK K)
            (apply Mux.quietS; (· (simp only [List.getElem?_toArray, List.getElem?_cons_succ, List.getElem?_cons_zero]) <;> rfl); (· intro w' hR V hV; have q0 := cell_below_of V12.out.x0 hR; have q1 := cell_below_of V12.out.x1 hR; have q2 := cell_below_of V12.out.x2 hR; go_simp; exact hV); intro K hK; simp only [Act.put, List.setIfInBounds_toArray, List.set_cons_zero, List.set_cons_succ]; refine hK _ ?_; clear hK K)
            (apply Mux.quietS; (· (simp only [List.getElem?_toArray, List.getElem?_cons_succ, List.getElem?_cons_zero]) <;> rfl); (· intro w' hR V hV; have q4 := cell_below_of W12.out.x0 hR; have q5 := cell_below_of W12.out.x1 hR; have q6 := cell_below_of W12.out.x2 hR; go_simp; exact hV); intro K hK; simp only [Act.put, List.setIfInBounds_toArray, List.set_cons_zero, List.set_cons_succ]; refine hK _ ?_; clear hK K)
            refine Mux.moverS rfl (by decide) ?_
            go_wp2_with fail
            refine (same_calls t t G0 G1 G2 F0 F1 F2 h0 h1 h2 d0 d1 d2 _ (U12.out.below B13.out) (T12.out.below B13.out)).mono ?_
            rw [hs2.out]
            rintro e y9 ⟨rfl, hb14⟩
            have B14 := Lib.hid (below_step (below_step BB12.out B13.out) hb14)
            clear hb14
            go_wp2_with fail
            refine Mux.moverS rfl (by decide) ?_
            go_wp2_with fail
            refine Mux.moverS rfl (by decide) ?_
            go_wp2_with fail
            refine Mux.doneS ?_
            go_wp2_with fail
            go_ret
            exact ⟨rfl, B14.out⟩
theorem stays_row (v v' : Value) (W : World) (h : IsScr W v) (h' : IsBytes W v') : Calls Try.prog 6 #[v, v'] W fun e W' => e = .returned (.bool true) ∧ Below W.heap.size W W' := by
  obtain ⟨s, A0, A1, A2, c0, c1, c2, rfl, hs⟩ := h
  obtain ⟨l, A, c, rfl, hc, hl, hx⟩ := h'
  exact stays_calls s A0 A1 A2 c0 c1 c2 l A c W hs hl hc hx
end Go.Proofs.Ytikfkkinhipfjaa
