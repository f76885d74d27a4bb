/- The walk of the reference's read of layer 6. -/
import Derived.Test.YtikfkkinhipfjaaReadP
import Derived.Test.YtikfkkinhipfjaaStr
namespace Go.Proofs.Ytikfkkinhipfjaa
open Go.RowKit Go.ChangeShapes
set_option linter.unusedVariables false
set_option linter.unusedSimpArgs false

structure RdsInv (w : World) (v : Value) (ns : List Int) (wr : World) : Prop where
  own : wr.ownsRow w.heap.size 2 1 v ns.length (ns.map i64V)
  bl : Below w.heap.size w wr
theorem lt_dec {a b : Nat} (h : a < b) : decide ((a : Int) < (b : Int)) = true := by simp; omega
theorem ge_dec {a b : Nat} (h : b ≤ a) : decide ((a : Int) < (b : Int)) = false := by simp; omega
theorem strB_toList' (l : List Nat) : (strB l).toList = l.map UInt8.ofNat := by
  rw [ByteArray.toList_eq]
  simp [strB, strOfNums]
theorem same_bytes' {a b : List Nat} (ha : ∀ x ∈ a, x < 256) (hb : ∀ x ∈ b, x < 256) : ((strB a).toList == (strB b).toList) = decide (a = b) := by
  rw [Bool.eq_iff_iff, beq_iff_eq, decide_eq_true_eq]
  constructor
  · intro h
    refine strB_inj ha hb ?_
    rw [ByteArray.toList_eq, ByteArray.toList_eq] at h
    cases h1 : strB a with
    | mk x => cases h2 : strB b with
      | mk y => rw [h1, h2] at h; simp only at h; rw [Array.ext' h]
  · rintro rfl; rfl
theorem byte_sub {ok : Nat → Prop} {w : World} {ad : Addr} {l : List Nat} (h : kByte.C ok w (some ad) l) (p n : Nat) : kByte.C ok w (some (ad.add p)) ((l.drop p).take n) := by
  have hl := h.len
  refine ⟨by simp only [List.length_take, List.length_drop]; omega, fun hne => ?_⟩
  have hne' : l ≠ [] := by rintro rfl; simp at hne
  obtain ⟨ad', e, ho, hcc⟩ := h.2 hne'
  obtain rfl := Option.some.inj e
  refine ⟨_, rfl, by rw [add_block]; exact ho, fun j x hj => ?_⟩
  have hj' : l[p + j]? = some x := by
    rw [List.getElem?_take] at hj
    split at hj
    · rwa [List.getElem?_drop] at hj
    · cases hj
  obtain ⟨cs, hK, hcell⟩ := hcc (p + j) x hj'
  refine ⟨cs, hK, fun i u hu => ?_⟩
  have := hcell i u hu
  rw [Go.Addr.add_add, show kByte.sz = 1 from rfl, Nat.mul_one]
  rw [show kByte.sz = 1 from rfl, Nat.mul_one] at this
  rwa [Nat.add_assoc] at this
set_option maxRecDepth 100000 in
set_option maxHeartbeats 3200000 in
theorem rread_calls {ok : Nat → Prop} (l : List Nat) (A : Option Addr) (c : Nat) (w : World) (h : kByte.C ok w A l) (hx : ∀ x ∈ l, x < 256) (hc : l.length ≤ c) (hl : l.length ≤ 1000000) :
    Calls Try.prog 33 #[.slice A l.length c] w fun e w' => Below w.heap.size w w' ∧ ((∃ v, e = .returned (.tuple #[v, .bool false]) ∧ ¬ Dec l) ∨
      (∃ v ns, e = .returned (.tuple #[v, .bool true]) ∧ l = numsB ns ∧ (∀ n ∈ ns, (Lit.int .i64 n).wf = true) ∧ ns.length ≤ l.length ∧ w'.ownsRow w.heap.size 2 1 v ns.length (ns.map i64V))) := by
  obtain ⟨i0, hi0, hz0, hs0, hbb0⟩ := info_parts info_i64
  have hu : Try.prog.underlying 60 = some (.slice 2) := Try.underlying60
  have hS := Lib.hid h.bound
  have hX := Lib.hid hx
  have hcl := h.len
  clear h hx
  go_enter Try.func33, Try.ntmps33
  go_wp2_with fail
  go_loopw [4, 5] (fun v i wr => ∃ (p : Nat) (ns : List Int), i = .int .i64 p ∧ Sofar l ns p ∧ RdsInv w v ns wr) (fun _ i _ => l.length - (intOf i).toNat)
  case atStart => exact ⟨0, [], rfl, Sofar.nil l, World.ownsRow_nil _ _ _ _, Below.refl _ _⟩
  case round =>
    obtain ⟨p, ns, rfl, hF, hI⟩ := hrel
    have hp := hF.le
    have hnp := hF.count
    have HF := Lib.hid hF
    have HI := Lib.hid hI
    have hsz := hI.bl.size
    clear hF hI
    by_cases hlt : p < l.length
    · have d1 := lt_dec hlt
      go_wp2_with fail
      clear d1
      go_loopw [6] (fun n w2 => ∃ k : Nat, n = .int .i64 k ∧ k ≤ 10 ∧ p + k ≤ l.length ∧ Hid (Scan (l.drop p) k) ∧ wr = w2) (fun n _ => 10 - (intOf n).toNat)
      case atStart => exact ⟨0, rfl, by omega, by omega, Lib.hid (fun j hj => by omega), rfl⟩
      case round =>
        obtain ⟨k, rfl, hk, hpk, hQ, rfl⟩ := hrel
        have hne : Hid (l.drop p ≠ []) := Lib.hid (fun e => by have := congrArg List.length e; simp at this; omega)
        by_cases h1 : p + k < l.length
        · have d1 : decide ((p : Int) + (k : Int) < (l.length : Int)) = true := by simp; omega
          by_cases h2 : k < 10
          · have d2 : decide ((k : Int) < 10) = true := by simp; omega
            obtain ⟨ad, x, rfl, hxk, hcell, _⟩ := at_byte (hS.out.below HI.out.bl) (p + k) h1
            have hxr : Hid ((l.drop p)[k]? = some x) := Lib.hid (by rw [List.getElem?_drop]; exact hxk)
            have hx256 := hX.out x (List.mem_of_getElem? hxk)
            clear hxk
            by_cases h3 : 127 < x
            · have d3 : decide (127 < (x : Int)) = true := by simp; omega
              go_wp2_with fail
              go_roundw
              case rel => exact ⟨k + 1, by go_num, by omega, by omega, Lib.hid (hQ.out.more hxr.out h3), trivial⟩
              case measure => simp [intOf]; omega
            · have d3 : decide (127 < (x : Int)) = false := by simp; omega
              have g1 : decide ((l.length : Int) ≤ (p : Int) + (k : Int)) = false := by simp; omega
              have g2 : decide ((10 : Int) ≤ (k : Int)) = false := by simp; omega
              go_wp2_with fail
              go_loopw [7, 8] (fun u i w2 => ∃ q : Nat, q ≤ k + 1 ∧ i = .int .i64 ((q : Int) - 1) ∧ u = .int .u64 (tailN (l.drop p) k (k + 1 - q)) ∧ wr = w2) (fun _ i _ => (intOf i + 1).toNat)
              case atStart => exact ⟨k + 1, by omega, by go_num, by rw [show k + 1 - (k + 1) = 0 by omega, tailN_zero _ _ (by simp; omega)]; rfl, rfl⟩
              case round =>
                clear hcell d3 g1 g2 d1 d2
                obtain ⟨q, hq, rfl, rfl, rfl⟩ := hrel
                cases q with
                | zero =>
                  have d3 : decide ((0 : Int) ≤ ((0 : Nat) : Int) - 1) = false := by decide
                  have hU := tailN_lt (l.drop p) k (k + 1 - 0)
                  have hs := Lib.hid (tailN_all (l.drop p) k)
                  rw [show k + 1 - 0 = k + 1 by omega] at hU ⊢
                  generalize tailN (l.drop p) k (k + 1) = U at hU hs ⊢
                  have hm : Hid (says (l.drop p) k = _) := hs
                  by_cases hodd : U % 2 = 1
                  · have o1 : (((U : Int) % 2) == 1) = true := by simp; omega
                    go_wp2_with fail
                    have hv : (-((U : Int) / 2) - 1) = says (l.drop p) k := by rw [hs.out]; unfold unzig; rw [if_pos hodd]; omega
                    rw [hv]
                    obtain ⟨v, hV⟩ : ∃ v, v = says (l.drop p) k := ⟨_, rfl⟩
                    rw [← hV]
                    have hvw : (Lit.int .i64 v).wf = true := by rw [hV]; exact says_wf _ _
                    have HV := Lib.hid hV
                    have HW := Lib.hid hvw
                    clear hv hs hm hV hvw o1 hodd hU d3
                    have hcp : ¬ c = p := by omega
                    have hw1 : IntKind.i64.wrap (IntKind.i64.wrap ((p : Int) + (k : Int)) + 1) = (p : Int) + (k : Int) + 1 := by
                      rw [show IntKind.i64.wrap ((p : Int) + (k : Int)) = (p : Int) + (k : Int) by rw [IntKind.wrap_i64]; omega, IntKind.wrap_i64]
                      omega
                    have hw2 : ((p : Int) + (k : Int) + 1).toNat - p = k + 1 := by omega
                    have hw3 : ((l.drop p).take (k + 1)).length = k + 1 := by simp; omega
                    refine Mix.region [0, 3, 4, 5, 6, 7, 8, 9, 10] [1, 2, 11] 2 (fun w' => Below wr.heap.size wr w') (by kernel_rfl) (by kernel_rfl) (by (repeat (with_reducible first | exact Below.refl _ _ | assumption | apply below_alloc | apply below_drewN | apply below_drew1 | (refine below_set ?_ (by simp only [alloc_size]; omega)) | (refine below_step ?_ (by assumption))))) ?_
                    iterate 7 (apply Mix.step; (· rfl); (· intro w' hR V hV; go_simp; exact hV); intro K hK; go_simp; refine hK _ ?_; clear hK K)
                    (apply Mix.step; (· rfl); (· intro w' hR V hV; go_simp; rw [if_pos ⟨by omega, by omega⟩, if_pos (by omega)]; exact ⟨rfl, hV⟩); intro K hK; go_simp; refine hK _ ?_; clear hK K)
                    (apply Mix.step; (· rfl); (· intro w' hR V hV; have qr := conv_bytes (c := c - p) _ (byte_sub (hS.out.below (below_step HI.out.bl hR)) p (k + 1)); rw [hw3] at qr; go_simp; exact hV); intro K hK; go_simp; refine hK _ ?_; clear hK K)
                    refine Mix.nil ?_
                    simp only [Mix.Tail, Mix.pick, List.getElem?_cons_succ, List.getElem?_cons_zero]
                    go_wp2_with fail
                    refine (number_calls v HW.out _).mono ?_
                    rintro e w2 ⟨v2, rfl, o2, b2⟩
                    obtain ⟨A2, c2, rfl, hl2, hC2⟩ := own_bytes o2
                    have qc := conv_bytes (c := c2) _ hC2
                    have B2 := Lib.hid (show Below wr.heap.size wr w2 from below_step (by (repeat (with_reducible first | exact Below.refl _ _ | assumption | apply below_alloc | apply below_drewN | apply below_drew1 | (refine below_set ?_ (by simp only [alloc_size]; omega)) | (refine below_step ?_ (by assumption))))) b2)
                    clear o2 b2 hC2
                    go_wp2_with fail
                    refine ⟨B2.out, ?_⟩
                    go_wp2_with fail
                    refine ⟨B2.out, ?_⟩
                    go_wp2_with fail
                    refine Mix.calm_end ?_
                    by_cases he : numB v = (l.drop p).take (k + 1)
                    · have HE := Lib.hid he
                      have hF' := HF.out.more hxr.out (by rw [← HV.out]; exact he)
                      rw [← HV.out] at hF'
                      have HF' := Lib.hid hF'
                      have hfl : ((strB (numB v)).toList == (strB ((l.drop p).take (k + 1))).toList) = true := by rw [he]; simp
                      have O2 := Lib.hid (own_below HI.out.own B2.out)
                      have BB := Lib.hid (below_step HI.out.bl B2.out)
                      have z2 := B2.out.size
                      clear he hF' qc
                      rw [hfl, Bool.not_true]
                      go_wp2_with (first | (at_builtin; go_loud (refine wpList_append_uni rfl _ _ 60 rfl w.heap.size 2 i0 _ 1 8 hu hi0 hz0 hs0 hbb0 rfl (by decide) _ _ _ rfl (O2.out.alloc _) _ 1 ([v].map i64V) rfl rfl (nums_src [v] (alloc_heap_at _ _)) (by unfold maxLen; omega) (by omega) (by rw [alloc_size]; omega) ?_)) | fail)
                      intro A3 c3 w3 o3 g3 h3
                      have hI3 : Hid (RdsInv w (.slice A3 (ns.length + 1) c3) (ns ++ [v]) w3) := Lib.hid ⟨by simpa using o3, below_grown (below_alloc BB.out _) g3 (by rw [alloc_size]; omega) (fun j hj => own_base HI.out.own j hj)⟩
                      clear o3 g3 h3
                      go_wp2_with fail
                      go_roundw
                      case rel => exact ⟨p + k + 1, _, by go_num, HF'.out, hI3.out⟩
                      case measure => simp [intOf]; omega
                    · have hfl : ((strB (numB v)).toList == (strB ((l.drop p).take (k + 1))).toList) = false := by
                        rw [same_bytes' (fun x hx => by have := numsB_byte [v] x (by simpa [numsB] using hx); exact this) (fun x hx => hX.out x (List.mem_of_mem_drop (List.mem_of_mem_take hx)))]
                        simpa using he
                      have hno := Lib.hid (HF.out.no (hQ.out.unlike hxr.out (by omega) (by rw [← HV.out]; exact he)))
                      have BB := Lib.hid (below_step HI.out.bl B2.out)
                      clear he qc
                      rw [hfl, Bool.not_false]
                      go_wp2_with fail
                      go_ret2
                      exact ⟨BB.out, .inl ⟨_, rfl, hno.out⟩⟩
                  · have o1 : (((U : Int) % 2) == 1) = false := by simp; omega
                    go_wp2_with fail
                    have hv : ((U : Int) / 2) = says (l.drop p) k := by rw [hs.out]; unfold unzig; rw [if_neg hodd]; omega
                    rw [hv]
                    obtain ⟨v, hV⟩ : ∃ v, v = says (l.drop p) k := ⟨_, rfl⟩
                    rw [← hV]
                    have hvw : (Lit.int .i64 v).wf = true := by rw [hV]; exact says_wf _ _
                    have HV := Lib.hid hV
                    have HW := Lib.hid hvw
                    clear hv hs hm hV hvw o1 hodd hU d3
                    have hcp : ¬ c = p := by omega
                    have hw1 : IntKind.i64.wrap (IntKind.i64.wrap ((p : Int) + (k : Int)) + 1) = (p : Int) + (k : Int) + 1 := by
                      rw [show IntKind.i64.wrap ((p : Int) + (k : Int)) = (p : Int) + (k : Int) by rw [IntKind.wrap_i64]; omega, IntKind.wrap_i64]
                      omega
                    have hw2 : ((p : Int) + (k : Int) + 1).toNat - p = k + 1 := by omega
                    have hw3 : ((l.drop p).take (k + 1)).length = k + 1 := by simp; omega
                    refine Mix.region [0, 3, 4, 5, 6, 7, 8, 9, 10] [1, 2, 11] 2 (fun w' => Below wr.heap.size wr w') (by kernel_rfl) (by kernel_rfl) (by (repeat (with_reducible first | exact Below.refl _ _ | assumption | apply below_alloc | apply below_drewN | apply below_drew1 | (refine below_set ?_ (by simp only [alloc_size]; omega)) | (refine below_step ?_ (by assumption))))) ?_
                    iterate 7 (apply Mix.step; (· rfl); (· intro w' hR V hV; go_simp; exact hV); intro K hK; go_simp; refine hK _ ?_; clear hK K)
                    (apply Mix.step; (· rfl); (· intro w' hR V hV; go_simp; rw [if_pos ⟨by omega, by omega⟩, if_pos (by omega)]; exact ⟨rfl, hV⟩); intro K hK; go_simp; refine hK _ ?_; clear hK K)
                    (apply Mix.step; (· rfl); (· intro w' hR V hV; have qr := conv_bytes (c := c - p) _ (byte_sub (hS.out.below (below_step HI.out.bl hR)) p (k + 1)); rw [hw3] at qr; go_simp; exact hV); intro K hK; go_simp; refine hK _ ?_; clear hK K)
                    refine Mix.nil ?_
                    simp only [Mix.Tail, Mix.pick, List.getElem?_cons_succ, List.getElem?_cons_zero]
                    go_wp2_with fail
                    refine (number_calls v HW.out _).mono ?_
                    rintro e w2 ⟨v2, rfl, o2, b2⟩
                    obtain ⟨A2, c2, rfl, hl2, hC2⟩ := own_bytes o2
                    have qc := conv_bytes (c := c2) _ hC2
                    have B2 := Lib.hid (show Below wr.heap.size wr w2 from below_step (by (repeat (with_reducible first | exact Below.refl _ _ | assumption | apply below_alloc | apply below_drewN | apply below_drew1 | (refine below_set ?_ (by simp only [alloc_size]; omega)) | (refine below_step ?_ (by assumption))))) b2)
                    clear o2 b2 hC2
                    go_wp2_with fail
                    refine ⟨B2.out, ?_⟩
                    go_wp2_with fail
                    refine ⟨B2.out, ?_⟩
                    go_wp2_with fail
                    refine Mix.calm_end ?_
                    by_cases he : numB v = (l.drop p).take (k + 1)
                    · have HE := Lib.hid he
                      have hF' := HF.out.more hxr.out (by rw [← HV.out]; exact he)
                      rw [← HV.out] at hF'
                      have HF' := Lib.hid hF'
                      have hfl : ((strB (numB v)).toList == (strB ((l.drop p).take (k + 1))).toList) = true := by rw [he]; simp
                      have O2 := Lib.hid (own_below HI.out.own B2.out)
                      have BB := Lib.hid (below_step HI.out.bl B2.out)
                      have z2 := B2.out.size
                      clear he hF' qc
                      rw [hfl, Bool.not_true]
                      go_wp2_with (first | (at_builtin; go_loud (refine wpList_append_uni rfl _ _ 60 rfl w.heap.size 2 i0 _ 1 8 hu hi0 hz0 hs0 hbb0 rfl (by decide) _ _ _ rfl (O2.out.alloc _) _ 1 ([v].map i64V) rfl rfl (nums_src [v] (alloc_heap_at _ _)) (by unfold maxLen; omega) (by omega) (by rw [alloc_size]; omega) ?_)) | fail)
                      intro A3 c3 w3 o3 g3 h3
                      have hI3 : Hid (RdsInv w (.slice A3 (ns.length + 1) c3) (ns ++ [v]) w3) := Lib.hid ⟨by simpa using o3, below_grown (below_alloc BB.out _) g3 (by rw [alloc_size]; omega) (fun j hj => own_base HI.out.own j hj)⟩
                      clear o3 g3 h3
                      go_wp2_with fail
                      go_roundw
                      case rel => exact ⟨p + k + 1, _, by go_num, HF'.out, hI3.out⟩
                      case measure => simp [intOf]; omega
                    · have hfl : ((strB (numB v)).toList == (strB ((l.drop p).take (k + 1))).toList) = false := by
                        rw [same_bytes' (fun x hx => by have := numsB_byte [v] x (by simpa [numsB] using hx); exact this) (fun x hx => hX.out x (List.mem_of_mem_drop (List.mem_of_mem_take hx)))]
                        simpa using he
                      have hno := Lib.hid (HF.out.no (hQ.out.unlike hxr.out (by omega) (by rw [← HV.out]; exact he)))
                      have BB := Lib.hid (below_step HI.out.bl B2.out)
                      clear he qc
                      rw [hfl, Bool.not_false]
                      go_wp2_with fail
                      go_ret2
                      exact ⟨BB.out, .inl ⟨_, rfl, hno.out⟩⟩
                | succ j =>
                  rw [show ((j + 1 : Nat) : Int) - 1 = (j : Int) by omega]
                  have d3 : decide ((0 : Int) ≤ (j : Int)) = true := by simp
                  obtain ⟨ad', y, e, hyk, hcell, _⟩ := at_byte (hS.out.below HI.out.bl) (p + j) (by omega)
                  obtain rfl := Option.some.inj e
                  have hyr : (l.drop p)[k - (k + 1 - (j + 1))]? = some y := by rw [List.getElem?_drop, show p + (k - (k + 1 - (j + 1))) = p + j by omega]; exact hyk
                  have hN := Lib.hid (tailN_more (t := k + 1 - (j + 1)) (by omega) hyr)
                  have hT := tailN_lt (l.drop p) k (k + 1 - (j + 1))
                  have hy256 := hX.out y (List.mem_of_getElem? hyk)
                  clear hyk hyr e
                  rw [show k + 1 - (j + 1) + 1 = k + 1 - j by omega] at hN
                  generalize tailN (l.drop p) k (k + 1 - (j + 1)) = U at hN hT
                  go_wp2_with fail
                  go_roundw
                  case rel => exact ⟨j, by omega, by go_num, by rw [hN.out]; go_num, trivial⟩
                  case measure => simp [intOf]
          · have d2 : decide ((k : Int) < 10) = false := by simp; omega
            have g1 : decide ((l.length : Int) ≤ (p : Int) + (k : Int)) = false := by simp; omega
            have g2 : decide ((10 : Int) ≤ (k : Int)) = true := by simp; omega
            have hno := Lib.hid (HF.out.no (hQ.out.no hne.out (.inr (by omega))))
            go_wp2_with fail
            go_ret2
            exact ⟨HI.out.bl, .inl ⟨_, rfl, hno.out⟩⟩
        · have d1 : decide ((p : Int) + (k : Int) < (l.length : Int)) = false := by simp; omega
          have g1 : decide ((l.length : Int) ≤ (p : Int) + (k : Int)) = true := by simp; omega
          have hno := Lib.hid (HF.out.no (hQ.out.no hne.out (.inl (by simp; omega))))
          go_wp2_with fail
          go_ret2
          exact ⟨HI.out.bl, .inl ⟨_, rfl, hno.out⟩⟩
    · obtain rfl : p = l.length := by omega
      have hend := Lib.hid HF.out.end
      go_wp2_with fail
      go_ret2
      exact ⟨HI.out.bl, .inr ⟨_, ns, rfl, hend.out, HF.out.wf, by omega, HI.out.own⟩⟩
end Go.Proofs.Ytikfkkinhipfjaa
