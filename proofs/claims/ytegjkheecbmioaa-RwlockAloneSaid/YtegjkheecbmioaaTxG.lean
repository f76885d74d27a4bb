/- The walk of the reference's Parse. -/
import Derived.Test.YtegjkheecbmioaaTxF
import Derived.Outline
namespace Go.Proofs.Ytegjkheecbmioaa
open Go.RowKit
set_option linter.unusedVariables false
set_option linter.unusedSimpArgs false

theorem ext1_nb (s : ByteArray) : nb (s.extract 1 s.size) = (nb s).drop 1 := by rw [nb_ext, List.take_of_length_le (by rw [nb_len]; exact Nat.le_refl _)]
theorem isEmpty_of (s : ByteArray) (b : Bool) (h : b = decide (s.size = 0)) : s.toList.isEmpty = b := by
  rw [h, ByteArray.toList_eq, Bool.eq_iff_iff, List.isEmpty_iff, decide_eq_true_iff, ← nb_len, List.length_eq_zero_iff]
  simp [nb]
theorem line_of {l m : List Nat} {x : Nat} (h : l = x :: m) : lineB l = if x = 59 then some Ln.nil
    else if l.getLastD 0 = 58 then (if nameB l.dropLast then some { Ln.nil with label := l.dropLast } else none)
    else insB (spl 32 l) := by subst h; rfl
theorem extL_nb (s : ByteArray) : nb (s.extract 0 (s.size - 1)) = (nb s).take ((nb s).length - 1) := by rw [nb_ext, nb_len, List.drop_zero]
set_option maxRecDepth 100000 in
set_option maxHeartbeats 6400000 in
theorem Parse_calls (s : ByteArray) (w : World) (hs : s.size ≤ 1000000) (L : Ln) (hL : parseB (nb s) = some L) : Calls Try.prog 49 #[.string s] w fun e w' => e = .returned (.tuple #[L.val, .bool true]) ∧ Below w.heap.size w w' := by
  have HL := Lib.hid hL
  clear hL
  go_enter Try.func49, Try.ntmps49
  go_wp2_with fail
  go_loop [0] (fun v => ∃ s1 : ByteArray, v = .string s1 ∧ s1.size ≤ 1000000 ∧ Hid (trimL (nb s1) = trimL (nb s))) (fun v => match v with | .string s1 => s1.size | _ => 0)
  case atStart => exact ⟨s, rfl, hs, Lib.hid rfl⟩
  case round =>
    clear hs
    obtain ⟨s1, rfl, hs, H1⟩ := hrel
    by_cases h0 : 0 < s1.size ∧ ∃ h : 0 < s1.size, wsB (s1[0].toNat) = true
    · obtain ⟨h0, _, hw⟩ := h0
      have d1 : decide ((0 : Int) < (s1.size : Int)) = true := decide_eq_true (by omega)
      have hst := Lib.hid (trimL_step (nb_get s1 0 h0) hw)
      simp only [wsB, Bool.or_eq_true, beq_iff_eq] at hw
      by_cases h2 : s1[0].toNat = 32
      · have d2 : ((s1[0].toNat : Int) == 32) = true := by simp; omega
        clear hw
        go_wp2_with fail
        go_round
        case rel => exact ⟨_, rfl, by simp [ByteArray.size_extract]; omega, Lib.hid (by rw [ext1_nb, hst.out, H1.out])⟩
        case measure => simp [ByteArray.size_extract]; omega
      · have d2 : ((s1[0].toNat : Int) == 32) = false := by simp; omega
        have d3 : ((s1[0].toNat : Int) == 9) = true := by simp; omega
        clear hw
        go_wp2_with fail
        go_round
        case rel => exact ⟨_, rfl, by simp [ByteArray.size_extract]; omega, Lib.hid (by rw [ext1_nb, hst.out, H1.out])⟩
        case measure => simp [ByteArray.size_extract]; omega
    · have hE : Hid (trimL (nb s) = nb s1) := Lib.hid (by
        rw [← H1.out]
        refine trimL_stop fun x hx => ?_
        have h3 : 0 < s1.size := by rw [← nb_len]; exact (List.getElem?_eq_some_iff.1 hx).1
        rw [nb_get s1 0 h3] at hx
        obtain rfl := Option.some.inj hx
        cases hh : wsB s1[0].toNat with
        | false => rfl
        | true => exact absurd ⟨h3, h3, hh⟩ h0)
      have hcut : Hid (True) := Lib.hid trivial
      by_cases g0 : 0 < s1.size
      · have d1 : decide ((0 : Int) < (s1.size : Int)) = true := decide_eq_true (by omega)
        have hw : wsB s1[0].toNat = false := by
          cases hh : wsB s1[0].toNat with
          | false => rfl
          | true => exact absurd ⟨g0, g0, hh⟩ h0
        simp only [wsB, Bool.or_eq_false_iff, beq_eq_false_iff_ne, ne_eq] at hw
        have d2 : ((s1[0].toNat : Int) == 32) = false := by simp; omega
        have d3 : ((s1[0].toNat : Int) == 9) = false := by simp; omega
        clear hw h0 H1
        go_wp2_with fail
        go_loop [0] (fun v => ∃ s2 : ByteArray, v = .string s2 ∧ s2.size ≤ 1000000 ∧ Hid (trimR (nb s2) = trimR (nb s1))) (fun v => match v with | .string s2 => s2.size | _ => 0)
        case atStart => exact ⟨s1, rfl, hs, Lib.hid rfl⟩
        case round =>
          clear d1 d2 d3 hs
          obtain ⟨s2, rfl, hs, H2⟩ := hrel
          have hll := nb_len s2
          by_cases h0 : 0 < s2.size ∧ ∃ h : s2.size - 1 < s2.size, wsB (s2[s2.size - 1].toNat) = true
          · obtain ⟨h0, hlt, hw⟩ := h0
            have d1 : decide ((0 : Int) < (s2.size : Int)) = true := decide_eq_true (by omega)
            have hst := Lib.hid (trimR_step (by rw [hll]; exact nb_get s2 (s2.size - 1) hlt) hw)
            have e0 : (0 : Int) ≤ (s2.size : Int) - 1 := by omega
            have e1 : ((s2.size : Int) - 1).toNat = s2.size - 1 := by omega
            simp only [wsB, Bool.or_eq_true, beq_iff_eq] at hw
            by_cases h2 : s2[s2.size - 1].toNat = 32
            · have d2 : ((s2[s2.size - 1].toNat : Int) == 32) = true := by simp; omega
              clear hw hll
              go_wp2_with fail
              go_round
              case rel => exact ⟨_, rfl, by simp [ByteArray.size_extract]; omega, Lib.hid (by rw [extL_nb, hst.out, H2.out])⟩
              case measure => simp [ByteArray.size_extract]; omega
            · have d2 : ((s2[s2.size - 1].toNat : Int) == 32) = false := by simp; omega
              have d3 : ((s2[s2.size - 1].toNat : Int) == 9) = true := by simp; omega
              clear hw hll
              go_wp2_with fail
              go_round
              case rel => exact ⟨_, rfl, by simp [ByteArray.size_extract]; omega, Lib.hid (by rw [extL_nb, hst.out, H2.out])⟩
              case measure => simp [ByteArray.size_extract]; omega
          · have hM : Hid (lineB (nb s2) = some L) := Lib.hid (by
              have h4 : parseB (nb s) = lineB (trimR (nb s2)) := by rw [parseB, hE.out, H2.out]
              rw [HL.out] at h4
              rw [h4]
              congr 1
              refine (trimR_stop fun x hx => ?_).symm
              have h3 : 0 < s2.size := by have := (List.getElem?_eq_some_iff.1 hx).1; omega
              have h3' : s2.size - 1 < s2.size := by omega
              rw [hll, nb_get s2 _ h3'] at hx
              obtain rfl := Option.some.inj hx
              cases hh : wsB s2[s2.size - 1].toNat with
              | false => rfl
              | true => exact absurd ⟨h3, h3', hh⟩ h0)
            clear hE H2 HL
            by_cases g2 : 0 < s2.size
            · have hlt : s2.size - 1 < s2.size := by omega
              have d1 : decide ((0 : Int) < (s2.size : Int)) = true := decide_eq_true (by omega)
              have hw : wsB s2[s2.size - 1].toNat = false := by
                cases hh : wsB s2[s2.size - 1].toNat with
                | false => rfl
                | true => exact absurd ⟨g2, hlt, hh⟩ h0
              simp only [wsB, Bool.or_eq_false_iff, beq_eq_false_iff_ne, ne_eq] at hw
              have d2 : ((s2[s2.size - 1].toNat : Int) == 32) = false := by simp; omega
              have d3 : ((s2[s2.size - 1].toNat : Int) == 9) = false := by simp; omega
              have e0 : (0 : Int) ≤ (s2.size : Int) - 1 := by omega
              have e1 : ((s2.size : Int) - 1).toNat = s2.size - 1 := by omega
              have d4 : s2.toList.isEmpty = false := isEmpty_of _ _ (decide_eq_false (by omega)).symm
              obtain ⟨x, m, hxm⟩ : ∃ x m, nb s2 = x :: m := by
                cases h : nb s2 with
                | nil => rw [h] at hll; simp at hll; omega
                | cons x l => exact ⟨x, l, rfl⟩
              have hx : s2[0].toNat = x := by
                have := nb_get s2 0 g2
                rw [hxm] at this
                simpa using this.symm
              have hM2 := hM.out
              rw [line_of hxm, ← hx] at hM2
              clear hw h0 hll
              by_cases c1 : s2[0].toNat = 59
              · have d5 : ((s2[0].toNat : Int) == 59) = true := by simp; omega
                rw [if_pos c1] at hM2
                obtain rfl := Option.some.inj hM2
                clear hM2 hM hxm hx
                go_wp2_with fail
                refine bodyPost_ret (v := .tuple #[Ln.nil.val, .bool true]) ?_ rfl ?_
                · simp [results, Try.results49, go_sem, Ln.val, Ln.nil, bs]
                · exact ⟨rfl, by (repeat (with_reducible first | exact Below.refl _ _ | assumption | apply below_alloc | apply below_drewN | apply below_drew1 | (refine below_set ?_ (by simp only [alloc_size]; omega)) | (refine below_step ?_ (by assumption))))⟩
              · have d5 : ((s2[0].toNat : Int) == 59) = false := by simp; omega
                rw [if_neg c1] at hM2
                have HM := Lib.hid hM2
                clear hM2 hM hxm hx
                have hM2 := HM.out
                clear HM
                have hlast : (nb s2).getLastD 0 = s2[s2.size - 1].toNat := by
                  have := nb_get s2 (s2.size - 1) hlt
                  rw [List.getLastD_eq_getLast?, List.getLast?_eq_getElem?, nb_len, this]; rfl
                rw [hlast] at hM2
                clear hlast
                by_cases c2 : s2[s2.size - 1].toNat = 58
                · have d6 : ((s2[s2.size - 1].toNat : Int) == 58) = true := by simp; omega
                  rw [if_pos c2] at hM2
                  have hdl : nb (s2.extract 0 (s2.size - 1)) = (nb s2).dropLast := by rw [extL_nb, List.dropLast_eq_take]
                  have hnm : nameB (nb (s2.extract 0 (s2.size - 1))) = true := by
                    rw [hdl]
                    cases h : nameB (nb s2).dropLast with
                    | true => rfl
                    | false => rw [h] at hM2; cases hM2
                  rw [← hdl, if_pos hnm] at hM2
                  obtain rfl := Option.some.inj hM2
                  have hbs := Lib.hid (bs_nb (s2.extract 0 (s2.size - 1)))
                  have hsz : (s2.extract 0 (s2.size - 1)).size ≤ maxLen := by unfold maxLen; simp [ByteArray.size_extract]; omega
                  clear hM2 hdl
                  go_wp2_with (go_at_call 59; refine (name_calls _ _ hsz).mono ?_; rintro e w' ⟨rfl, rfl⟩)
                  refine bodyPost_ret (v := .tuple #[Ln.val { Ln.nil with label := nb (s2.extract 0 (s2.size - 1)) }, .bool true]) ?_ rfl ?_
                  · simp [results, Try.results49, go_sem, Ln.val, Ln.nil, bs_nb]
                    rfl
                  · exact ⟨rfl, by (repeat (with_reducible first | exact Below.refl _ _ | assumption | apply below_alloc | apply below_drewN | apply below_drew1 | (refine below_set ?_ (by simp only [alloc_size]; omega)) | (refine below_step ?_ (by assumption))))⟩
                · have d6 : ((s2[s2.size - 1].toNat : Int) == 58) = false := by simp; omega
                  rw [if_neg c2] at hM2
                  have HI := Lib.hid hM2
                  clear hM2
                  have hnil : Hid (bs [] = ⟨#[]⟩) := Lib.hid rfl
                  have B1 := Lib.hid (Bx.new (w.alloc (.cells Ln.nil.cells.toArray 102)) Ln.nil.cells 102)
                  have B0 := Lib.hid ((Bx.new w Ln.nil.cells 102).below ((Below.refl _ _).alloc (Nat.le_refl _) (.cells Ln.nil.cells.toArray 102)))
                  have hwz := alloc_size w (.cells Ln.nil.cells.toArray 102)
                  simp only [Ln.cells, Ln.nil, hnil.out] at B0 B1 hwz
                  rw [hwz] at B1
                  have hBB := Lib.hid (show Below w.heap.size w ((w.alloc (.cells #[.string ⟨#[]⟩, .int .i64 0, .int .i64 0, .int .i64 0, .int .i64 0, .int .i64 0, .string ⟨#[]⟩] 102)).alloc (.cells #[.string ⟨#[]⟩, .int .i64 0, .int .i64 0, .int .i64 0, .int .i64 0, .int .i64 0, .string ⟨#[]⟩] 102)) by (repeat (with_reducible first | exact Below.refl _ _ | assumption | apply below_alloc | apply below_drewN | apply below_drew1 | (refine below_set ?_ (by simp only [alloc_size]; omega)) | (refine below_step ?_ (by assumption)))))
                  clear hwz
                  go_wp2_with fail
                  refine (words_calls s2 _ hs).mono ?_
                  rintro e w1 ⟨A, c, rfl, hc, hC, hb1⟩
                  have HC := Lib.hid (hC.mono (ok' := (w.heap.size + 2 ≤ ·)) (fun k hk => by simpa using hk))
                  have B01 := Lib.hid (B0.out.below hb1)
                  have B11 := Lib.hid (B1.out.below hb1)
                  have BB1 := Lib.hid (below_step hBB.out hb1)
                  obtain ⟨T, hT⟩ : ∃ T, T = (spl 32 (nb s2)).map bs := ⟨_, rfl⟩
                  rw [← hT] at HC hc ⊢
                  have HT := Lib.hid hT
                  clear hC hT hb1 B0 B1 hBB
                  go_wp2_with fail
                  refine (Words_calls _).mono ?_
                  rintro e w2 ⟨A2, rfl, hC2, hb2⟩
                  have HC2 := Lib.hid hC2
                  have HC1 := Lib.hid (HC.out.below hb2)
                  have B02 := Lib.hid (B01.out.below hb2)
                  have B12 := Lib.hid (B11.out.below hb2)
                  have BB2 := Lib.hid (below_step BB1.out hb2)
                  have hz2 : w.heap.size + 2 ≤ w1.heap.size := by have := B11.out.ty.lt; omega
                  have hz3 := hb2.size
                  clear hC2 hb2 HC B01 B11 BB1
                  obtain ⟨K, hK1, hK2, hK3, hfl⟩ : ∃ K, K < 22 ∧ matchB (spl 32 (nb s2)) K = true ∧ (∀ j, j < K → matchB (spl 32 (nb s2)) j = false) ∧ (fldsB (splitB (wordsT.getD K [])).2 (spl 32 (nb s2)).tail { Ln.nil with op := (K : Int) + 1 } = some L ∧ ¬ (L.op = 7 ∧ 13 < L.a)) := by
                    have h := HI.out
                    unfold insB at h
                    split at h
                    · cases h
                    · rename_i K hf
                      obtain ⟨a1, a2, a3⟩ := find_range hf
                      split at h
                      · cases h
                      · rename_i L' hL'
                        split at h
                        · cases h
                        · rename_i hn
                          obtain rfl := Option.some.inj h
                          exact ⟨K, a1, a2, a3, hL', hn⟩
                  have HK2 := Lib.hid hK2
                  have HK3 := Lib.hid hK3
                  have HFL := Lib.hid hfl
                  clear hK2 hK3 hfl HI
                  go_wp2_with fail
                  go_loopw [8] (fun i wr => ∃ k : Nat, k ≤ K ∧ i = .int .i64 k ∧ Below w2.heap.size w2 wr) (fun i _ => 22 - (intOf i).toNat)
                  case atStart => exact ⟨0, Nat.zero_le _, rfl, Below.refl _ _⟩
                  case round =>
                    obtain ⟨k, hk, rfl, hbl⟩ := hrel
                    have HBL := Lib.hid hbl
                    have hzr := hbl.size
                    have d7 : decide ((k : Int) < 22) = true := decide_eq_true (by omega)
                    obtain ⟨ad, t0, rfl, ht0, hcell0⟩ := at_str' (HC2.out.below hbl) k (by show k < 22; omega)
                    obtain ⟨ad1, t1, rfl, ht1, hcell1⟩ := at_str' (HC1.out.below hbl) 0 (by
                      have := HT.out
                      rw [this, List.length_map]
                      exact List.length_pos_iff.2 (spl_ne _ _))
                    rw [show ad1.add 0 = ad1 from by simp [Addr.add]] at hcell1
                    have hmem := (words_get ht0).2
                    have hP := wordsP_ok _ hmem
                    have hsp0 := words_split ht0
                    have htk : t1 = bs ((spl 32 (nb s2)).headD []) ∧ (∀ x ∈ (spl 32 (nb s2)).headD [], x < 256) ∧ T.length = (spl 32 (nb s2)).length := by
                      have h2 := HT.out
                      rw [h2, List.getElem?_map] at ht1
                      obtain ⟨y, hy, rfl⟩ := Option.map_eq_some_iff.1 ht1
                      have e : (spl 32 (nb s2)).headD [] = y := by cases hq : spl 32 (nb s2) with
                        | nil => rw [hq] at hy; cases hy
                        | cons a b => rw [hq] at hy; simpa using hy
                      rw [e]
                      exact ⟨rfl, fun x hx => nb_lt s2 x (spl_sub 32 _ y (List.mem_of_getElem? hy) x hx), by rw [h2, List.length_map]⟩
                    have hmt : matchB (spl 32 (nb s2)) k = (((bs (splitB (wordsT.getD k [])).1).toList == t1.toList) && ((bs (splitB (wordsT.getD k [])).2).size == T.length - 1)) := by
                      rw [htk.1, htk.2.2, bs_size, matchB]
                      congr 1
                      rw [Bool.eq_iff_iff, decide_eq_true_iff, beq_iff_eq]
                      exact (bs_inj hP.2.1 htk.2.1).symm
                    have hTl : 1 ≤ T.length := by rw [htk.2.2]; exact List.length_pos_iff.2 (spl_ne _ _)
                    obtain ⟨x1, hx1⟩ : ∃ x, x = bs (splitB (wordsT.getD k [])).1 := ⟨_, rfl⟩
                    obtain ⟨x2, hx2⟩ : ∃ x, x = bs (splitB (wordsT.getD k [])).2 := ⟨_, rfl⟩
                    rw [← hx1, ← hx2] at hmt
                    rw [← hx1, ← hx2] at hsp0
                    have HX2 := Lib.hid hx2
                    have hx2l : x2.size ≤ 16 := by
                      rw [hx2, bs_size]
                      have h3 := hP.1
                      simp only [splitB]
                      have := (List.dropWhile_sublist (l := wordsT.getD k []) (p := (· != 32))).length_le
                      rw [List.length_drop]; omega
                    have hTb : T.length ≤ 9223372036854775807 := HC1.out.len
                    clear htk hP hmem hx1 hx2 ht0 ht1
                    by_cases hkK : k = K
                    · subst hkK
                      have h5 := HK2.out
                      rw [hmt, Bool.and_eq_true, beq_iff_eq] at h5
                      have f1 : (x1.toList == t1.toList) = true := by rw [beq_iff_eq]; exact h5.1
                      have h6 : x2.size = T.length - 1 := by simpa using h5.2
                      have f2 : ((x2.size : Int) != (T.length : Int) - 1) = false := by simp; omega
                      have f3 : (!(x1.toList == t1.toList)) = false := by rw [f1]; rfl
                      have H6 := Lib.hid h6
                      clear h6
                      have f3 : (!(x1.toList == t1.toList)) = false := by rw [f1]; rfl
                      clear hmt h5
                      go_wp2_with fail
                      refine (hsp0 _).mono ?_
                      rintro e w3 ⟨rfl, hb3⟩
                      have BB3 := Lib.hid (below_step HBL.out hb3)
                      have hxx := B12.out.below BB3.out
                      have hfz := hxx.ty.frozen 1
                      have y1 := hxx.cell 1 _ rfl
                      have hq1 := cell_below_of hcell1 hb3
                      have HXX := Lib.hid hxx
                      have HZZ := Lib.hid (B02.out.below BB3.out)
                      have HCC := Lib.hid (HC1.out.below BB3.out)
                      have hz4 := hb3.size
                      clear hb3 hcell1 hcell0 hsp0 HBL hxx HC1 HC2 B02 B12
                      go_wp2_with fail
                      have hO0 : Only (· = w.heap.size + 1) w3 (w3.setCell ⟨w.heap.size + 1, 1, none⟩ (.int .i64 ((k : Int) + 1))) := Only.set (S := (· = w.heap.size + 1)) (Only.refl _ _) (p := ⟨w.heap.size + 1, 1, none⟩) (.inl rfl) _
                      have HO0 := Lib.hid hO0
                      have HX0 := Lib.hid (HXX.out.set 1 (.int .i64 ((k : Int) + 1)))
                      simp only [List.set_cons_zero, List.set_cons_succ] at HX0
                      clear hO0 y1 hfz HXX
                      go_loopw [11] (fun i wr => ∃ (q : Nat) (Lq : Ln), i = .int .i64 q ∧ q ≤ x2.size ∧ Bx (w.heap.size + 1) 102 Lq.cells wr ∧ Only (· = w.heap.size + 1) w3 wr ∧ Hid (fldsB ((splitB (wordsT.getD k [])).2.drop q) ((spl 32 (nb s2)).drop (q + 1)) Lq = some L)) (fun i _ => x2.size - (intOf i).toNat)
                      case atStart => exact ⟨0, { Ln.nil with op := (k : Int) + 1 }, rfl, Nat.zero_le _, by simpa only [Ln.cells, Ln.nil, hnil.out] using HX0.out, HO0.out, Lib.hid (by rw [List.drop_zero, List.drop_one]; exact HFL.out.1)⟩
                      case round =>
                        clear HX0 HO0 hq1
                        obtain ⟨q, Lq, rfl, hq, hX, hO, HF⟩ := hrel
                        have HX := Lib.hid hX
                        have HO := Lib.hid hO
                        have hzq := hO.size
                        clear hX hO
                        by_cases hqx : q < x2.size
                        · have d8 : decide ((q : Int) < (x2.size : Int)) = true := decide_eq_true (by omega)
                          obtain ⟨hh, tk, L', hg0, htq, hfb, hF3⟩ := flds_at (by rw [← bs_size, ← HX2.out]; exact hqx) HF.out
                          have hgn : x2[q].toNat = hh := by
                            have hg : (nb x2)[q]? = some hh := by rw [HX2.out, nb_bs (wordsP_ok _ (wordsT_mem (by omega))).2.2]; exact hg0
                            rw [nb_get x2 q hqx] at hg
                            exact Option.some.inj hg
                          have htkb : ∀ x ∈ tk, x < 256 := fun x hx => nb_lt s2 x (spl_sub 32 _ tk (List.mem_of_getElem? htq) x hx)
                          have htkl : tk.length ≤ 1000000 := by have := spl_len 32 _ tk (List.mem_of_getElem? htq); rw [nb_len] at this; omega
                          have hCq := HCC.out.only HO.out (show ∀ kk, w.heap.size + 2 ≤ kk → ¬ kk = w.heap.size + 1 by intro kk h; omega)
                          obtain ⟨tb, htb⟩ : ∃ tb, tb = bs tk := ⟨_, rfl⟩
                          have hTq : T[q + 1]? = some tb := by rw [HT.out, List.getElem?_map, htq, htb]; rfl
                          have htl : q + 1 < T.length := (List.getElem?_eq_some_iff.1 hTq).1
                          obtain ⟨ad2, t2, e2, ht2, hq2⟩ := at_str' hCq (q + 1) htl
                          rw [hTq] at ht2
                          obtain rfl : tb = t2 := Option.some.inj ht2
                          obtain rfl : ad1 = ad2 := Option.some.inj e2
                          have htn : nb tb = tk := by rw [htb]; exact nb_bs htkb
                          have hts : tb.size ≤ 1000000 := by rw [htb, bs_size]; exact htkl
                          have hsm : tb.size ≤ maxLen := by unfold maxLen; omega
                          have hreg := fun w => register_calls tb w hsm
                          have hnum := fun w => number_calls tb w hts
                          have hnam := fun w => name_calls tb w hsm
                          simp only [htn] at hreg hnum hnam
                          have HTB := Lib.hid htb
                          have HF3 := Lib.hid hF3
                          rw [show ad1.add (q + 1) = ⟨ad1.block, ad1.off + (q + 1), none⟩ from by simp [Addr.add]] at hq2
                          have HQ2 := Lib.hid hq2
                          clear htb hTq ht2 e2 hF3 hg0 htq hCq htkb htkl htn
                          have q0 : (0 : Int) ≤ (q : Int) + 1 := by omega
                          have q1 : ((q : Int) + 1).toNat = q + 1 := by omega
                          have q2 : (q : Int) + 1 < (T.length : Int) := by omega
                          rcases fld_cases hfb with ⟨rfl, hcond, hR⟩ | ⟨rfl, hcond, hR⟩ | ⟨rfl, hcond, hR⟩ | ⟨rfl, hcond, hR⟩ | ⟨rfl, hcond, hR⟩
                          · have hc : x2[q].toNat = 65 := hgn
                            have hr : decide (0 ≤ regB tk) = true := decide_eq_true hcond
                            subst hR
                            clear hfb hgn
                            go_wp2_with fail
                            refine (hreg _).mono ?_
                            rintro e w4 ⟨rfl, hb4⟩
                            have hq4 := cell_below_of HQ2.out hb4
                            have HX4 := Lib.hid (HX.out.below hb4)
                            have hfz := HX4.out.ty.frozen 2
                            have y0 := HX4.out.cell 2 _ rfl
                            have hO4 := Lib.hid (HO.out.trans (Only.of_below hb4))
                            clear hb4
                            go_wp2_with (first | (go_at_call 62; refine (hnum _).mono ?_; rintro e w5 ⟨rfl, rfl⟩) | (go_at_call 59; refine (hnam _).mono ?_; rintro e w5 ⟨rfl, rfl⟩))
                            go_roundw
                            case rel => exact ⟨q + 1, { Lq with a := regB tk }, by go_num, by omega, HX4.out.set 2 _, hO4.out.set (p := ⟨w.heap.size + 1, 2, none⟩) (.inl rfl) _, HF3⟩
                            case measure => simp [intOf]; omega
                          · have hc : x2[q].toNat = 66 := hgn
                            have hr : decide (0 ≤ regB tk) = true := decide_eq_true hcond
                            subst hR
                            clear hfb hgn
                            go_wp2_with fail
                            refine (hreg _).mono ?_
                            rintro e w4 ⟨rfl, hb4⟩
                            have hq4 := cell_below_of HQ2.out hb4
                            have HX4 := Lib.hid (HX.out.below hb4)
                            have hfz := HX4.out.ty.frozen 3
                            have y0 := HX4.out.cell 3 _ rfl
                            have hO4 := Lib.hid (HO.out.trans (Only.of_below hb4))
                            clear hb4
                            go_wp2_with (first | (go_at_call 62; refine (hnum _).mono ?_; rintro e w5 ⟨rfl, rfl⟩) | (go_at_call 59; refine (hnam _).mono ?_; rintro e w5 ⟨rfl, rfl⟩))
                            go_roundw
                            case rel => exact ⟨q + 1, { Lq with b := regB tk }, by go_num, by omega, HX4.out.set 3 _, hO4.out.set (p := ⟨w.heap.size + 1, 3, none⟩) (.inl rfl) _, HF3⟩
                            case measure => simp [intOf]; omega
                          · have hc : x2[q].toNat = 67 := hgn
                            have hr : decide (0 ≤ regB tk) = true := decide_eq_true hcond
                            subst hR
                            clear hfb hgn
                            go_wp2_with fail
                            refine (hreg _).mono ?_
                            rintro e w4 ⟨rfl, hb4⟩
                            have hq4 := cell_below_of HQ2.out hb4
                            have HX4 := Lib.hid (HX.out.below hb4)
                            have hfz := HX4.out.ty.frozen 4
                            have y0 := HX4.out.cell 4 _ rfl
                            have hO4 := Lib.hid (HO.out.trans (Only.of_below hb4))
                            clear hb4
                            go_wp2_with (first | (go_at_call 62; refine (hnum _).mono ?_; rintro e w5 ⟨rfl, rfl⟩) | (go_at_call 59; refine (hnam _).mono ?_; rintro e w5 ⟨rfl, rfl⟩))
                            go_roundw
                            case rel => exact ⟨q + 1, { Lq with c := regB tk }, by go_num, by omega, HX4.out.set 4 _, hO4.out.set (p := ⟨w.heap.size + 1, 4, none⟩) (.inl rfl) _, HF3⟩
                            case measure => simp [intOf]; omega
                          · have hc : x2[q].toNat = 78 := hgn
                            subst hR
                            clear hfb hgn
                            go_wp2_with fail
                            refine (hreg _).mono ?_
                            rintro e w4 ⟨rfl, hb4⟩
                            have hq4 := cell_below_of HQ2.out hb4
                            have HX4 := Lib.hid (HX.out.below hb4)
                            have hfz := HX4.out.ty.frozen 5
                            have y0 := HX4.out.cell 5 _ rfl
                            have hO4 := Lib.hid (HO.out.trans (Only.of_below hb4))
                            clear hb4
                            go_wp2_with (first | (go_at_call 62; refine (hnum _).mono ?_; rintro e w5 ⟨rfl, rfl⟩) | (go_at_call 59; refine (hnam _).mono ?_; rintro e w5 ⟨rfl, rfl⟩))
                            go_roundw
                            case rel => exact ⟨q + 1, { Lq with n := (numB tk).1 }, by go_num, by omega, HX4.out.set 5 _, hO4.out.set (p := ⟨w.heap.size + 1, 5, none⟩) (.inl rfl) _, HF3⟩
                            case measure => simp [intOf]; omega
                          · have hc : x2[q].toNat = 84 := hgn
                            subst hR
                            clear hfb hgn
                            go_wp2_with fail
                            refine (hreg _).mono ?_
                            rintro e w4 ⟨rfl, hb4⟩
                            have hq4 := cell_below_of HQ2.out hb4
                            have HX4 := Lib.hid (HX.out.below hb4)
                            have hfz := HX4.out.ty.frozen 6
                            have y0 := HX4.out.cell 6 _ rfl
                            have hO4 := Lib.hid (HO.out.trans (Only.of_below hb4))
                            clear hb4
                            go_wp2_with (first | (go_at_call 62; refine (hnum _).mono ?_; rintro e w5 ⟨rfl, rfl⟩) | (go_at_call 59; refine (hnam _).mono ?_; rintro e w5 ⟨rfl, rfl⟩))
                            go_roundw
                            case rel => exact ⟨q + 1, { Lq with target := tk }, by go_num, by omega, by have := HX4.out.set 6 (.string tb); rw [HTB.out] at this; simpa only [Ln.cells, List.set_cons_zero, List.set_cons_succ, HTB.out] using this, hO4.out.set (p := ⟨w.heap.size + 1, 6, none⟩) (.inl rfl) _, HF3⟩
                            case measure => simp [intOf]; omega
                        · have d8 : decide ((q : Int) < (x2.size : Int)) = false := decide_eq_false (by omega)
                          have hLq : Lq = L := by
                            have h3 := HF.out
                            rw [List.drop_of_length_le (by rw [← bs_size, ← HX2.out]; omega), fldsB] at h3
                            exact Option.some.inj h3
                          subst hLq
                          have hx := HX.out.cell
                          have y0 := hx 0 _ rfl
                          have y1 := hx 1 _ rfl
                          have y2 := hx 2 _ rfl
                          have y3 := hx 3 _ rfl
                          have y4 := hx 4 _ rfl
                          have y5 := hx 5 _ rfl
                          have y6 := hx 6 _ rfl
                          have hz := HZZ.out.only HO.out (show ¬ (w.heap.size = w.heap.size + 1) by omega)
                          have hfz := fun i => hz.ty.frozen i
                          have z0 := hz.cell 0 _ rfl
                          have z1 := hz.cell 1 _ rfl
                          have z2 := hz.cell 2 _ rfl
                          have z3 := hz.cell 3 _ rfl
                          have z4 := hz.cell 4 _ rfl
                          have z5 := hz.cell 5 _ rfl
                          have z6 := hz.cell 6 _ rfl
                          have hno := HFL.out.2
                          have hBf := Lib.hid ((below_step BB2.out BB3.out).trans (HO.out.below (n := w.heap.size) (by have := (below_step BB2.out BB3.out).size; omega) (fun i e => by omega)))
                          clear hx hz
                          by_cases c7 : Lq.op = 7
                          · have f7 : (Lq.op == 7) = true := by simpa using c7
                            have f8 : decide (13 < Lq.a) = false := decide_eq_false (fun h => hno ⟨c7, h⟩)
                            clear hno c7
                            go_wp2_with fail
                            refine bodyPost_ret (v := .tuple #[Lq.val, .bool true]) ?_ rfl ?_
                            · simp [results, Try.results49, go_sem, Ln.val, z0, z1, z2, z3, z4, z5, z6]
                            · exact ⟨rfl, below_set (below_set (below_set (below_set (below_set (below_set (below_set hBf.out (Nat.le_refl _)) (Nat.le_refl _)) (Nat.le_refl _)) (Nat.le_refl _)) (Nat.le_refl _)) (Nat.le_refl _)) (Nat.le_refl _)⟩
                          · have f7 : (Lq.op == 7) = false := by simpa using c7
                            clear hno c7
                            go_wp2_with fail
                            refine bodyPost_ret (v := .tuple #[Lq.val, .bool true]) ?_ rfl ?_
                            · simp [results, Try.results49, go_sem, Ln.val, z0, z1, z2, z3, z4, z5, z6]
                            · exact ⟨rfl, below_set (below_set (below_set (below_set (below_set (below_set (below_set hBf.out (Nat.le_refl _)) (Nat.le_refl _)) (Nat.le_refl _)) (Nat.le_refl _)) (Nat.le_refl _)) (Nat.le_refl _)) (Nat.le_refl _)⟩
                    · have h5 := HK3.out k (by omega)
                      rw [hmt] at h5
                      cases f1 : (x1.toList == t1.toList) with
                      | false =>
                        have f3 : (!(x1.toList == t1.toList)) = true := by rw [f1]; rfl
                        clear hmt h5
                        go_wp2_with (go_at_call 52; refine (hsp0 _).mono ?_; rintro e w3 ⟨rfl, hb3⟩; have hq1 := cell_below_of hcell1 hb3)
                        go_roundw
                        case rel => exact ⟨k + 1, by omega, by go_num, below_step HBL.out hb3⟩
                        case measure => simp [intOf]; omega
                      | true =>
                        rw [f1, Bool.true_and, beq_eq_false_iff_ne] at h5
                        have f3 : (!(x1.toList == t1.toList)) = false := by rw [f1]; rfl
                        have f2 : ((x2.size : Int) != (T.length : Int) - 1) = true := by simp; omega
                        clear hmt h5
                        go_wp2_with (go_at_call 52; refine (hsp0 _).mono ?_; rintro e w3 ⟨rfl, hb3⟩; have hq1 := cell_below_of hcell1 hb3)
                        go_roundw
                        case rel => exact ⟨k + 1, by omega, by go_num, below_step HBL.out hb3⟩
                        case measure => simp [intOf]; omega
            · have d1 : decide ((0 : Int) < (s2.size : Int)) = false := decide_eq_false (by omega)
              have d4 : s2.toList.isEmpty = true := isEmpty_of _ _ (decide_eq_true (by omega)).symm
              have hn : nb s2 = [] := List.length_eq_zero_iff.1 (by rw [nb_len]; omega)
              have hM2 := hM.out
              rw [hn, lineB] at hM2
              obtain rfl := Option.some.inj hM2
              clear hM2 hM hn h0 hll
              go_wp2_with fail
              refine bodyPost_ret (v := .tuple #[Ln.nil.val, .bool true]) ?_ rfl ?_
              · simp [results, Try.results49, go_sem, Ln.val, Ln.nil, bs]
              · exact ⟨rfl, by (repeat (with_reducible first | exact Below.refl _ _ | assumption | apply below_alloc | apply below_drewN | apply below_drew1 | (refine below_set ?_ (by simp only [alloc_size]; omega)) | (refine below_step ?_ (by assumption))))⟩
      · have d1 : decide ((0 : Int) < (s1.size : Int)) = false := decide_eq_false (by omega)
        have hn : nb s1 = [] := List.length_eq_zero_iff.1 (by rw [nb_len]; omega)
        have hM2 := HL.out
        rw [parseB, hE.out, hn] at hM2
        obtain rfl := Option.some.inj (show some Ln.nil = some L from hM2)
        have d4 : s1.toList.isEmpty = true := isEmpty_of _ _ (decide_eq_true (by omega)).symm
        clear h0 H1 hM2 hn HL
        go_wp2_with fail
        go_loop [0] (fun v => v = .string s1) (fun v => 0)
        case atStart => exact rfl
        case round =>
          subst hrel
          go_wp2_with fail
          refine bodyPost_ret (v := .tuple #[Ln.nil.val, .bool true]) ?_ rfl ?_
          · simp [results, Try.results49, go_sem, Ln.val, Ln.nil, bs]
          · exact ⟨rfl, by (repeat (with_reducible first | exact Below.refl _ _ | assumption | apply below_alloc | apply below_drewN | apply below_drew1 | (refine below_set ?_ (by simp only [alloc_size]; omega)) | (refine below_step ?_ (by assumption))))⟩
end Go.Proofs.Ytegjkheecbmioaa
