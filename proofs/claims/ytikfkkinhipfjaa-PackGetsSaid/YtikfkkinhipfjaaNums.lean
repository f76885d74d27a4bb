/- The walks of the reference's Numbers and Put of layer 6. -/
import Derived.Test.YtikfkkinhipfjaaPut
import Derived.Test.YtikfkkinhipfjaaMix
namespace Go.Proofs.Ytikfkkinhipfjaa
open Go.RowKit Go.ChangeShapes
set_option linter.unusedVariables false
set_option linter.unusedSimpArgs false

theorem truth_calls' (b : Bool) (w : World) : Calls Try.prog 45 #[.bool b] w fun e w' => e = .returned (.int .i64 (bitI b)) ∧ w' = w := (truth_calls b w).mono fun _ _ h => ⟨h.1, h.2.symm⟩
theorem info_i64 : (Try.prog.info? 2).map (fun i => (i.zero, i.size, i.bytes)) = some (some (.int .i64 0), 1, 8) := by kernel_rfl
def i64V (n : Int) : Value := .int .i64 n
/-- The numbers that are put together, and what is kept of the world at the box. -/
structure NumsInv (W0 : World) (v : Value) (L : List Int) (wr : World) : Prop where
  own : wr.ownsRow W0.heap.size 2 1 v L.length (L.map i64V)
  bl : Below W0.heap.size W0 wr
  len : L.length ≤ 9000
theorem nums_src {w : World} {b T m : Nat} {fr : Nat × Nat} (l : List Int) (hb : w.heap[b]? = some (.cells (l.map i64V).toArray T fr)) : Src w (.slice (some ⟨b, 0, none⟩) m m) m (l.map i64V) :=
  Src.of_block hb (by intro u hu; obtain ⟨n, _, rfl⟩ := List.mem_map.1 hu; rfl)
theorem NumsInv.more {W0 wr wx w1 : World} {v : Value} {L l : List Int} {A : Option Addr} {c n : Nat} (h : NumsInv W0 v L wr) (hx : Below wr.heap.size wr wx) (hn : l.length = n) (hl : L.length + n ≤ 9000)
    (ho : w1.ownsRow W0.heap.size 2 1 (.slice A (L.length + n) c) (L.length + n) (L.map i64V ++ l.map i64V)) (hg : wx.grownBy w1 v.ownBlock) : NumsInv W0 (.slice A (L.length + n) c) (L ++ l) w1 := by
  subst hn
  have hW := below_step h.bl hx
  refine ⟨by simpa using ho, below_grown hW hg hW.size (fun k hk => own_base h.own k hk), by simpa using hl⟩
set_option maxRecDepth 100000 in
set_option maxHeartbeats 3200000 in
theorem rnumbers_calls {ok : Nat → Prop} (s : Scr) (A0 A1 A2 : Option Addr) (c0 c1 c2 : Nat) (w : World) (h : ScrAt ok w s A0 A1 A2 c0 c1 c2) (hc : checkE s = none) :
    Calls Try.prog 24 #[scrV s A0 A1 A2 c0 c1 c2] w fun e w' => ∃ v, e = .returned v ∧ w'.ownsRow w.heap.size 2 1 v (scrN s).length ((scrN s).map i64V) ∧ Below w.heap.size w w' := by
  obtain ⟨i0, hi0, hz0, hs0, hbb0⟩ := info_parts info_i64
  have hu : Try.prog.underlying 60 = some (.slice 2) := Try.underlying60
  have hS := Lib.hid h.bound
  clear h
  obtain ⟨n0, n1, n2, n3, b0, b1, b2⟩ := check_bounds hc
  have hn2' := Lib.hid n2
  clear b0 b1 b2 n2 hc
  obtain ⟨W0, hW0⟩ : ∃ W0, W0 = w.alloc (.cells #[.slice A0 s.objs.length c0, .slice A1 s.progs.length c1, .slice A2 s.picks.length c2] 26) := ⟨_, rfl⟩
  have a0 : W0.cell? ⟨w.heap.size, 0, none⟩ = some (.slice A0 s.objs.length c0) := by rw [hW0]; exact box_cell w [_, _, _] _ rfl
  have a1 : W0.cell? ⟨w.heap.size, 1, none⟩ = some (.slice A1 s.progs.length c1) := by rw [hW0]; exact box_cell w [_, _, _] _ rfl
  have a2 : W0.cell? ⟨w.heap.size, 2, none⟩ = some (.slice A2 s.picks.length c2) := by rw [hW0]; exact box_cell w [_, _, _] _ rfl
  have hb0 : Below w.heap.size w W0 := by rw [hW0]; (repeat (with_reducible first | exact Below.refl _ _ | assumption | apply below_alloc | apply below_drewN | apply below_drew1 | (refine below_set ?_ (by simp only [alloc_size]; omega)) | (refine below_step ?_ (by assumption))))
  have hz0' : Hid (W0.heap.size = w.heap.size + 1) := Lib.hid (by rw [hW0, alloc_size])
  have hz1 : w.heap.size + 1 ≤ W0.heap.size := Nat.le_of_eq hz0'.out.symm
  unfold scrV
  go_enter Try.func24, Try.ntmps24
  go_wp2_with fail
  rw [← hW0]
  clear hW0
  go_loopw [3, 4] (fun v i wr => ∃ k : Nat, k ≤ s.objs.length ∧ i = .int .i64 k ∧ NumsInv W0 v ([(s.objs.length : Int)] ++ (s.objs.take k).flatMap obN) wr) (fun _ i _ => s.objs.length - (intOf i).toNat)
  case atStart =>
    refine ⟨0, Nat.zero_le _, rfl, ⟨?_, by (repeat (with_reducible first | exact Below.refl _ _ | assumption | apply below_alloc | apply below_drewN | apply below_drew1 | (refine below_set ?_ (by simp only [alloc_size]; omega)) | (refine below_step ?_ (by assumption)))), by simp⟩⟩
    have hh := alloc_heap_at W0 (.cells #[.int .i64 (s.objs.length : Int)] 2)
    rw [hz0'.out] at hh
    refine ⟨by simp, .inr ⟨_, _, _, rfl, by have := hz0'.out; omega, hh, ?_, ?_, ?_, ?_⟩⟩
    all_goals simp [maxLen, i64V]
  case round =>
    obtain ⟨k, hk, rfl, hI⟩ := hrel
    have d0 := cell_below_of a0 hI.bl
    have hL : ([(s.objs.length : Int)] ++ (s.objs.take k).flatMap obN).length ≤ 1 + 3 * k := by
      have h2 : (s.objs.take k).length ≤ k := List.length_take_le _ _
      simp only [List.length_append, List.length_cons, List.length_nil, len_obs]
      omega
    by_cases hlt : k < s.objs.length
    · obtain ⟨ad, o, hA, ho0, e0, e1, e2⟩ := at_ob (hS.out.below (below_step hb0 hI.bl)).o k hlt
      have ho := Lib.hid ho0
      clear ho0
      subst hA
      obtain ⟨L, hLe⟩ : ∃ L, L = [(s.objs.length : Int)] ++ (s.objs.take k).flatMap obN := ⟨_, rfl⟩
      rw [← hLe] at hI hL
      have HL := Lib.hid hLe
      clear hLe
      go_wp2_with fail
      refine Mix.region [0, 1, 2, 3, 4, 5, 6, 7] [8, 9, 10] 1 (fun w' => w'.cell? ⟨wr.heap.size, 0, none⟩ = some (.int .i64 o.kind) ∧ w'.cell? ⟨wr.heap.size, 1, none⟩ = some (.bool o.fair) ∧ w'.cell? ⟨wr.heap.size, 2, none⟩ = some (.int .i64 o.n)) (by kernel_rfl) (by kernel_rfl) ?_ ?_
      · exact ⟨by go_simp, by go_simp, by go_simp⟩
      repeat (apply Mix.step; (· rfl); (· intro w' hR V hV; obtain ⟨r0, r1, r2⟩ := hR; go_simp; first | exact hV | exact ⟨_, truth_calls' _ _, hV⟩); intro K hK; go_simp; refine hK _ ?_; clear hK K)
      refine Mix.nil ?_
      simp only [Mix.Tail, Mix.pick, List.getElem?_cons_succ, List.getElem?_cons_zero]
      go_wp2_with fail
      refine ⟨⟨by go_simp, by go_simp, by go_simp⟩, ?_⟩
      go_wp2_with (first | (at_builtin; go_loud (refine wpList_append_uni rfl _ _ 60 rfl W0.heap.size 2 i0 _ 1 8 hu hi0 hz0 hs0 hbb0 rfl (by decide) _ _ _ rfl (by exact own_below hI.own (by (repeat (with_reducible first | exact Below.refl _ _ | assumption | apply below_alloc | apply below_drewN | apply below_drew1 | (refine below_set ?_ (by simp only [alloc_size]; omega)) | (refine below_step ?_ (by assumption)))))) _ 3 ((obN o).map i64V) rfl rfl (nums_src (obN o) (by exact alloc2_at _ _ _)) (by unfold maxLen; omega) (by omega) (by simp only [alloc_size, World.size_drew]; have := hI.bl.size; omega) ?_)) | fail)
      intro A c w3 o3 g3 h3
      have hI3 := Lib.hid (NumsInv.more (n := 3) (l := obN o) hI (by (repeat (with_reducible first | exact Below.refl _ _ | assumption | apply below_alloc | apply below_drewN | apply below_drew1 | (refine below_set ?_ (by simp only [alloc_size]; omega)) | (refine below_step ?_ (by assumption))))) rfl (by omega) o3 g3)
      clear hI o3 g3 h3
      go_wp2_with fail
      refine Mix.calm_end ?_
      go_wp2_with fail
      go_roundw
      case rel => exact ⟨k + 1, by omega, by go_num, by rw [flat_take ho.out, ← List.append_assoc, ← HL.out]; exact hI3.out⟩
      case measure => simp [intOf]; omega
    · obtain rfl : k = s.objs.length := by omega
      rw [List.take_length] at hI hL
      obtain ⟨L, hLe⟩ : ∃ L, L = [(s.objs.length : Int)] ++ s.objs.flatMap obN := ⟨_, rfl⟩
      rw [← hLe] at hI hL
      have HL := Lib.hid hLe
      clear hLe
      have d1 := cell_below_of a1 hI.bl
      go_wp2_with (first | (at_builtin; go_loud (refine wpList_append_uni rfl _ _ 60 rfl W0.heap.size 2 i0 _ 1 8 hu hi0 hz0 hs0 hbb0 rfl (by decide) _ _ _ rfl (hI.own.alloc _) _ 1 ([(s.progs.length : Int)].map i64V) rfl rfl (nums_src [(s.progs.length : Int)] (alloc_heap_at _ _)) (by unfold maxLen; omega) (by omega) (by rw [alloc_size]; have := hI.bl.size; omega) ?_)) | fail)
      intro A c w3 o3 g3 h3
      have hI3 := Lib.hid (NumsInv.more (n := 1) (l := [(s.progs.length : Int)]) hI (by (repeat (with_reducible first | exact Below.refl _ _ | assumption | apply below_alloc | apply below_drewN | apply below_drew1 | (refine below_set ?_ (by simp only [alloc_size]; omega)) | (refine below_step ?_ (by assumption))))) rfl (by omega) o3 g3)
      clear hI o3 g3 h3 d0 d1
      go_wp2_with fail
      go_loopw [3, 6] (fun v i wr => ∃ k : Nat, k ≤ s.progs.length ∧ i = .int .i64 k ∧ NumsInv W0 v ([(s.objs.length : Int)] ++ s.objs.flatMap obN ++ [(s.progs.length : Int)] ++ (s.progs.take k).flatMap rowN) wr) (fun _ i _ => s.progs.length - (intOf i).toNat)
      case atStart => exact ⟨0, Nat.zero_le _, rfl, by rw [← HL.out]; simpa using hI3.out⟩
      case round =>
        clear hI3
        rw [HL.out] at hL
        clear HL
        obtain ⟨k, hk, rfl, hI⟩ := hrel
        have hL2 : ([(s.objs.length : Int)] ++ s.objs.flatMap obN ++ [(s.progs.length : Int)] ++ (s.progs.take k).flatMap rowN).length ≤ 20 + 81 * k := by
          have := len_rows (s.progs.take k) (fun l hl => hn2'.out l (List.mem_of_mem_take hl))
          have h2 : (s.progs.take k).length ≤ k := List.length_take_le _ _
          simp only [List.length_append, List.length_cons, List.length_nil] at hL ⊢
          omega
        clear hL
        have d1 := cell_below_of a1 hI.bl
        by_cases hlt : k < s.progs.length
        · obtain ⟨ad, A3, c3, l, hA, ho0, e0, e1, e2⟩ := at_sl hS.out.p k hlt
          have e0' := cell_below_of e0 (below_step hb0 hI.bl)
          have E0 := Lib.hid e0
          have e2' := Lib.hid e2
          have hll := hn2'.out l (List.mem_of_getElem? ho0)
          have ho := Lib.hid ho0
          clear ho0 e0 e2
          subst hA
          obtain ⟨L, hLe⟩ : ∃ L, L = [(s.objs.length : Int)] ++ s.objs.flatMap obN ++ [(s.progs.length : Int)] ++ (s.progs.take k).flatMap rowN := ⟨_, rfl⟩
          rw [← hLe] at hI hL2
          have HL := Lib.hid hLe
          clear hLe
          go_wp2_with (first | (at_builtin; go_loud (refine wpList_append_uni rfl _ _ 60 rfl W0.heap.size 2 i0 _ 1 8 hu hi0 hz0 hs0 hbb0 rfl (by decide) _ _ _ rfl (hI.own.alloc _) _ 1 ([(l.length : Int)].map i64V) rfl rfl (nums_src [(l.length : Int)] (alloc_heap_at _ _)) (by unfold maxLen; omega) (by omega) (by rw [alloc_size]; have := hI.bl.size; omega) ?_)) | fail)
          intro A c w4 o4 g4 h4
          have hI4 := Lib.hid (NumsInv.more (n := 1) (l := [(l.length : Int)]) hI (by (repeat (with_reducible first | exact Below.refl _ _ | assumption | apply below_alloc | apply below_drewN | apply below_drew1 | (refine below_set ?_ (by simp only [alloc_size]; omega)) | (refine below_step ?_ (by assumption))))) rfl (by omega) o4 g4)
          clear hI o4 g4 h4 e0' d1
          obtain ⟨wo, rfl⟩ : ∃ wo : World, wo = wr := ⟨_, rfl⟩
          go_wp2_with fail
          go_loopw [3, 7] (fun v i wr => ∃ j : Nat, j ≤ l.length ∧ i = .int .i64 j ∧ NumsInv W0 v ([(s.objs.length : Int)] ++ s.objs.flatMap obN ++ [(s.progs.length : Int)] ++ (s.progs.take k).flatMap rowN ++ [(l.length : Int)] ++ (l.take j).flatMap clN) wr) (fun _ i _ => l.length - (intOf i).toNat)
          case atStart => exact ⟨0, Nat.zero_le _, rfl, by rw [← HL.out]; simpa using hI4.out⟩
          case round =>
            rw [HL.out] at hL2
            clear hI4 HL
            obtain ⟨j, hj, rfl, hI⟩ := hrel
            have hL3 : ([(s.objs.length : Int)] ++ s.objs.flatMap obN ++ [(s.progs.length : Int)] ++ (s.progs.take k).flatMap rowN ++ [(l.length : Int)] ++ (l.take j).flatMap clN).length ≤ 21 + 81 * k + 5 * j := by
              have h2 : (l.take j).length ≤ j := List.length_take_le _ _
              simp only [List.length_append, List.length_cons, List.length_nil, len_cls] at hL2 ⊢
              omega
            clear hL2
            have d1 := cell_below_of a1 hI.bl
            have f0 := cell_below_of E0.out (below_step hb0 hI.bl)
            by_cases hjt : j < l.length
            · obtain ⟨ad, o, hA, hj0, g0, g1, g2, g3, g4⟩ := at_cl (e2'.out.below (below_step hb0 hI.bl)) j hjt
              have hjo := Lib.hid hj0
              clear hj0
              subst hA
              obtain ⟨L, hLe⟩ : ∃ L, L = [(s.objs.length : Int)] ++ s.objs.flatMap obN ++ [(s.progs.length : Int)] ++ (s.progs.take k).flatMap rowN ++ [(l.length : Int)] ++ (l.take j).flatMap clN := ⟨_, rfl⟩
              rw [← hLe] at hI hL3
              have HL := Lib.hid hLe
              clear hLe
              go_wp2_with fail
              refine Mix.region [0, 1, 2, 3, 4, 5, 6, 7, 8, 9, 10, 11] [12, 13, 14] 1 (fun w' => w'.cell? ⟨wr.heap.size, 0, none⟩ = some (.int .i64 o.kind) ∧ w'.cell? ⟨wr.heap.size, 1, none⟩ = some (.int .i64 o.obj) ∧ w'.cell? ⟨wr.heap.size, 2, none⟩ = some (.int .i64 o.n) ∧ w'.cell? ⟨wr.heap.size, 3, none⟩ = some (.int .i64 o.wait) ∧ w'.cell? ⟨wr.heap.size, 4, none⟩ = some (.bool o.breaks)) (by kernel_rfl) (by kernel_rfl) ?_ ?_
              · exact ⟨by go_simp, by go_simp, by go_simp, by go_simp, by go_simp⟩
              repeat (apply Mix.step; (· rfl); (· intro w' hR V hV; obtain ⟨r0, r1, r2, r3, r4⟩ := hR; go_simp; first | exact hV | exact ⟨_, truth_calls' _ _, hV⟩); intro K hK; go_simp; refine hK _ ?_; clear hK K)
              refine Mix.nil ?_
              simp only [Mix.Tail, Mix.pick, List.getElem?_cons_succ, List.getElem?_cons_zero]
              go_wp2_with fail
              refine ⟨⟨by go_simp, by go_simp, by go_simp, by go_simp, by go_simp⟩, ?_⟩
              go_wp2_with (first | (at_builtin; go_loud (refine wpList_append_uni rfl _ _ 60 rfl W0.heap.size 2 i0 _ 1 8 hu hi0 hz0 hs0 hbb0 rfl (by decide) _ _ _ rfl (by exact own_below hI.own (by (repeat (with_reducible first | exact Below.refl _ _ | assumption | apply below_alloc | apply below_drewN | apply below_drew1 | (refine below_set ?_ (by simp only [alloc_size]; omega)) | (refine below_step ?_ (by assumption)))))) _ 5 ((clN o).map i64V) rfl rfl (nums_src (clN o) (by exact alloc2_at _ _ _)) (by unfold maxLen; omega) (by omega) (by simp only [alloc_size, World.size_drew]; have := hI.bl.size; omega) ?_)) | fail)
              intro A c w5 o5 q5 h5
              have hI5 := Lib.hid (NumsInv.more (n := 5) (l := clN o) hI (by (repeat (with_reducible first | exact Below.refl _ _ | assumption | apply below_alloc | apply below_drewN | apply below_drew1 | (refine below_set ?_ (by simp only [alloc_size]; omega)) | (refine below_step ?_ (by assumption))))) rfl (by omega) o5 q5)
              clear hI o5 q5 h5
              go_wp2_with fail
              refine Mix.calm_end ?_
              go_wp2_with fail
              go_roundw
              case rel => exact ⟨j + 1, by omega, by go_num, by rw [flat_take hjo.out, ← List.append_assoc, ← HL.out]; exact hI5.out⟩
              case measure => simp [intOf]; omega
            · obtain rfl : j = l.length := by omega
              rw [List.take_length] at hI
              have HI := Lib.hid hI
              clear hI
              go_wp2_with fail
              go_roundw
              case rel => exact ⟨k + 1, by omega, by go_num, by rw [flat_take ho.out, rowN]; simpa using HI.out⟩
              case measure => simp [intOf]; omega
        · obtain rfl : k = s.progs.length := by omega
          rw [List.take_length] at hI hL2
          obtain ⟨L, hLe⟩ : ∃ L, L = [(s.objs.length : Int)] ++ s.objs.flatMap obN ++ [(s.progs.length : Int)] ++ s.progs.flatMap rowN := ⟨_, rfl⟩
          rw [← hLe] at hI hL2
          have HL := Lib.hid hLe
          clear hLe
          have d2 := cell_below_of a2 hI.bl
          go_wp2_with (first | (at_builtin; go_loud (refine wpList_append_uni rfl _ _ 60 rfl W0.heap.size 2 i0 _ 1 8 hu hi0 hz0 hs0 hbb0 rfl (by decide) _ _ _ rfl (hI.own.alloc _) _ 1 ([(s.picks.length : Int)].map i64V) rfl rfl (nums_src [(s.picks.length : Int)] (alloc_heap_at _ _)) (by unfold maxLen; omega) (by omega) (by rw [alloc_size]; have := hI.bl.size; omega) ?_)) | fail)
          intro A c w4 o4 g4 h4
          have hI4 := Lib.hid (NumsInv.more (n := 1) (l := [(s.picks.length : Int)]) hI (by (repeat (with_reducible first | exact Below.refl _ _ | assumption | apply below_alloc | apply below_drewN | apply below_drew1 | (refine below_set ?_ (by simp only [alloc_size]; omega)) | (refine below_step ?_ (by assumption))))) rfl (by omega) o4 g4)
          clear hI o4 g4 h4 d1 d2
          go_wp2_with fail
          go_loopw [3, 9] (fun v i wr => ∃ k : Nat, k ≤ s.picks.length ∧ i = .int .i64 k ∧ NumsInv W0 v ([(s.objs.length : Int)] ++ s.objs.flatMap obN ++ [(s.progs.length : Int)] ++ s.progs.flatMap rowN ++ [(s.picks.length : Int)] ++ (s.picks.take k).flatMap pkN) wr) (fun _ i _ => s.picks.length - (intOf i).toNat)
          case atStart => exact ⟨0, Nat.zero_le _, rfl, by rw [← HL.out]; simpa using hI4.out⟩
          case round =>
            rw [HL.out] at hL2
            clear hI4 HL
            obtain ⟨k, hk, rfl, hI⟩ := hrel
            have hL3 : ([(s.objs.length : Int)] ++ s.objs.flatMap obN ++ [(s.progs.length : Int)] ++ s.progs.flatMap rowN ++ [(s.picks.length : Int)] ++ (s.picks.take k).flatMap pkN).length ≤ 669 + 2 * k := by
              have h2 : (s.picks.take k).length ≤ k := List.length_take_le _ _
              simp only [List.length_append, List.length_cons, List.length_nil, len_pks] at hL2 ⊢
              omega
            clear hL2
            have d2 := cell_below_of a2 hI.bl
            by_cases hlt : k < s.picks.length
            · obtain ⟨ad, o, hA, ho0, e0, e1⟩ := at_pk (hS.out.below (below_step hb0 hI.bl)).k k hlt
              have ho := Lib.hid ho0
              clear ho0
              subst hA
              obtain ⟨L, hLe⟩ : ∃ L, L = [(s.objs.length : Int)] ++ s.objs.flatMap obN ++ [(s.progs.length : Int)] ++ s.progs.flatMap rowN ++ [(s.picks.length : Int)] ++ (s.picks.take k).flatMap pkN := ⟨_, rfl⟩
              rw [← hLe] at hI hL3
              have HL := Lib.hid hLe
              clear hLe
              go_wp2_with fail
              refine Mix.region [0, 1, 2, 3, 4, 5, 6, 7, 8, 9, 10, 11, 12] [13, 14, 15] 1 (fun w' => w'.cell? ⟨w.heap.size, 2, none⟩ = some (.slice (some ad) s.picks.length c2) ∧ w'.cell? (ad.add (k * 2)) = some (.int .i64 o.kind) ∧ w'.cell? ⟨(ad.add (k * 2)).block, (ad.add (k * 2)).off + 1, none⟩ = some (.int .i64 o.n)) (by kernel_rfl) (by kernel_rfl) ?_ ?_
              · exact ⟨by go_simp, by go_simp, by go_simp⟩
              repeat (apply Mix.step; (· rfl); (· intro w' hR V hV; obtain ⟨r0, r1, r2⟩ := hR; go_simp; first | exact hV | exact ⟨_, truth_calls' _ _, hV⟩); intro K hK; go_simp; refine hK _ ?_; clear hK K)
              refine Mix.nil ?_
              simp only [Mix.Tail, Mix.pick, List.getElem?_cons_succ, List.getElem?_cons_zero]
              go_wp2_with fail
              refine ⟨⟨cell_alloc_of d2 _, cell_alloc_of e0 _, cell_alloc_of e1 _⟩, ?_⟩
              go_wp2_with (first | (at_builtin; go_loud (refine wpList_append_uni rfl _ _ 60 rfl W0.heap.size 2 i0 _ 1 8 hu hi0 hz0 hs0 hbb0 rfl (by decide) _ _ _ rfl (by exact own_below hI.own (by (repeat (with_reducible first | exact Below.refl _ _ | assumption | apply below_alloc | apply below_drewN | apply below_drew1 | (refine below_set ?_ (by simp only [alloc_size]; omega)) | (refine below_step ?_ (by assumption)))))) _ 2 ((pkN o).map i64V) rfl rfl (nums_src (pkN o) (by exact alloc_heap_at _ _)) (by unfold maxLen; omega) (by omega) (by simp only [alloc_size, World.size_drew]; have := hI.bl.size; omega) ?_)) | fail)
              intro A c w5 o5 q5 h5
              have hI5 := Lib.hid (NumsInv.more (n := 2) (l := pkN o) hI (by (repeat (with_reducible first | exact Below.refl _ _ | assumption | apply below_alloc | apply below_drewN | apply below_drew1 | (refine below_set ?_ (by simp only [alloc_size]; omega)) | (refine below_step ?_ (by assumption))))) rfl (by omega) o5 q5)
              clear hI o5 q5 h5
              go_wp2_with fail
              refine Mix.calm_end ?_
              go_wp2_with fail
              go_roundw
              case rel => exact ⟨k + 1, by omega, by go_num, by rw [flat_take ho.out, ← List.append_assoc, ← HL.out]; exact hI5.out⟩
              case measure => simp [intOf]; omega
            · obtain rfl : k = s.picks.length := by omega
              rw [List.take_length] at hI
              have HI := Lib.hid hI
              clear hI
              go_wp2_with fail
              go_ret
              exact ⟨_, rfl, by exact own_weak HI.out.own hb0.size, by exact (below_step hb0 HI.out.bl)⟩
theorem at_i64o {w : World} {B : Nat} {v : Value} {L : List Int} (h : w.ownsRow B 2 1 v L.length (L.map i64V)) : ∃ A c, v = .slice A L.length c ∧ L.length ≤ c ∧ kI64.C (B ≤ ·) w A L := by
  have e : L.map i64V = L.flatMap I64.enc := by
    clear h
    induction L with
    | nil => rfl
    | cons a l ih => simp only [List.map_cons, List.flatMap_cons, ih]; rfl
  rw [e] at h
  exact C_of_own (enc := I64.enc) (hl := fun _ => rfl) (h1 := by intro x u hu; simp [I64.enc] at hu; subst hu; rfl) (h0 := by decide) h (fun k hk => own_base h k hk)
theorem Src.of_own {w : World} {b e n : Nat} {v : Value} {x : List Value} (h : w.ownsRow b e 1 v n x) (h1 : ∀ u ∈ x, u.oneCell' = true) : Src w v n x := by
  rcases h.2 with ⟨rfl, rfl⟩ | ⟨g, cap, cur, rfl, hg, hh, hnc, hcm, hcs, ht⟩
  · exact ⟨none, 0, rfl, h1, .inl ⟨rfl, by have := h.1; exact List.length_eq_zero_iff.1 (by omega)⟩⟩
  · refine ⟨_, cap, rfl, h1, .inr ⟨_, rfl, fun j u hu => ?_⟩⟩
    rw [← ht] at hu
    obtain ⟨hj, rfl⟩ := List.getElem?_eq_some_iff.1 hu
    rw [List.length_take] at hj
    have e : (Addr.add ⟨g, 0, none⟩ j) = ⟨g, j, none⟩ := by
      unfold Addr.add
      split
      · rename_i h0; rw [h0]
      · simp
    rw [e]
    have hl : j < cur.size := by simp at hj; omega
    simp [World.cell?, hh, hl]
theorem byteV_one (l : List Nat) : ∀ u ∈ l.map byteV, u.oneCell' = true := by
  intro u hu
  obtain ⟨n, _, rfl⟩ := List.mem_map.1 hu
  rfl
structure RPutInv (W0 : World) (v : Value) (L : List Int) (wr : World) : Prop where
  own : wr.ownsRow W0.heap.size 5 1 v (numsB L).length ((numsB L).map byteV)
  bl : Below W0.heap.size W0 wr
theorem scrN_len {s : Scr} (hc : checkE s = none) : (scrN s).length ≤ 9000 := by
  obtain ⟨n0, n1, n2, n3, _, _, _⟩ := check_bounds hc
  have := len_rows s.progs n2
  simp only [scrN, List.length_append, List.length_cons, List.length_nil, len_obs, len_pks]
  omega
theorem scrN_wf {s : Scr} (hc : checkE s = none) : ∀ n ∈ scrN s, (Lit.int .i64 n).wf = true := by
  obtain ⟨n0, n1, n2, n3, b0, b1, b2⟩ := check_bounds hc
  intro n hn
  simp only [scrN, List.mem_append, List.mem_flatMap] at hn
  rcases hn with ((((h | ⟨o, ho, h⟩) | h) | ⟨l, hl, h⟩) | h) | ⟨o, ho, h⟩
  · exact one_wf (by omega) n h
  · exact ob_wf (b0 o ho) n h
  · exact one_wf (by omega) n h
  · simp only [rowN, List.mem_cons, List.mem_flatMap] at h
    rcases h with rfl | ⟨o, ho, h⟩
    · have := n2 l hl
      exact wf_of (by omega) (by omega)
    · exact cl_wf n0 (b1 l hl o ho) n h
  · exact one_wf (by omega) n h
  · exact pk_wf (b2 o ho) n h
set_option maxRecDepth 100000 in
set_option maxHeartbeats 1600000 in
theorem rput_calls {ok : Nat → Prop} (s : Scr) (A0 A1 A2 : Option Addr) (c0 c1 c2 : Nat) (w : World) (h : ScrAt ok w s A0 A1 A2 c0 c1 c2) (hc : checkE s = none) :
    Calls Try.prog 13 #[scrV s A0 A1 A2 c0 c1 c2] w fun e w' => ∃ v, e = .returned v ∧ w'.ownsRow w.heap.size 5 1 v (putB s).length ((putB s).map byteV) ∧ Below w.heap.size w w' := by
  obtain ⟨i0, hi0, hz0, hs0, hbb0⟩ := info_u8
  have hu : Try.prog.underlying 29 = some (.slice 5) := Try.underlying29
  have hS := Lib.hid h.bound
  have hcc := Lib.hid hc
  have hP : Hid (putB s = numsB (scrN s)) := Lib.hid rfl
  have hn := scrN_len hc
  have hwf := Lib.hid (scrN_wf hc)
  clear h hc
  obtain ⟨W0, hW0⟩ : ∃ W0, W0 = w.alloc (.cells #[.slice A0 s.objs.length c0, .slice A1 s.progs.length c1, .slice A2 s.picks.length c2] 26) := ⟨_, rfl⟩
  have a0 : W0.cell? ⟨w.heap.size, 0, none⟩ = some (.slice A0 s.objs.length c0) := by rw [hW0]; exact box_cell w [_, _, _] _ rfl
  have a1 : W0.cell? ⟨w.heap.size, 1, none⟩ = some (.slice A1 s.progs.length c1) := by rw [hW0]; exact box_cell w [_, _, _] _ rfl
  have a2 : W0.cell? ⟨w.heap.size, 2, none⟩ = some (.slice A2 s.picks.length c2) := by rw [hW0]; exact box_cell w [_, _, _] _ rfl
  have hb0 : Below w.heap.size w W0 := by rw [hW0]; (repeat (with_reducible first | exact Below.refl _ _ | assumption | apply below_alloc | apply below_drewN | apply below_drew1 | (refine below_set ?_ (by simp only [alloc_size]; omega)) | (refine below_step ?_ (by assumption))))
  unfold scrV
  go_enter Try.func13, Try.ntmps13
  go_wp2_with fail
  rw [← hW0]
  clear hW0
  refine (rnumbers_calls s A0 A1 A2 c0 c1 c2 _ (hS.out.below hb0) hcc.out).mono ?_
  rintro e w1 ⟨v1, rfl, o1, hb1⟩
  obtain ⟨A, c, rfl, hlc, hC⟩ := at_i64o o1
  have hC' := Lib.hid hC
  clear o1 a0 a1 a2 hC
  generalize scrN s = L at hP hn hwf hC' hlc ⊢
  go_wp2_with fail
  go_loopw [3, 5] (fun v i wr => ∃ k : Nat, k ≤ L.length ∧ i = .int .i64 k ∧ RPutInv w1 v (L.take k) wr) (fun _ i _ => L.length - (intOf i).toNat)
  case atStart => exact ⟨0, Nat.zero_le _, rfl, World.ownsRow_nil _ _ _ _, Below.refl _ _⟩
  case round =>
    obtain ⟨k, hk, rfl, hI⟩ := hrel
    have hnl : (numsB (L.take k)).length ≤ 10 * k := by
      have := numsB_len (l := L.take k) (fun n h => hwf.out n (List.mem_of_mem_take h))
      have h2 : (L.take k).length ≤ k := List.length_take_le _ _
      omega
    by_cases hlt : k < L.length
    · obtain ⟨ad, n, hA, hk0, hcell, _⟩ := at_i64 (hC'.out.below hI.bl) k hlt
      have hnw := Lib.hid (hwf.out n (List.mem_of_getElem? hk0))
      have hl10 : (numB n).length ≤ 10 := by have := bounds_i64 hnw.out; exact leb_len10 (zig_lt this.1 this.2)
      have hko := Lib.hid (numsB_take hk0)
      clear hk0
      subst hA
      have hbs := hI.bl.size
      obtain ⟨io, ib⟩ := hI
      generalize numsB (L.take k) = P at io hnl hko
      have IO := Lib.hid io
      have IB := Lib.hid ib
      clear io ib
      go_wp2_with fail
      refine (number_calls n hnw.out _).mono ?_
      rintro e w2 ⟨v2, rfl, o2, b2⟩
      have O2 := Lib.hid o2
      have B2 := Lib.hid b2
      have z2 := b2.size
      clear o2 b2
      obtain ⟨N, hN⟩ : ∃ N, N = numB n := ⟨_, rfl⟩
      rw [← hN] at O2 hl10
      have HN := Lib.hid hN
      clear hN
      go_wp2_with (first | (at_builtin; go_loud (refine wpList_append_uni rfl _ _ 29 rfl w1.heap.size 5 i0 _ 1 1 hu hi0 hz0 hs0 hbb0 rfl (by decide) _ _ _ rfl (own_below IO.out B2.out) _ N.length (N.map byteV) rfl (by simp) (Src.of_own O2.out (byteV_one N)) (by unfold maxLen; omega) (by omega) (by omega) ?_)) | fail)
      intro A c w3 o3 g3 h3
      have hI3 : Hid (RPutInv w1 (.slice A (P.length + N.length) c) (L.take (k + 1)) w3) := Lib.hid ⟨by rw [hko.out, ← HN.out]; simpa using o3, below_grown (below_step IB.out B2.out) g3 (by omega) (fun j hj => own_base IO.out j hj)⟩
      clear o3 g3 h3
      go_wp2_with fail
      go_roundw
      case rel => exact ⟨k + 1, by omega, by go_num, hI3.out⟩
      case measure => simp [intOf]; omega
    · obtain rfl : k = L.length := by omega
      rw [List.take_length] at hI
      have HI := Lib.hid hI
      clear hI
      go_wp2_with fail
      go_ret
      rw [hP.out]
      exact ⟨_, rfl, own_weak HI.out.own (Nat.le_trans hb0.size hb1.size), below_step (below_step hb0 hb1) HI.out.bl⟩
end Go.Proofs.Ytikfkkinhipfjaa
