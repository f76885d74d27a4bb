/- Walks of the reference's Lines and Words. -/
import Derived.Test.YtegjkheecbmioaaTxC
namespace Go.Proofs.Ytegjkheecbmioaa
open Go.RowKit
set_option linter.unusedVariables false
set_option linter.unusedSimpArgs false

def linesB (ts : List ByteArray) : List ByteArray := ts.flatMap (fun t => (spl 10 (nb t)).map bs)
theorem linesB_snoc (ts : List ByteArray) (n : Nat) (h : n < ts.length) : linesB (ts.take (n + 1)) = linesB (ts.take n) ++ (spl 10 (nb ts[n])).map bs := by
  unfold linesB
  rw [List.take_succ_eq_append_getElem h, List.flatMap_append, List.flatMap_singleton]
theorem at_str' {ok : Nat → Prop} {w : World} {A : Option Addr} {xs : List ByteArray} (h : kStr.C ok w A xs) (i : Nat) (hi : i < xs.length) : ∃ ad s, A = some ad ∧ xs[i]? = some s ∧ w.cell? (ad.add i) = some (.string s) := by
  obtain ⟨ad, e, hc⟩ := at_str h i hi
  exact ⟨ad, xs[i], e, List.getElem?_eq_getElem hi, hc⟩
set_option maxRecDepth 100000 in
set_option maxHeartbeats 1600000 in
theorem lines_calls {ok : Nat → Prop} (ts : List ByteArray) (A0 : Option Addr) (c0 : Nat) (w : World) (hC0 : kStr.C ok w A0 ts) (hn : ts.length ≤ 100) (hs : ∀ t ∈ ts, t.size ≤ 100000) :
    Calls Try.prog 48 #[.slice A0 ts.length c0] w
    fun e w' => ∃ A c, e = .returned (.slice A (linesB ts).length c) ∧ (linesB ts).length ≤ c ∧ kStr.C (w.heap.size ≤ ·) w' A (linesB ts) ∧ Below w.heap.size w w' := by
  obtain ⟨i0, hi0, hz0, hs0, hb0⟩ := info_parts info_str
  have hu : Try.prog.underlying 28 = some (.slice 9) := Try.underlying28
  have HC0 := Lib.hid hC0
  have HS0 := Lib.hid hs
  clear hC0 hs
  go_enter Try.func48, Try.ntmps48
  go_wp2_with fail
  go_loopw [3, 4] (fun v i wr => ∃ (n : Nat) (done : List ByteArray), i = .int .i64 n ∧ n ≤ ts.length ∧ done = linesB (ts.take n) ∧ done.length ≤ n * 100001 ∧ StrInv w v done wr) (fun _ i _ => ts.length - (intOf i).toNat)
  case atStart => exact ⟨0, [], rfl, Nat.zero_le _, rfl, Nat.zero_le _, World.ownsRow_nil _ _ _ _, Below.refl _ _⟩
  case round =>
    obtain ⟨n, pre, rfl, hnl, hpre, hpl, hI⟩ := hrel
    have HI := Lib.hid hI
    have HP := Lib.hid hpre
    obtain ⟨A1, c1, rfl, hc1, _⟩ := hI.out
    clear hI hpre
    by_cases hlt : n < ts.length
    · have d0 : decide ((n : Int) < (ts.length : Int)) = true := decide_eq_true (by omega)
      obtain ⟨ad, s, rfl, hgs0, _⟩ := at_str' HC0.out n hlt
      have hgs := Lib.hid hgs0
      have hss := HS0.out s (List.mem_of_getElem? hgs0)
      have hll := Lib.hid (nb_len s)
      clear hgs0
      go_wp2_with fail
      go_loopw [3, 5, 6] (fun v f i wq => ∃ (fn k : Nat) (done : List ByteArray), f = .int .i64 fn ∧ i = .int .i64 k ∧ SplInv 10 (nb s) pre done fn k ∧ StrInv w v done wq) (fun _ _ i _ => s.size + 1 - (intOf i).toNat)
      case atStart => exact ⟨0, 0, pre, rfl, rfl, SplInv.start _ _ _, HI.out⟩
      case round =>
        clear HI hc1
        obtain ⟨f, k, done, rfl, rfl, hS, hI⟩ := hrel
        have HS := Lib.hid hS
        have HI := Lib.hid hI
        have h1 := hS.le
        have h2 := hS.top
        have h3 := hS.len
        rw [nb_len] at h2
        have h4 := hI.bl.size
        obtain ⟨A, c, rfl, hc, hC⟩ := hI.out
        obtain ⟨ad', s', e', hgs', hcell⟩ := at_str' (HC0.out.below hI.bl) n hlt
        obtain rfl : s' = s := by have := hgs.out; rw [hgs'] at this; exact Option.some.inj this
        obtain rfl : ad = ad' := Option.some.inj e'
        clear hS hI hC hgs' e'
        by_cases hlt : k ≤ s'.size
        · have d1 : decide ((k : Int) ≤ (s'.size : Int)) = true := decide_eq_true (by omega)
          by_cases hE : k = s'.size
          · have d2 : ((k : Int) == (s'.size : Int)) = true := by simp; omega
            have hfin := Lib.hid (HS.out.fin (by rw [nb_len]; exact hE))
            have hx := Lib.hid (ext_bs s' f k)
            clear hE
            go_wp2_with (first | (at_builtin; go_loud (refine wpList_append_uni rfl _ _ 28 rfl w.heap.size 9 i0 _ 1 16 hu hi0 hz0 hs0 hb0 rfl (by decide) _ _ _ rfl (HI.out.own.alloc _) _ 1 [.string (s'.extract f k)] rfl rfl (Src.of_block (alloc_heap_at _ _) (str_one _)) (by unfold maxLen; omega) (by omega) (by rw [alloc_size]; omega) ?_)) | fail)
            intro A3 c3 w3 o3 g3 h3'
            have hI3 := Lib.hid (HI.out.push o3 g3)
            rw [hx.out] at hI3
            clear o3 g3 h3' hcell
            go_wp2_with fail
            go_roundw
            case rel => exact ⟨k + 1, k + 1, _, by go_num, by go_num, hfin.out, by simpa using hI3.out⟩
            case measure => simp [intOf]; omega
          · have d2 : ((k : Int) == (s'.size : Int)) = false := by simp; omega
            have hks : k < s'.size := by omega
            have hg := nb_get s' k hks
            by_cases hC : s'[k].toNat = 10
            · have d3 : ((s'[k].toNat : Int) == 10) = true := by simp; omega
              have hfin := Lib.hid (HS.out.hit (by rw [hg, hC]))
              have hx := Lib.hid (ext_bs s' f k)
              clear hg hC hE
              go_wp2_with (first | (at_builtin; go_loud (refine wpList_append_uni rfl _ _ 28 rfl w.heap.size 9 i0 _ 1 16 hu hi0 hz0 hs0 hb0 rfl (by decide) _ _ _ rfl (HI.out.own.alloc _) _ 1 [.string (s'.extract f k)] rfl rfl (Src.of_block (alloc_heap_at _ _) (str_one _)) (by unfold maxLen; omega) (by omega) (by rw [alloc_size]; omega) ?_)) | fail)
              intro A3 c3 w3 o3 g3 h3'
              have hI3 := Lib.hid (HI.out.push o3 g3)
              rw [hx.out] at hI3
              clear o3 g3 h3' hcell
              go_wp2_with fail
              go_roundw
              case rel => exact ⟨k + 1, k + 1, _, by go_num, by go_num, hfin.out, by simpa using hI3.out⟩
              case measure => simp [intOf]; omega
            · have d3 : ((s'[k].toNat : Int) == 10) = false := by simp; omega
              have hmore := Lib.hid (HS.out.more hg hC)
              clear hg hC hE
              go_wp2_with fail
              go_roundw
              case rel => exact ⟨f, k + 1, done, rfl, by go_num, hmore.out, HI.out⟩
              case measure => simp [intOf]; omega
        · have hk : k = (nb s').length + 1 := by rw [hll.out]; omega
          have hr := Lib.hid (HS.out.end_ hk)
          have d1 : decide ((k : Int) ≤ (s'.size : Int)) = false := decide_eq_false (by omega)
          have hdn : done = linesB (ts.take (n + 1)) := by
            rw [hr.out, HP.out, linesB_snoc ts n (by omega)]
            have := hgs.out
            rw [List.getElem?_eq_getElem (by omega)] at this
            rw [Option.some.inj this]
          have HD := Lib.hid hdn
          have hfk : f ≤ s'.size + 1 := by omega
          clear hk hdn
          go_wp2_with fail
          go_roundw
          case rel => exact ⟨n + 1, done, by go_num, by omega, HD.out, by omega, HI.out⟩
          case measure => simp [intOf]; omega
    · have d0 : decide ((n : Int) < (ts.length : Int)) = false := decide_eq_false (by omega)
      have hr := Lib.hid (show linesB ts = pre by rw [HP.out, List.take_of_length_le (by omega)])
      go_wp2
      go_ret
      obtain ⟨A', c', e, hc', hC⟩ := HI.out.out
      rw [hr.out]
      simp only [Value.slice.injEq, true_and] at e
      obtain ⟨rfl, rfl⟩ := e
      exact ⟨_, _, rfl, hc', hC, HI.out.bl⟩
/-- The words of the instructions. -/
def wordsT : List (List Nat) := [[115, 101, 116, 32, 65, 78], [109, 111, 118, 32, 65, 66], [97, 100, 100, 32, 65, 66, 67], [97, 100, 100, 105, 32, 65, 66, 78], [108, 100, 32, 65, 66, 78], [115, 116, 32, 65, 66, 78], [99, 97, 115, 32, 65, 66, 78], [106, 109, 112, 32, 84],
  [106, 101, 113, 32, 65, 66, 84], [106, 110, 101, 32, 65, 66, 84], [106, 108, 116, 32, 65, 66, 84], [99, 97, 108, 108, 32, 84], [114, 101, 116, 32], [112, 97, 114, 107, 32, 65], [117, 110, 112, 97, 114, 107, 32, 65], [97, 108, 108, 111, 99, 32, 65, 78], [115, 101, 108, 102, 32, 65],
  [110, 111, 119, 32, 65], [105, 110, 116, 114, 32, 65], [115, 101, 116, 105, 110, 116, 32], [109, 97, 114, 107, 32, 78, 65], [100, 111, 110, 101, 32, 65]]
def wordsS : List ByteArray := wordsT.map bs
theorem wordsT_ok : (∀ t ∈ wordsT, 32 ∈ t ∧ ∀ x ∈ t, x < 256) ∧ wordsT.length = 22 := by decide
set_option maxRecDepth 100000 in
set_option maxHeartbeats 1600000 in
theorem Words_calls (w : World) : Calls Try.prog 53 #[] w
    fun e w' => ∃ A, e = .returned (.slice A 22 22) ∧ kStr.C (w.heap.size ≤ ·) w' A wordsS ∧ Below w.heap.size w w' := by
  go_enter Try.func53, Try.ntmps53
  go_wp2
  go_ret
  exact ⟨_, rfl, C_of_block (css := wordsS.map (fun x => [.string x])) (by simp) (fun i x c hx hc => by
    have h2 : (wordsS.map (fun x => [Value.string x]))[i]? = some c := hc
    rw [List.getElem?_map, hx] at h2
    exact (Option.some.inj h2).symm) (alloc_heap_at _ _) (by decide) (Nat.le_refl _), by (repeat (with_reducible first | exact Below.refl _ _ | assumption | apply below_alloc | apply below_drewN | apply below_drew1 | (refine below_set ?_ (by simp only [alloc_size]; omega)) | (refine below_step ?_ (by assumption))))⟩
end Go.Proofs.Ytegjkheecbmioaa
