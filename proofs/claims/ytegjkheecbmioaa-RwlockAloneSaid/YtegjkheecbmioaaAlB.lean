/- One thread, alone: the walk of ref12.Alone. -/
import Derived.Test.YtegjkheecbmioaaAlA
namespace Go.Proofs.Ytegjkheecbmioaa
open Go.RowKit
set_option linter.unusedVariables false
set_option linter.unusedSimpArgs false

def kInt : Kd Int := Kd.int .i64
theorem at_int {ok : Nat → Prop} {w : World} {A : Option Addr} {xs : List Int} (h : kInt.C ok w A xs) (i : Nat) (hi : i < xs.length) : ∃ ad, A = some ad ∧ w.cell? (ad.add i) = some (.int .i64 xs[i]) := by
  obtain ⟨ad, c, e, _, hK, hc⟩ := h.get i hi
  obtain rfl : c = [.int .i64 xs[i]] := hK
  have := hc 0 _ rfl
  refine ⟨ad, e, ?_⟩
  simpa [kInt, Kd.int, Kd.fn] using this
/-- What Alone tells. -/
def AlPost (w0 : World) (B bW bT bL : Nat) (val : Int) (ns : List (Int × Int)) (ok : Bool) (s : St) (e : Ending) (w : World) : Prop := ∃ A c, e = .returned (.tuple #[.int .i64 val, .slice A ns.length c, .bool ok]) ∧
  w.ownsRow w0.heap.size 40 2 (.slice A ns.length c) ns.length (ns.flatMap noteEnc) ∧ WAt B bW bT bL s w ∧ Ch B (fun _ => False) w0 w ∧ s.cells.length ≤ 4096
set_option maxRecDepth 100000 in
set_option maxHeartbeats 6400000 in
theorem Alone_calls {okc okl oka : Nat → Prop} (w : World) (B bW bT bL i : Nat) (code : List Ins) (labs : List Lb) (name : ByteArray) (args : List Int) (Ac Al Aa : Option Addr) (cc cl ca : Nat) (s : St) (val : Int) (ns : List (Int × Int)) (ok : Bool) (s' : St)
    (hC : kIns.C okc w Ac code) (hok : ∀ k, okc k → k < B) (hcl : code.length ≤ 100000) (hL : kLb.C okl w Al labs) (hlb : lbOk labs) (hA : kInt.C oka w Aa args) (hal : args.length ≤ 16) (hW : WAt B bW bT bL s w) (hsl : s.cells.length ≤ 4096)
    (hst : alG code i 500 [] (fr0 (findB labs (nb name)) args args.length) s [] = some (val, ns, ok, s')) :
    Calls Try.prog 25 #[.pointer (some ⟨bW, 0, none⟩), .slice Ac code.length cc, .slice Al labs.length cl, .int .i64 i, .string name, .slice Aa args.length ca] w (AlPost w B bW bT bL val ns ok s') := by
  have HC := Lib.hid hC
  have HLB := Lib.hid hL
  have HOK := Lib.hid hlb
  have HA := Lib.hid hA
  have HW := Lib.hid hW
  have HST := Lib.hid hst
  clear hC hL hlb hA hW hst
  have hsz : (Try.prog.info? 68).map (·.size) = some 17 := by kernel_rfl
  have HSZ := Lib.hid hsz
  clear hsz
  go_enter Try.func25, Try.ntmps25
  go_wp2_with fail
  refine (Find_calls labs name Al cl w HLB.out HOK.out).mono ?_
  rintro e w1 ⟨rfl, rfl⟩
  obtain ⟨at0, hat0⟩ : ∃ x, x = findB labs (nb name) := ⟨_, rfl⟩
  rw [← hat0] at HST ⊢
  clear hat0
  go_upto_region 2 with fail
  have FB := Lib.hid (show FrAt w.heap.size (fr0 at0 args 0) (w.alloc (.cells #[.int .i64 at0, .int .i64 0, .int .i64 0, .int .i64 0, .int .i64 0, .int .i64 0, .int .i64 0, .int .i64 0, .int .i64 0, .int .i64 0, .int .i64 0, .int .i64 0, .int .i64 0, .int .i64 0, .int .i64 0, .int .i64 0, .int .i64 0] 68)) from ⟨Bx.new w (fr0 at0 args 0).enc 68, fr0_len (Nat.zero_le _) hal⟩)
  have BB := Lib.hid (show Below w.heap.size w (w.alloc (.cells #[.int .i64 at0, .int .i64 0, .int .i64 0, .int .i64 0, .int .i64 0, .int .i64 0, .int .i64 0, .int .i64 0, .int .i64 0, .int .i64 0, .int .i64 0, .int .i64 0, .int .i64 0, .int .i64 0, .int .i64 0, .int .i64 0, .int .i64 0] 68)) from (Below.refl _ _).alloc (Nat.le_refl _) _)
  change Code.wp _ _ _ _ (w.alloc (.cells #[.int .i64 at0, .int .i64 0, .int .i64 0, .int .i64 0, .int .i64 0, .int .i64 0, .int .i64 0, .int .i64 0, .int .i64 0, .int .i64 0, .int .i64 0, .int .i64 0, .int .i64 0, .int .i64 0, .int .i64 0, .int .i64 0, .int .i64 0] 68))
  generalize w.alloc (.cells #[.int .i64 at0, .int .i64 0, .int .i64 0, .int .i64 0, .int .i64 0, .int .i64 0, .int .i64 0, .int .i64 0, .int .i64 0, .int .i64 0, .int .i64 0, .int .i64 0, .int .i64 0, .int .i64 0, .int .i64 0, .int .i64 0, .int .i64 0] 68) = y1 at FB BB ⊢
  go_wp2_with fail
  go_loopw [16] (fun iv wr => ∃ k : Nat, iv = .int .i64 k ∧ k ≤ args.length ∧ Hid (FrAt w.heap.size (fr0 at0 args k) wr) ∧ Hid (Below w.heap.size w wr)) (fun iv _ => args.length - (intOf iv).toNat)
  case atStart => exact ⟨0, rfl, Nat.zero_le _, FB, BB⟩
  case round =>
    clear FB BB
    obtain ⟨k, rfl, hk, FB, BB⟩ := hrel
    by_cases hlt : k < args.length
    · have d0 : decide ((k : Int) < (args.length : Int)) = true := decide_eq_true (by omega)
      have d1 : decide ((k : Int) < 16) = true := decide_eq_true (by omega)
      have hat := at_int (HA.out.below BB.out) k hlt
      obtain ⟨ad, rfl, hca⟩ := hat
      have hv : args[k]? = some args[k] := List.getElem?_eq_getElem hlt
      have FB2 := Lib.hid (show FrAt w.heap.size (fr0 at0 args (k + 1)) (wr.setCell ⟨w.heap.size, 1 + k, none⟩ (.int .i64 args[k])) from ⟨by have := FB.out.1.set (1 + k) (.int .i64 args[k]); rwa [fr0_next hlt hal hv] at this, fr0_len hlt hal⟩)
      have BB2 := Lib.hid (below_set (j := 1 + k) (v := .int .i64 args[k]) BB.out (Nat.le_refl _))
      have fz := FB.out.1.ty.frozen (1 + k)
      have cq : wr.cell? ⟨w.heap.size, 1 + k, none⟩ = some (.int .i64 ((fr0 at0 args k).R k)) := FB.out.get (k := k) (by omega)
      have ha1 : (0 : Int) ≤ (k : Int) := by omega
      have ha2 : (k : Int) < 16 := by omega
      generalize args[k] = x at hca FB2 BB2 hv
      clear hv FB BB
      go_wp2_with fail
      go_roundw
      case rel => exact ⟨k + 1, by go_num, by omega, FB2, BB2⟩
      case measure => simp [intOf]; omega
    · have hke : k = args.length := by omega
      have d0 : decide ((k : Int) < (args.length : Int)) = false := decide_eq_false (by omega)
      rw [hke] at FB
      have FB2 := FB
      have BB2 := BB
      clear FB BB hke
      obtain ⟨f0, hf0⟩ : ∃ f0, f0 = fr0 at0 args args.length := ⟨_, rfl⟩
      rw [← hf0] at FB2 HST
      clear hf0
      obtain ⟨a0, fr⟩ := f0
      obtain ⟨r0, r1, r2, r3, r4, r5, r6, r7, r8, r9, r10, r11, r12, r13, r14, r15, hr16⟩ := list16 FB2.out.2
      have hr16 : fr = [r0, r1, r2, r3, r4, r5, r6, r7, r8, r9, r10, r11, r12, r13, r14, r15] := hr16
      subst hr16
      go_upto_region 6 with fail
      have HRG := Lib.hid (show wr.rangeAt w.heap.size 0 [.int .i64 a0, .int .i64 r0, .int .i64 r1, .int .i64 r2, .int .i64 r3, .int .i64 r4, .int .i64 r5, .int .i64 r6, .int .i64 r7, .int .i64 r8, .int .i64 r9, .int .i64 r10, .int .i64 r11, .int .i64 r12, .int .i64 r13, .int .i64 r14, .int .i64 r15] from fun j v hv => by have := FB2.out.1.cell j v hv; rwa [Nat.zero_add])
      have HS1 := Lib.hid (show (Try.prog.info? 68).map (·.size) = some ([.int .i64 a0, .int .i64 r0, .int .i64 r1, .int .i64 r2, .int .i64 r3, .int .i64 r4, .int .i64 r5, .int .i64 r6, .int .i64 r7, .int .i64 r8, .int .i64 r9, .int .i64 r10, .int .i64 r11, .int .i64 r12, .int .i64 r13, .int .i64 r14, .int .i64 r15] : List Value).length from HSZ.out)
      have HFO := Lib.hid (World.ownsRow_lit (base := wr.heap.size) (size := 17) (e := 68) wr #[.int .i64 a0, .int .i64 r0, .int .i64 r1, .int .i64 r2, .int .i64 r3, .int .i64 r4, .int .i64 r5, .int .i64 r6, .int .i64 r7, .int .i64 r8, .int .i64 r9, .int .i64 r10, .int .i64 r11, .int .i64 r12, .int .i64 r13, .int .i64 r14, .int .i64 r15] 1 (Nat.le_refl _) (by decide) rfl)
      go_upto_region 7 with (first | ((refine wpList_load_mid rfl 68 _ rfl w.heap.size 0 rfl _ _ HRG.out Try.underlying68 rfl (by exact HS1.out) ?_)) | fail)
      have BW := Lib.hid (show Below w.heap.size w (wr.alloc (.cells #[.int .i64 a0, .int .i64 r0, .int .i64 r1, .int .i64 r2, .int .i64 r3, .int .i64 r4, .int .i64 r5, .int .i64 r6, .int .i64 r7, .int .i64 r8, .int .i64 r9, .int .i64 r10, .int .i64 r11, .int .i64 r12, .int .i64 r13, .int .i64 r14, .int .i64 r15] 68)) from below_alloc BB2.out _)
      have hwr : w.heap.size ≤ wr.heap.size := BB2.out.size
      generalize wr.alloc (.cells #[.int .i64 a0, .int .i64 r0, .int .i64 r1, .int .i64 r2, .int .i64 r3, .int .i64 r4, .int .i64 r5, .int .i64 r6, .int .i64 r7, .int .i64 r8, .int .i64 r9, .int .i64 r10, .int .i64 r11, .int .i64 r12, .int .i64 r13, .int .i64 r14, .int .i64 r15] 68) = z at BW HFO ⊢
      clear FB2 BB2 HRG HS1
      have HFO2 := Lib.hid (own_mono HFO.out hwr)
      clear HFO
      generalize (.slice (some ⟨wr.heap.size, 0, none⟩) 1 1 : Value) = vf at HFO2 ⊢
      have hBw := HW.out.bB.2.2.2
      have I0 := Lib.hid (show SInv w B bW bT bL vf (.slice none 0 0) [] ⟨a0, [r0, r1, r2, r3, r4, r5, r6, r7, r8, r9, r10, r11, r12, r13, r14, r15]⟩ s [] z from ⟨HFO2.out, World.ownsRow_nil _ _ _ _, HW.out.keep (fun k hk => BW.out.block k hk.lt) BW.out.size, Ch.below BW.out, by simp, hsl, by simp⟩)
      clear HFO2 BW hr16
      generalize (⟨a0, [r0, r1, r2, r3, r4, r5, r6, r7, r8, r9, r10, r11, r12, r13, r14, r15]⟩ : Fr) = f0 at I0 HST
      go_wp2_with fail
      obtain ⟨i1, hi1, hz1, hs1, hbb1⟩ := info_parts info_note
      have hu1 : Try.prog.underlying 36 = some (.slice 40) := Try.underlying36
      go_loopw [17, 18, 19] (fun vf vn iv wr => ∃ (k m : Nat) (rs : List Fr) (f : Fr) (s1 : St) (n1 : List (Int × Int)), iv = .int .i64 k ∧ k + m = 500 ∧ Hid (SInv w B bW bT bL vf vn rs f s1 n1 wr) ∧ Hid (alG code i m rs f s1 n1 = some (val, ns, ok, s')) ∧ n1.length ≤ 200 * k) (fun _ _ iv _ => 500 - (intOf iv).toNat)
      case atStart => exact ⟨0, 500, [], f0, s, [], rfl, rfl, I0, HST, by simp⟩
      case round =>
        clear I0 HST
        obtain ⟨k, m, rs, f, s1, n1, rfl, hk5, I1, HST, hn1⟩ := hrel
        cases m with
        | zero =>
          have hst := HST.out
          rw [alG] at hst
          cases hst
        | succ m =>
          have d5 : decide ((k : Int) < 500) = true := decide_eq_true (by omega)
          have hst := HST.out
          obtain ⟨R, hR, hcase⟩ := alG_step hst
          have HR := Lib.hid hR
          have HCS := Lib.hid hcase
          have HNL := Lib.hid (stepG_notes _ _ _ _ _ _ _ hR)
          clear hst hR hcase HST
          go_wp2_with fail
          refine (step_calls wr B bW bT bL i code Ac cc rs f s1 u17 R (I1.out.ch.old hok (fun _ h => h.elim) HC.out) hok hcl (own_mono I1.out.fo hBw) I1.out.ln I1.out.rl I1.out.wa I1.out.cl HR.out).mono ?_
          rintro e w2 ⟨AF, cF, AN, cN, rfl, hI2⟩
          have I2 := Lib.hid hI2
          have HN2 := Lib.hid (show w2.ownsRow w.heap.size 40 2 u18 n1.length (n1.flatMap noteEnc) from hI2.ch.own I1.out.no (fun _ _ h => h) (by decide) (by decide) (by decide) (by decide))
          have hnl := HNL.out.1
          simp only [List.length_nil, Nat.zero_add] at hnl
          have hzz : w.heap.size ≤ w2.heap.size := Nat.le_trans I1.out.ch.on.size hI2.ch.on.size
          have hlen2 : (R.notes.flatMap noteEnc).length = R.notes.length * 2 := hI2.no.1
          clear hI2
          go_wp2_with (first | (at_builtin; go_loud (refine wpList_append_uni rfl _ _ 36 rfl w.heap.size 40 i1 _ 2 16 hu1 hi1 hz1 hs1 hbb1 rfl (by decide) _ _ _ rfl (by exact HN2.out) _ R.notes.length (R.notes.flatMap noteEnc) rfl hlen2 (by exact src_row I2.out.no (note_one _)) (by unfold maxLen; omega) (by omega) (by omega) ?_)))
          intro A3 c3 w3 o3 g3 h3'
          have I3 := Lib.hid (I1.out.app I2.out o3 g3)
          clear o3 g3 h3' I1 I2 HN2
          have hL : Hid ((n1 ++ R.notes).length = n1.length + R.notes.length) := Lib.hid List.length_append
          go_wp2_with fail
          case roundEnd =>
            go_roundw
            case rel =>
              rcases HCS.out with ⟨a, _⟩ | ⟨a, b, c⟩ | ⟨a, b, _⟩
              · exfalso; simp_all
              · exact ⟨k + 1, m, R.rs, R.f, R.s, n1 ++ R.notes, by go_num, by omega, I3, Lib.hid c, by rw [hL.out]; omega⟩
              · exfalso; simp_all
            case measure => simp [intOf]; omega
          all_goals
            rcases HCS.out with ⟨a, he⟩ | ⟨a, b, c⟩ | ⟨a, b, he⟩
            all_goals first
              | (exfalso; clear HCS; simp_all; done)
              | (simp only [Prod.mk.injEq] at he
                 obtain ⟨rfl, rfl, rfl, rfl⟩ := he
                 refine bodyPost_ret (v := .tuple #[.int .i64 _, .slice A3 (n1.length + R.notes.length) c3, .bool _]) (by simp [results, Try.results25, go_sem]; exact ⟨rfl, rfl⟩) rfl ?_
                 refine ⟨A3, c3, by rw [hL.out], ?_, I3.out.wa, I3.out.ch, I3.out.cl⟩
                 have := I3.out.no
                 rw [hL.out] at this ⊢
                 exact this)
end Go.Proofs.Ytegjkheecbmioaa
