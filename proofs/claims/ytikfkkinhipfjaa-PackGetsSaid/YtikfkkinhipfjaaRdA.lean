/- The walks of pack.reader's number and bool. -/
import Derived.Test.YtikfkkinhipfjaaRdP
import Derived.Test.YtikfkkinhipfjaaMix
namespace Go.Proofs.Ytikfkkinhipfjaa
open Go.RowKit Go.ChangeShapes
set_option linter.unusedVariables false
set_option linter.unusedSimpArgs false

def kByte : Kd Nat := Kd.fn 1 (fun x => [byteV x]) (fun _ => rfl) (by intro x u hu; rw [List.mem_singleton.1 hu]; rfl) (by decide)
theorem at_byte {ok : Nat → Prop} {w : World} {A : Option Addr} {xs : List Nat} (h : kByte.C ok w A xs) (i : Nat) (hi : i < xs.length) : ∃ ad n, A = some ad ∧ xs[i]? = some n ∧ w.cell? (ad.add i) = some (.int .u8 n) ∧ ok ad.block := by
  obtain ⟨ad, c, e, hk, hK, hc⟩ := h.get i hi
  obtain rfl : c = [byteV xs[i]] := hK
  exact ⟨ad, xs[i], e, List.getElem?_eq_getElem hi, by have hq := hc 0 _ rfl; rwa [show i * kByte.sz + 0 = i from by simp [kByte, Kd.fn]] at hq, hk⟩
/-- A reader at its block r: some l: l is still to be read; none: something is amiss. -/
def RdAt (ok : Nat → Prop) (r : Nat) (w : World) : Option (List Nat) → Prop
  | none => (∃ v, w.cell? ⟨r, 0, none⟩ = some v) ∧ w.cell? ⟨r, 1, none⟩ = some (.bool true) ∧ IsT r 65 w
  | some l => ∃ A c, w.cell? ⟨r, 0, none⟩ = some (.slice A l.length c) ∧ w.cell? ⟨r, 1, none⟩ = some (.bool false) ∧ IsT r 65 w ∧ l.length ≤ c ∧ kByte.C ok w A l ∧ (∀ x ∈ l, x < 256) ∧ ¬ ok r
set_option maxRecDepth 100000 in
set_option maxHeartbeats 3200000 in
theorem rnumber_bad {ok : Nat → Prop} (r : Nat) (w : World) (h : RdAt ok r w none) :
    Calls Try.prog 28 #[.pointer (some ⟨r, 0, none⟩)] w fun e w' => e = .returned (.int .i64 0) ∧ RdAt ok r w' none ∧ Only (· = r) w w' := by
  obtain ⟨⟨v, h0⟩, h1, hT⟩ := h
  have hf := hT.frozen 1
  go_enter Try.func28, Try.ntmps28
  go_wp2_with fail
  go_loopw [3, 4] (fun u i wr => u = .int .u64 0 ∧ i = .int .i64 0 ∧ w = wr) (fun _ _ _ => 0)
  case atStart => exact ⟨rfl, rfl, rfl⟩
  case round =>
    obtain ⟨rfl, rfl, rfl⟩ := hrel
    go_wp2_with fail
    go_ret
    exact ⟨rfl, ⟨⟨v, cell_set_off h0 (by decide)⟩, cell_set_same h1 rfl, hT.set _ _⟩, Only.set (S := (· = r)) (Only.refl _ _) (.inl rfl) _⟩
theorem rd_step {ok : Nat → Prop} {r c x : Nat} {wr : World} {ad : Addr} {A' : Option Addr} {l' : List Nat} (hT : IsT r 65 wr) (h0 : wr.cell? ⟨r, 0, none⟩ = some (.slice (some ad) (l'.length + 1) c)) (h1 : wr.cell? ⟨r, 1, none⟩ = some (.bool false))
    (hC : kByte.C ok wr (some ad) (x :: l')) (hx : ∀ y ∈ x :: l', y < 256) (hc : l'.length + 1 ≤ c) (hr : ¬ ok r) (hA : (if c = 1 then some ad else some ⟨ad.block, ad.off + 1, none⟩) = A') : RdAt ok r (wr.setCell ⟨r, 0, none⟩ (.slice A' l'.length (c - 1))) (some l') := by
  refine ⟨A', c - 1, cell_set_same h0 rfl, cell_set_off h1 (by decide), hT.set _ _, by omega, ?_, fun y hy => hx y (by simp [hy]), hr⟩
  have hl := hC.len
  refine ⟨by simp at hl; omega, fun hne => ?_⟩
  have hc1 : c ≠ 1 := by
    have := List.length_pos_iff.2 hne
    omega
  rw [if_neg hc1] at hA
  subst hA
  obtain ⟨ad', e, ho, hcc⟩ := hC.2 (by simp)
  obtain rfl := Option.some.inj e
  refine ⟨_, rfl, ho, fun j p hj => ?_⟩
  obtain ⟨cs, hK, hcell⟩ := hcc (j + 1) p (by simpa using hj)
  refine ⟨cs, hK, fun i u hu => ?_⟩
  have := hcell i u hu
  have e : ad.add ((j + 1) * kByte.sz + i) = Addr.add ⟨ad.block, ad.off + 1, none⟩ (j * kByte.sz + i) := by
    have : kByte.sz = 1 := rfl
    rw [this]
    have h2 := add_field ad (j + i) 1 (by decide)
    unfold Addr.add
    rw [if_neg (by omega)]
    split
    · rename_i h0; rw [show (j + 1) * 1 + i = 1 by omega]
    · simp; omega
  rw [e] at this
  refine cell_set_of this ?_
  rw [add_block]
  exact fun h => hr (by have h' : ad.block = r := h; rw [← h']; exact ho)
/-- What the loop over a number's bytes keeps. -/
structure RdInv (ok : Nat → Prop) (r : Nat) (w : World) (l0 : List Nat) (k U : Nat) (l : List Nat) (wr : World) : Prop where
  at_ : RdAt ok r wr (some l)
  e : rdN 0 0 l0 = rdN k U l
  lt : U < 128 ^ k
  k10 : k ≤ 10
  on : Only (· = r) w wr
set_option maxRecDepth 100000 in
set_option maxHeartbeats 3200000 in
theorem rnumber_some {ok : Nat → Prop} (r : Nat) (w : World) (l : List Nat) (h : RdAt ok r w (some l)) :
    Calls Try.prog 28 #[.pointer (some ⟨r, 0, none⟩)] w fun e w' => e = .returned (.int .i64 (rdNum (some l)).1) ∧ RdAt ok r w' (rdNum (some l)).2 ∧ Only (· = r) w w' := by
  go_enter Try.func28, Try.ntmps28
  go_wp2_with fail
  go_loopw [3, 4] (fun u i wr => ∃ (k U : Nat) (l' : List Nat), u = .int .u64 U ∧ i = .int .i64 k ∧ RdInv ok r w l k U l' wr) (fun _ i _ => 10 - (intOf i).toNat)
  case atStart => exact ⟨0, 0, l, rfl, rfl, h, rfl, by decide, by decide, Only.refl _ _⟩
  case round =>
    clear h
    obtain ⟨k, U, l', rfl, rfl, hI⟩ := hrel
    obtain ⟨A, c, h0, h1, hT, hc, hC, hx, hr⟩ := hI.at_
    have hl := hC.len
    have hk := hI.k10
    have hf := hT.frozen 1
    have hf0 := hT.frozen 0
    by_cases hk10 : k = 10
    · have hd : decide ((k : Int) < 10) = false := by simp; omega
      have hE : Hid (rdNum (some l) = (0, none)) := Lib.hid (by simp only [rdNum, hI.e, rdN_ten k U l' (by omega)])
      go_wp2_with fail
      go_ret
      rw [hE.out]
      exact ⟨rfl, ⟨⟨_, cell_set_off h0 (by decide)⟩, cell_set_same h1 rfl, hT.set _ _⟩, hI.on.set (.inl rfl) _⟩
    · have hk9 : k < 10 := by omega
      have hd : decide ((k : Int) < 10) = true := by simp; omega
      cases l' with
      | nil =>
        have hE : Hid (rdNum (some l) = (0, none)) := Lib.hid (by simp only [rdNum, hI.e, rdN_nil k U])
        go_wp2_with fail
        go_ret
        rw [hE.out]
        exact ⟨rfl, ⟨⟨_, cell_set_off h0 (by decide)⟩, cell_set_same h1 rfl, hT.set _ _⟩, hI.on.set (.inl rfl) _⟩
      | cons x l' =>
        obtain ⟨ad, n, rfl, hn, hcell, hok⟩ := at_byte hC 0 (by simp)
        obtain rfl : x = n := by simpa using hn
        clear hn
        rw [show ad.add 0 = ad from by simp [Addr.add]] at hcell
        have hx256 := hx x (by simp)
        simp only [List.length_cons] at h0 hc hl
        obtain ⟨A', hA'⟩ : ∃ A', (if c = 1 then some ad else some ⟨ad.block, ad.off + 1, none⟩) = A' := ⟨_, rfl⟩
        have hat : RdAt ok r (wr.setCell ⟨r, 0, none⟩ (.slice A' l'.length (c - 1))) (some l') := rd_step hT h0 h1 hC hx hc hr hA'
        have hon : Only (· = r) w (wr.setCell ⟨r, 0, none⟩ (.slice A' l'.length (c - 1))) := hI.on.set (.inl rfl) _
        have he := Lib.hid hI.e
        have hlt := hI.lt
        have Hat := Lib.hid hat
        have Hon := Lib.hid hon
        clear hat hon hI hx hC hok
        have hat0 := Hat.out
        obtain ⟨_, _, hq0', hq1', hqT', _, _, _, _⟩ := hat0
        have hq0 := Lib.hid hq0'
        have hq1 := Lib.hid hq1'
        have hqT := Lib.hid hqT'
        clear hq0' hq1' hqT'
        have hfs := IsT.frozen hqT.out 1
        by_cases hs : (x = 0 ∧ 0 < k) ∨ (1 < x ∧ k = 9)
        · have hE : Hid (rdNum (some l) = (0, none)) := Lib.hid (by simp only [rdNum, he.out, rdN_stop k U x l' hs])
          rcases hs with ⟨g1, g2⟩ | ⟨g1, g2⟩
          · have e1 : ((x : Int) == 0) = true := by simp [g1]
            clear g1
            go_wp2_with fail
            go_ret
            rw [hE.out]
            exact ⟨rfl, ⟨⟨_, cell_set_off hq0.out (by decide)⟩, cell_set_same hq1.out rfl, hqT.out.set _ _⟩, Hon.out.set (.inl rfl) _⟩
          · have e1 : ((x : Int) == 0) = false := by simp; omega
            have e2 : ((k : Int) == 9) = true := by simp; omega
            clear g2
            go_wp2_with fail
            go_ret
            rw [hE.out]
            exact ⟨rfl, ⟨⟨_, cell_set_off hq0.out (by decide)⟩, cell_set_same hq1.out rfl, hqT.out.set _ _⟩, Hon.out.set (.inl rfl) _⟩
        · have hs' := Lib.hid hs
          have hb := Lib.hid (rd_bound (x := x) hk9 hlt (by omega))
          have H2 := Lib.hid (rd_unzig hb.out.2)
          have hE1 : x < 128 → Hid (rdNum (some l) = (unzig (U + x % 128 * 128 ^ k), some l')) := fun h => Lib.hid (by simp only [rdNum, he.out, rdN_last k U x l' hk9 hs'.out h, Nat.mod_eq_of_lt h])
          have hE2 : 128 ≤ x → Hid (rdN 0 0 l = rdN (k + 1) (U + x % 128 * 128 ^ k) l') := fun h => Lib.hid (by rw [he.out, rdN_more k U x l' hk9 hs'.out h])
          by_cases hk0 : k = 0
          · have H1 : Hid (_ = ((U + x % 128 * 128 ^ k : Nat) : Int)) := Lib.hid (by subst hk0; exact rd_or0 hlt hx256)
            subst hk0
            by_cases hx0 : x = 0
            · have e1 : ((x : Int) == 0) = true := by simp [hx0]
              have e3 : ¬ 1 < x := by omega
              have e4 : x < 128 := by omega
              have hE := hE1 e4
              clear hx0 hE1 hE2 hs
              go_wp2_with fail
              go_ret
              rw [hE.out]
              exact ⟨by rw [H1.out, H2.out]; rfl, Hat.out, Hon.out⟩
            · have e1 : ((x : Int) == 0) = false := by simp; omega
              clear hs
              by_cases e4 : x < 128
              · have hE := hE1 e4
                clear hx0 hE1 hE2
                by_cases e3 : 1 < x
                all_goals
                  go_wp2_with fail
                  go_ret
                  rw [hE.out]
                  exact ⟨by rw [H1.out, H2.out]; rfl, Hat.out, Hon.out⟩
              · have hE := hE2 (by omega)
                have e3 : 1 < x := by omega
                clear hx0 hE1 hE2
                go_wp2_with fail
                go_roundw
                case rel => exact ⟨0 + 1, _, l', by rw [H1.out], by go_num, Hat.out, hE.out, hb.out.1, by omega, Hon.out⟩
                case measure => simp [intOf]
          · have hk1 : 0 < k := by omega
            have e1 : ((x : Int) == 0) = false := by simp; omega
            have H1 := Lib.hid (rd_or (x := x) hk9 hlt hx256 (by omega))
            by_cases e3 : 1 < x
            · have e2 : ((k : Int) == 9) = false := by simp; omega
              clear hs hk0
              by_cases e4 : x < 128
              · have hE := hE1 e4
                clear hE1 hE2
                go_wp2_with fail
                go_ret
                rw [hE.out]
                exact ⟨by rw [H1.out, H2.out]; rfl, Hat.out, Hon.out⟩
              · have hE := hE2 (by omega)
                clear hE1 hE2
                go_wp2_with fail
                go_roundw
                case rel => exact ⟨k + 1, _, l', by rw [H1.out], by go_num, Hat.out, hE.out, hb.out.1, by omega, Hon.out⟩
                case measure => simp [intOf]; omega
            · have e4 : x < 128 := by omega
              have hE := hE1 e4
              clear hs hk0 hE1 hE2
              go_wp2_with fail
              go_ret
              rw [hE.out]
              exact ⟨by rw [H1.out, H2.out]; rfl, Hat.out, Hon.out⟩
end Go.Proofs.Ytikfkkinhipfjaa
