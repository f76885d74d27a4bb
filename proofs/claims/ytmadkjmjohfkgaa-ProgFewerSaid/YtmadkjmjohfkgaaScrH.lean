/- The walk of ProgFewer. -/
import Derived.Test.YtmadkjmjohfkgaaScrG
import Derived.Test.YtmadkjmjohfkgaaScrE
import Derived.BigRegion
namespace Go.Proofs.Ytmadkjmjohfkgaa
open Go.RowKit
set_option linter.unusedVariables false
set_option linter.unusedSimpArgs false

def cutS (s : Scr) (n : Nat) (m : Int) : Scr := ⟨s.objs, s.progs.map (fun l => l.take m.toNat), s.picks.take n⟩
theorem check_cut (s : Scr) (n : Nat) (m : Int) (h : checkE s = none) : checkE (cutS s n m) = none := by
  unfold checkE at h ⊢
  split at h
  · cases h
  split at h
  · cases h
  split at h
  · cases h
  split at h
  · cases h
  split at h
  · cases h
  rename_i h1 h2 h3 h4 h5
  have e1 : ¬ largeB (cutS s n m) = true := by
    simp only [largeB, cutS, Bool.or_eq_true, List.any_eq_true, List.mem_map, decide_eq_true_eq, List.length_map, List.length_take] at h1 ⊢
    intro h
    apply h1
    rcases h with ((⟨x, ⟨l, hl, rfl⟩, h⟩ | h) | h) | h
    · refine .inl (.inl (.inl ⟨l, hl, ?_⟩))
      simp only [List.length_take] at h
      omega
    · exact .inl (.inl (.inr (of_decide_eq_true h)))
    · exact .inl (.inr h)
    · exact .inr (by omega)
  have e2 : ¬ (((cutS s n m).objs.length : Int) = 0 ∨ ((cutS s n m).progs.length : Int) = 0) := by
    simp only [cutS, List.length_map]; exact h2
  have e3 : ¬ (cutS s n m).objs.all objB = false := h3
  have e4 : ¬ (cutS s n m).progs.all (fun l => l.all (fun o => callB o (cutS s n m).objs.length)) = false := by
    simp only [Bool.not_eq_false, List.all_eq_true, cutS, List.mem_map] at h4 ⊢
    rintro x ⟨l, hl, rfl⟩ o ho
    exact h4 l hl o (List.mem_of_mem_take ho)
  have e5 : ¬ (cutS s n m).picks.all pickB = false := by
    simp only [Bool.not_eq_false, List.all_eq_true, cutS] at h5 ⊢
    intro o ho
    exact h5 o (List.mem_of_mem_take ho)
  rw [if_neg e1, if_neg e2, if_neg e3, if_neg e4, if_neg e5]
theorem same_self (s : Scr) : sameB s s = true := by
  simp [sameB]
theorem C_take {α : Type} {d : Kd α} {ok : Nat → Prop} {w : World} {A : Option Addr} {xs : List α} (h : d.C ok w A xs) (n : Nat) : d.C ok w A (xs.take n) := by
  refine ⟨by have := h.1; simp only [List.length_take]; omega, fun hx => ?_⟩
  obtain ⟨ad, e, ho, hc⟩ := h.2 (fun e => hx (by rw [e]; simp))
  refine ⟨ad, e, ho, fun j p hj => hc j p ?_⟩
  rw [List.getElem?_take] at hj
  split at hj
  · exact hj
  · cases hj
def mixP (p : List (List Cl)) (m : Int) (k : Nat) : List (List Cl) := p.mapIdx (fun i l => if i < k then l.take m.toNat else l)
theorem mix_len (p : List (List Cl)) (m : Int) (k : Nat) : (mixP p m k).length = p.length := by simp [mixP]
theorem mix_zero (p : List (List Cl)) (m : Int) : mixP p m 0 = p := by
  apply List.ext_getElem? 
  intro i
  simp [mixP]
theorem mix_all (p : List (List Cl)) (m : Int) : mixP p m p.length = p.map (fun l => l.take m.toNat) := by
  apply List.ext_getElem?
  intro i
  simp only [mixP, List.getElem?_mapIdx, List.getElem?_map]
  cases h : p[i]? with
  | none => rfl
  | some l =>
    have : i < p.length := (List.getElem?_eq_some_iff.1 h).1
    simp [this]
theorem mix_at {p : List (List Cl)} {m : Int} {k i : Nat} {l : List Cl} (h : (mixP p m k)[i]? = some l) : ∃ l0, p[i]? = some l0 ∧ l = if i < k then l0.take m.toNat else l0 := by
  simp only [mixP, List.getElem?_mapIdx, Option.map_eq_some_iff] at h
  obtain ⟨l0, h1, h2⟩ := h
  exact ⟨l0, h1, h2.symm⟩
/-- What the loop over the programs keeps: the rows ahead of k are cut. -/
structure FewInv (B g1 b9 : Nat) (s : Scr) (m : Int) (A0 A1 A2 : Option Addr) (c0 c1 c2 : Nat) (pk : List Pk) (w0 : World) (k : Nat) (wr : World) : Prop where
  q0 : wr.cell? ⟨b9, 0, none⟩ = some (.slice A0 s.objs.length c0)
  q1 : wr.cell? ⟨b9, 1, none⟩ = some (.slice A1 s.progs.length c1)
  q2 : wr.cell? ⟨b9, 2, none⟩ = some (.slice A2 pk.length c2)
  ne : s.progs ≠ [] → b9 ≠ g1
  ge : w0.heap.size ≤ g1
  bl : Below w0.heap.size w0 wr
  own : ScrOwn B g1 wr ⟨s.objs, mixP s.progs m k, pk⟩ A0 A1 A2 c0 c1 c2
theorem few_row {B g1 b9 : Nat} {s : Scr} {m : Int} {A0 A1 A2 : Option Addr} {c0 c1 c2 : Nat} {pk : List Pk} {w0 : World} {k : Nat} {wr : World} (h : FewInv B g1 b9 s m A0 A1 A2 c0 c1 c2 pk w0 k wr) (hk : k < s.progs.length) :
    ∃ l A c, s.progs[k]? = some l ∧ A1 = some ⟨g1, 0, none⟩ ∧ wr.cell? ⟨g1, k, none⟩ = some (.slice A l.length c) ∧ l.length ≤ c ∧ l.length ≤ 9223372036854775807 ∧ wr.frozen? ⟨g1, k, none⟩ = false := by
  have hne : mixP s.progs m k ≠ [] := fun e => by have := mix_len s.progs m k; rw [e] at this; simp at this; omega
  obtain ⟨h1, h2⟩ := h.own.a1 hne
  have hm : (mixP s.progs m k)[k]? = some s.progs[k] := by simp [mixP, List.getElem?_mapIdx, List.getElem?_eq_getElem hk]
  obtain ⟨A, c, h3, h4, h5⟩ := h.own.p k _ hm
  exact ⟨_, A, c, List.getElem?_eq_getElem hk, h1, h3, h4, h5.len, h2.frozen k⟩
theorem FewInv.below {B g1 b9 : Nat} {s : Scr} {m : Int} {A0 A1 A2 : Option Addr} {c0 c1 c2 : Nat} {pk : List Pk} {w0 : World} {k : Nat} {wr w1 : World} (h : FewInv B g1 b9 s m A0 A1 A2 c0 c1 c2 pk w0 k wr) (hb : Below wr.heap.size wr w1) : FewInv B g1 b9 s m A0 A1 A2 c0 c1 c2 pk w0 k w1 :=
  ⟨cell_below_of h.q0 hb, cell_below_of h.q1 hb, cell_below_of h.q2 hb, h.ne, h.ge, below_step h.bl hb, h.own.below hb⟩
theorem few_same {B g1 b9 : Nat} {s : Scr} {m : Int} {A0 A1 A2 : Option Addr} {c0 c1 c2 : Nat} {pk : List Pk} {w0 : World} {k : Nat} {wr : World} (h : FewInv B g1 b9 s m A0 A1 A2 c0 c1 c2 pk w0 k wr) {l : List Cl} (hl : s.progs[k]? = some l) (hm : l.length ≤ m.toNat) :
    FewInv B g1 b9 s m A0 A1 A2 c0 c1 c2 pk w0 (k + 1) wr := by
  have e : mixP s.progs m (k + 1) = mixP s.progs m k := by
    apply List.ext_getElem?
    intro i
    simp only [mixP, List.getElem?_mapIdx]
    cases h9 : s.progs[i]? with
    | none => rfl
    | some x =>
      by_cases hi : i = k
      · subst hi
        rw [hl] at h9
        obtain rfl := Option.some.inj h9
        simp [List.take_of_length_le hm]
      · have : i < k + 1 ↔ i < k := by omega
        simp [this]
  exact ⟨h.q0, h.q1, h.q2, h.ne, h.ge, h.bl, by rw [e]; exact h.own⟩
theorem few_cut {B g1 b9 : Nat} {s : Scr} {m : Int} {A0 A1 A2 A : Option Addr} {c0 c1 c2 c n : Nat} {pk : List Pk} {w0 : World} {k : Nat} {wr : World} (h : FewInv B g1 b9 s m A0 A1 A2 c0 c1 c2 pk w0 k wr) {l : List Cl} (hl : s.progs[k]? = some l) (hm : m.toNat ≤ l.length)
    (hc : wr.cell? ⟨g1, k, none⟩ = some (.slice A l.length c)) (hn : n = m.toNat) :
    FewInv B g1 b9 s m A0 A1 A2 c0 c1 c2 pk w0 (k + 1) (wr.setCell ⟨g1, k, none⟩ (.slice A n c)) := by
  subst hn
  have hk : k < s.progs.length := (List.getElem?_eq_some_iff.1 hl).1
  have hp : s.progs ≠ [] := fun e => by rw [e] at hk; simp at hk
  have hO : Only (fun b => b = g1) wr (wr.setCell ⟨g1, k, none⟩ (.slice A m.toNat c)) := (Only.refl (fun b => b = g1) wr).set (p := ⟨g1, k, none⟩) (.inl rfl) _
  have hne : mixP s.progs m k ≠ [] := fun e => by have := mix_len s.progs m k; rw [e] at this; simp at this; omega
  have hno : ∀ b, (B ≤ b ∧ b ≠ g1) → ¬ b = g1 := fun b hb => hb.2
  refine ⟨hO.cell h.q0 (h.ne hp), hO.cell h.q1 (h.ne hp), hO.cell h.q2 (h.ne hp), h.ne, h.ge, h.bl.trans (hO.below h.bl.size (fun i e => by have e : i = g1 := e; have := h.ge; omega)), ?_⟩
  refine ⟨h.own.o.only hO hno, h.own.ol, fun _ => ⟨(h.own.a1 hne).1, (h.own.a1 hne).2.set _ _⟩, h.own.g, fun i x hx => ?_, by have := h.own.pl; simp only [mix_len] at this ⊢; exact this, by have := h.own.pm; simp only [mix_len] at this ⊢; exact this, h.own.k.only hO hno, h.own.kl⟩
  obtain ⟨l0, h0, rfl⟩ := mix_at hx
  by_cases hi : i = k
  · subst hi
    rw [hl] at h0
    obtain rfl := Option.some.inj h0
    have h9 : (mixP s.progs m i)[i]? = some l := by simp [mixP, List.getElem?_mapIdx, hl]
    obtain ⟨A', c', h1, h2, h3⟩ := h.own.p i _ h9
    rw [hc] at h1
    simp only [Option.some.injEq, Value.slice.injEq] at h1
    obtain ⟨rfl, _, rfl⟩ := h1
    have e : (if i < i + 1 then List.take m.toNat l else l) = l.take m.toNat := by simp
    rw [e]
    refine ⟨A, c, ?_, by simp only [List.length_take]; omega, (C_take h3 _).only hO hno⟩
    rw [cell_set_same hc rfl, List.length_take, Nat.min_eq_left hm]
  · have e : (if i < k + 1 then l0.take m.toNat else l0) = (if i < k then l0.take m.toNat else l0) := by
      have : i < k + 1 ↔ i < k := by omega
      simp [this]
    rw [e]
    obtain ⟨A', c', h1, h2, h3⟩ := h.own.p i (if i < k then l0.take m.toNat else l0) (by simp [mixP, List.getElem?_mapIdx, h0])
    exact ⟨A', c', cell_set_off h1 hi, h2, h3.only hO hno⟩
theorem few_check {B g1 b9 : Nat} {s : Scr} {m : Int} {A0 A1 A2 : Option Addr} {c0 c1 c2 : Nat} {pk : List Pk} {w0 : World} {wr : World} (h : FewInv B g1 b9 s m A0 A1 A2 c0 c1 c2 pk w0 s.progs.length wr)
    (hx : checkE ⟨s.objs, mixP s.progs m s.progs.length, pk⟩ = none) :
    Calls Try.prog 13 #[.agg #[.slice A0 s.objs.length c0, .slice A1 s.progs.length c1, .slice A2 pk.length c2]] wr fun e w' => e = .returned .nilIface ∧ Below wr.heap.size wr w' := by
  have hck := check_calls ⟨s.objs, mixP s.progs m s.progs.length, pk⟩ A0 A1 A2 c0 c1 c2 _ h.own.at
  rw [hx] at hck
  have e : scrV ⟨s.objs, mixP s.progs m s.progs.length, pk⟩ A0 A1 A2 c0 c1 c2 = .agg #[.slice A0 s.objs.length c0, .slice A1 s.progs.length c1, .slice A2 pk.length c2] := by
    unfold scrV
    dsimp only
    rw [mix_len]
  rw [e] at hck
  exact hck
set_option maxHeartbeats 6400000 in
theorem fewer_calls {ok : Nat → Prop} (s : Scr) (A0 A1 A2 : Option Addr) (c0 c1 c2 : Nat) (n m : Int) (w : World) (h : ScrAt ok w s A0 A1 A2 c0 c1 c2) (_ : (Lit.int .i64 n).wf = true) (_ : (Lit.int .i64 m).wf = true) :
    Calls Try.prog 4 #[scrV s A0 A1 A2 c0 c1 c2, .int .i64 n, .int .i64 m] w fun e w' => e = .returned (.bool true) ∧ Below w.heap.size w w' := by
  have hS := Lib.hid h.bound
  clear h
  have ss := Lib.hid (same_self s)
  have W : ∃ W0, W0 = w.alloc (.cells #[.slice A0 s.objs.length c0, .slice A1 s.progs.length c1, .slice A2 s.picks.length c2] 29) := ⟨_, rfl⟩
  obtain ⟨W0, hW0⟩ := W
  have a0 : W0.cell? ⟨w.heap.size, 0, none⟩ = some (.slice A0 s.objs.length c0) := by rw [hW0]; exact box_cell w [_, _, _] _ rfl
  have a1 : W0.cell? ⟨w.heap.size, 1, none⟩ = some (.slice A1 s.progs.length c1) := by rw [hW0]; exact box_cell w [_, _, _] _ rfl
  have a2 : W0.cell? ⟨w.heap.size, 2, none⟩ = some (.slice A2 s.picks.length c2) := by rw [hW0]; exact box_cell w [_, _, _] _ rfl
  have hb0 : Below w.heap.size w W0 := by rw [hW0]; (repeat (with_reducible first | exact Below.refl _ _ | assumption | apply below_alloc | apply below_drewN | apply below_drew1 | (refine below_set ?_ (by simp only [alloc_size]; omega)) | (refine below_step ?_ (by assumption))))
  have hz0 : W0.heap.size = w.heap.size + 1 := by rw [hW0, alloc_size]
  unfold scrV
  go_enter Try.func4, Try.ntmps4
  go_wp2_with fail
  rw [← hW0]
  clear hW0
  refine (up05_calls _).mono ?_
  rintro e w1 ⟨rfl, hb1⟩
  have p0 := cell_below_of a0 hb1
  have p1 := cell_below_of a1 hb1
  have p2 := cell_below_of a2 hb1
  have k1 := below_step hb0 hb1
  go_wp2_with fail
  refine (few_calls s A0 A1 A2 c0 c1 c2 _ (hS.out.below k1)).mono ?_
  rintro e w2 ⟨rfl, hb2⟩
  have k2 := below_step k1 hb2
  by_cases hf : fewB s = true
  case neg =>
    rw [Bool.not_eq_true] at hf
    rw [hf]
    go_wp2
    all_goals
      go_ret
      exact ⟨rfl, by (repeat (with_reducible first | exact Below.refl _ _ | assumption | apply below_alloc | apply below_drewN | apply below_drew1 | (refine below_set ?_ (by simp only [alloc_size]; omega)) | (refine below_step ?_ (by assumption))))⟩
  rw [hf]
  by_cases hn : n < 0
  case pos =>
    go_wp2
    all_goals
      go_ret
      exact ⟨rfl, by (repeat (with_reducible first | exact Below.refl _ _ | assumption | apply below_alloc | apply below_drewN | apply below_drew1 | (refine below_set ?_ (by simp only [alloc_size]; omega)) | (refine below_step ?_ (by assumption))))⟩
  by_cases hm : m < 0
  case pos =>
    go_wp2
    all_goals
      go_ret
      exact ⟨rfl, by (repeat (with_reducible first | exact Below.refl _ _ | assumption | apply below_alloc | apply below_drewN | apply below_drew1 | (refine below_set ?_ (by simp only [alloc_size]; omega)) | (refine below_step ?_ (by assumption))))⟩
  have o0 := cell_below_of p0 hb2
  have o1 := cell_below_of p1 hb2
  have o2 := cell_below_of p2 hb2
  clear p0 p1 p2 a0 a1 a2
  go_wp2_with fail
  refine (copy_calls s A0 A1 A2 c0 c1 c2 _ (hS.out.below k2) hf).mono ?_
  rintro e w3 ⟨B0, B1, B2, d0, d1, d2, rfl, ⟨g1, hO⟩, hb3⟩
  have k3 := below_step k2 hb3
  have O3 := Lib.hid hO
  clear hO
  have p0 := cell_below_of o0 hb3
  have p1 := cell_below_of o1 hb3
  have p2 := cell_below_of o2 hb3
  unfold scrV
  go_wp2_with fail
  have c0' : ∀ (i : Nat) v, [Value.slice B0 s.objs.length d0, .slice B1 s.progs.length d1, .slice B2 s.picks.length d2][i]? = some v → (w3.alloc (.cells #[.slice B0 s.objs.length d0, .slice B1 s.progs.length d1, .slice B2 s.picks.length d2] 29)).cell? ⟨w3.heap.size, i, none⟩ = some v := fun i v h => box_cell w3 [_, _, _] _ h
  have qT : IsT w3.heap.size 29 (w3.alloc (.cells #[.slice B0 s.objs.length d0, .slice B1 s.progs.length d1, .slice B2 s.picks.length d2] 29)) := IsT.new _ _ _
  have hb4 : Below w3.heap.size w3 (w3.alloc (.cells #[.slice B0 s.objs.length d0, .slice B1 s.progs.length d1, .slice B2 s.picks.length d2] 29)) := by (repeat (with_reducible first | exact Below.refl _ _ | assumption | apply below_alloc | apply below_drewN | apply below_drew1 | (refine below_set ?_ (by simp only [alloc_size]; omega)) | (refine below_step ?_ (by assumption))))
  generalize w3.alloc (.cells #[.slice B0 s.objs.length d0, .slice B1 s.progs.length d1, .slice B2 s.picks.length d2] 29) = w4 at c0' qT hb4 ⊢
  have q0 := c0' 0 _ rfl
  have q1 := c0' 1 _ rfl
  have q2 := c0' 2 _ rfl
  have p0 := cell_below_of p0 hb4
  have p1 := cell_below_of p1 hb4
  have p2 := cell_below_of p2 hb4
  clear c0' o0 o1 o2
  refine (check_calls s B0 B1 B2 d0 d1 d2 _ (O3.out.at.below hb4)).mono ?_
  have hce : ∃ ce, ce = checkE s := ⟨_, rfl⟩
  obtain ⟨ce, hce⟩ := hce
  rw [← hce]
  obtain ⟨ev, hev⟩ : ∃ ev, ev = errV ce := ⟨_, rfl⟩
  rw [← hev]
  have HE := Lib.hid hev
  have hH := Lib.hid hce
  clear hev hce
  rintro e w5 ⟨rfl, hb5⟩
  have p0 := cell_below_of p0 hb5
  have p1 := cell_below_of p1 hb5
  have p2 := cell_below_of p2 hb5
  have q0 := cell_below_of q0 hb5
  have q1 := cell_below_of q1 hb5
  have q2 := cell_below_of q2 hb5
  have qT := qT.below hb5
  have k5 := below_step hb4 hb5
  go_wp2_with fail
  refine (same_calls s s B0 B1 B2 A0 A1 A2 d0 d1 d2 c0 c1 c2 _ (O3.out.at.below k5) (hS.out.below (below_step k3 k5))).mono ?_
  rw [ss.out]
  rintro e w6 ⟨rfl, hb6⟩
  have q0 := cell_below_of q0 hb6
  have q1 := cell_below_of q1 hb6
  have q2 := cell_below_of q2 hb6
  have qT := qT.below hb6
  have k6 := below_step k5 hb6
  clear p0 p1 p2 hb4 hb5 hb6 k5
  have hev := HE.out
  clear HE
  rcases ce with _ | ce
  case some =>
    simp only [errV] at hev
    subst hev
    go_wp2
    all_goals
      go_ret
      exact ⟨rfl, below_step k3 k6⟩
  simp only [errV] at hev
  subst hev
  have hkl := O3.out.kl
  have hkn := O3.out.k.len
  have f2 := qT.frozen 2
  have O4 := Lib.hid O3.out
  have hcut := Lib.hid (fun nn mm => check_cut s nn mm (hH.out.symm))
  have hne : Hid (s.progs ≠ [] → w3.heap.size ≠ g1) := Lib.hid (fun h e => by have := (O3.out.a1 h).2.lt; omega)
  have hge := Lib.hid O3.out.g
  have hpl := O3.out.pl
  have hpm := O3.out.pm
  have hb3 := Lib.hid hb3
  clear hH O3 qT ss hb0 hz0 hb1 k1 hb2 hf hS
  have hq : ∃ pk : List Pk, ∃ nn : Nat, pk = s.picks.take nn ∧ nn = if n < s.picks.length then n.toNat else s.picks.length := ⟨_, _, rfl, rfl⟩
  obtain ⟨pk, nn, hpk, hnn⟩ := hq
  have hpk' := Lib.hid hpk
  clear hpk
  by_cases hp : n < s.picks.length
  case' pos =>
    rw [if_pos hp] at hnn
    have hnn' := Lib.hid hnn
    clear hnn
    go_wp2_with fail
    have hI : FewInv w2.heap.size g1 w3.heap.size s m B0 B1 B2 d0 d1 d2 pk w2 0 (w6.setCell ⟨w3.heap.size, 2, none⟩ (.slice B2 n.toNat d2)) := by
      have e := hnn'.out
      have e2 : pk.length = n.toNat := by rw [hpk'.out, List.length_take]; omega
      have hb : Below w3.heap.size w3 (w6.setCell ⟨w3.heap.size, 2, none⟩ (.slice B2 n.toNat d2)) := below_set k6 (Nat.le_refl _)
      have hx := O4.out.below hb
      refine ⟨cell_set_off q0 (by decide), cell_set_off q1 (by decide), by rw [e2]; exact cell_set_same q2 rfl, hne.out, hge.out, below_step hb3.out hb, ?_⟩
      rw [mix_zero]
      exact ⟨hx.o, hx.ol, hx.a1, hx.g, hx.p, hx.pl, hx.pm, by rw [hpk'.out]; exact C_take hx.k _, by have := hx.kl; simp only [e2]; omega⟩
    generalize w6.setCell ⟨w3.heap.size, 2, none⟩ (.slice B2 n.toNat d2) = w7 at hI ⊢
  case' neg =>
    rw [if_neg hp] at hnn
    have hnn' := Lib.hid hnn
    clear hnn
    go_wp2_with fail
    have hI : FewInv w2.heap.size g1 w3.heap.size s m B0 B1 B2 d0 d1 d2 pk w2 0 w6 := by
      have e : pk = s.picks := by rw [hpk'.out, hnn'.out, List.take_length]
      rw [e]
      have hx := O4.out.below k6
      refine ⟨q0, q1, q2, hne.out, hge.out, below_step hb3.out k6, ?_⟩
      rw [mix_zero]
      exact hx
    generalize w6 = w7 at hI ⊢
  all_goals
    clear q0 q1 q2 f2 O4 hge hne hpl hkl hkn
    go_loopw [11] (fun i wr => ∃ k : Nat, k ≤ s.progs.length ∧ i = .int .i64 k ∧ FewInv w2.heap.size g1 w3.heap.size s m B0 B1 B2 d0 d1 d2 pk w2 k wr) (fun i _ => s.progs.length - (intOf i).toNat)
    case atStart => exact ⟨0, Nat.zero_le _, rfl, hI⟩
    case round =>
      clear hI
      obtain ⟨k, hk, rfl, hI⟩ := hrel
      have q1 := hI.q1
      by_cases hlt : k < s.progs.length
      · obtain ⟨l, A, c, hl, hA, hr, hlc, hln, hfr⟩ := few_row hI hlt
        subst hA
        have hl := Lib.hid hl
        have HI := Lib.hid hI
        clear hI
        by_cases hc : m < l.length
        · go_wp2_with fail
          go_region
          go_wp2_with fail
          go_roundw
          case rel => exact ⟨k + 1, by omega, by go_num, (few_cut HI.out hl.out (by omega) hr rfl).below (by (repeat (with_reducible first | exact Below.refl _ _ | assumption | apply below_alloc | apply below_drewN | apply below_drew1 | (refine below_set ?_ (by simp only [alloc_size]; omega)) | (refine below_step ?_ (by assumption)))))⟩
          case measure => simp [intOf]; omega
        · go_wp2_with fail
          go_roundw
          case rel => exact ⟨k + 1, by omega, by go_num, few_same HI.out hl.out (by omega)⟩
          case measure => simp [intOf]; omega
      · obtain rfl : k = s.progs.length := by omega
        have q0 := hI.q0
        have q2 := hI.q2
        have HI := Lib.hid hI
        clear hI
        go_wp2_with fail
        have hx : checkE ⟨s.objs, mixP s.progs m s.progs.length, pk⟩ = none := by rw [mix_all, hpk'.out]; exact hcut.out nn m
        refine (few_check HI.out hx).mono ?_
        clear hx
        rintro e w8 ⟨rfl, hb8⟩
        have k8 := below_step k2 (below_step HI.out.bl hb8)
        go_wp2_with fail
        all_goals
          go_ret
          exact ⟨rfl, k8⟩
end Go.Proofs.Ytmadkjmjohfkgaa
