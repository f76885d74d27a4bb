/- The walk of the reference's Copy. -/
import Derived.Test.YtikfkkinhipfjaaScrF
import Derived.Test.YtikfkkinhipfjaaApp
import Derived.Test.YtikfkkinhipfjaaReg
import Derived.Deep.DeepCutAuto
import Derived.Deep.CutBlock
import Derived.Deep.RegionHeld3
namespace Go.Proofs.Ytikfkkinhipfjaa
open Go.RowKit
set_option linter.unusedVariables false
set_option linter.unusedSimpArgs false
variable {ok ok' : Nat → Prop}

theorem info_ob : (Try.prog.info? 48).map (fun i => (i.zero, i.size, i.bytes)) = some (some (.agg #[(.int .i64 0), (.bool false), (.int .i64 0)]), 3, 24) := by kernel_rfl
theorem info_cl : (Try.prog.info? 54).map (fun i => (i.zero, i.size, i.bytes)) = some (some (.agg #[(.int .i64 0), (.int .i64 0), (.int .i64 0), (.int .i64 0), (.bool false)]), 5, 40) := by kernel_rfl
theorem info_pk : (Try.prog.info? 56).map (fun i => (i.zero, i.size, i.bytes)) = some (some (.agg #[(.int .i64 0), (.int .i64 0)]), 2, 16) := by kernel_rfl
theorem info_cs : (Try.prog.info? 49).map (fun i => (i.zero, i.size, i.bytes)) = some (some (.slice none 0 0), 1, 24) := by kernel_rfl
/-- A block from B + 2 on that is neither g nor v's. -/
def Apart (B g : Nat) (v : Value) (b : Nat) : Prop := B + 2 ≤ b ∧ b ≠ g ∧ some b ≠ v.ownBlock
/-- The struct that is made: what its first and third fields hold. -/
structure GAt (s : Scr) (g : Nat) (A3 A4 : Option Addr) (c3 c4 : Nat) (w : World) : Prop where
  g0 : w.cell? ⟨g, 0, none⟩ = some (.slice A3 s.objs.length c3)
  g2 : w.cell? ⟨g, 2, none⟩ = some (.slice A4 s.picks.length c4)
  gT : IsT g 26 w
theorem GAt.only {s : Scr} {g : Nat} {A3 A4 : Option Addr} {c3 c4 : Nat} {w w1 : World} (h : GAt s g A3 A4 c3 c4 w) {S : Nat → Prop} (hO : Only S w w1) (hs : ¬ S g) : GAt s g A3 A4 c3 c4 w1 :=
  ⟨hO.cell h.g0 hs, hO.cell h.g2 hs, h.gT.keep (hO.block g h.gT.lt hs)⟩
theorem GAt.below {s : Scr} {g : Nat} {A3 A4 : Option Addr} {c3 c4 : Nat} {w w1 : World} (h : GAt s g A3 A4 c3 c4 w) (hO : Below w.heap.size w w1) : GAt s g A3 A4 c3 c4 w1 :=
  h.only (S := fun _ => False) (Only.of_below hO) id
theorem GAt.set {s : Scr} {g : Nat} {A3 A4 : Option Addr} {c3 c4 : Nat} {w : World} (h : GAt s g A3 A4 c3 c4 w) (u : Value) : GAt s g A3 A4 c3 c4 (w.setCell ⟨g, 1, none⟩ u) :=
  ⟨cell_set_off h.g0 (by decide), cell_set_off h.g2 (by decide), h.gT.set _ _⟩
structure CopyInv (B g : Nat) (s : Scr) (A3 A4 : Option Addr) (c3 c4 : Nat) (X2 : World) (k : Nat) (wr : World) (v1 : Value) (hdrs : List Value) : Prop where
  ga : GAt s g A3 A4 c3 c4 wr
  g1 : wr.cell? ⟨g, 1, none⟩ = some v1
  k3 : kOb.C (Apart B g v1) wr A3 s.objs
  k4 : kPk.C (Apart B g v1) wr A4 s.picks
  bl : Below X2.heap.size X2 wr
  own : wr.ownsRow (B + 2) 49 1 v1 k hdrs
  row : ∀ (i : Nat) l, i < k → s.progs[i]? = some l → ∃ A c, hdrs[i]? = some (.slice A l.length c) ∧ l.length ≤ c ∧ kCl.C (Apart B g v1) wr A l
theorem copy_next {w wr wx X2 : World} {g k : Nat} {s : Scr} {A3 A4 A7 A : Option Addr} {c3 c4 c7 c : Nat} {v1 : Value} {hdrs : List Value} {l : List Cl} (hI : CopyInv w.heap.size g s A3 A4 c3 c4 X2 k wr v1 hdrs)
    (hR : Only (fun b => b = g ∨ some b = v1.ownBlock) wr.drew wx) (hX2 : Below w.heap.size w X2) (hS2 : X2.heap.size = w.heap.size + 2) (hg : w.heap.size + 2 ≤ g) (hvb : ∀ b, v1.ownBlock = some b → w.heap.size + 2 ≤ b) (hvl : ∀ b, v1.ownBlock = some b → b < wr.heap.size) (hgl : g < wr.heap.size)
    (ho : s.progs[k]? = some l) (zG : GAt s g A3 A4 c3 c4 wx) (z1 : wx.cell? ⟨g, 1, none⟩ = some (.slice A7 (k + 1) c7)) (zo : wx.ownsRow (w.heap.size + 2) 49 1 (.slice A7 (k + 1) c7) (k + 1) (hdrs ++ [.slice A l.length c]))
    (z7 : (Value.slice A7 (k + 1) c7).ownBlock = v1.ownBlock ∨ ∃ b, (Value.slice A7 (k + 1) c7).ownBlock = some b ∧ wr.heap.size ≤ b) (zl : l.length ≤ c) (zC : kCl.C (fun b => wr.heap.size ≤ b ∧ some b ≠ (Value.slice A7 (k + 1) c7).ownBlock) wx A l) :
    CopyInv w.heap.size g s A3 A4 c3 c4 X2 (k + 1) wx (.slice A7 (k + 1) c7) (hdrs ++ [.slice A l.length c]) := by
  have hR' : Only (fun b => b = g ∨ some b = v1.ownBlock) wr wx := ((Only.refl _ wr).drew).trans hR
  have hno : ∀ b, (Apart w.heap.size g v1 b ∧ b < wr.heap.size) → ¬ (b = g ∨ some b = v1.ownBlock) := fun b hb h => by
    rcases h with h | h
    · exact hb.1.2.1 h
    · exact hb.1.2.2 h
  have hnx : ∀ b, (Apart w.heap.size g v1 b ∧ b < wr.heap.size) → Apart w.heap.size g (.slice A7 (k + 1) c7) b := fun b hb => ⟨hb.1.1, hb.1.2.1, fun e => by
    rcases z7 with h | ⟨b', h, h8⟩
    · rw [h] at e; exact hb.1.2.2 e
    · rw [h] at e; obtain rfl := Option.some.inj e; exact Nat.lt_irrefl _ (Nat.lt_of_lt_of_le hb.2 h8)⟩
  have hlo : hdrs.length = k := by have := hI.own.1; omega
  refine ⟨zG, z1, (hI.k3.bound.only hR' hno).mono hnx, (hI.k4.bound.only hR' hno).mono hnx, hI.bl.trans (hR'.below hI.bl.size (fun i h => ?_)), zo, ?_⟩
  · rw [hS2]
    rcases h with h | h
    · omega
    · exact hvb _ h.symm
  · intro i l' hi hl'
    by_cases e : i = k
    · subst e
      rw [ho] at hl'
      obtain rfl := Option.some.inj hl'
      refine ⟨A, c, ?_, zl, zC.mono (fun b hb => ⟨?_, ?_, hb.2⟩)⟩
      · rw [List.getElem?_append_right (by omega), hlo, Nat.sub_self]; rfl
      · have := hI.bl.size; omega
      · omega
    · obtain ⟨A', c', h1, h2, h3⟩ := hI.row i l' (by omega) hl'
      exact ⟨A', c', by rw [List.getElem?_append_left (by omega)]; exact h1, h2, (h3.bound.only hR' hno).mono hnx⟩
/-- A script in memory of its own: g1 holds the headers of its programs, and nothing else of it lies there. -/
structure ScrOwn (B g1 : Nat) (w : World) (s : Scr) (A0 A1 A2 : Option Addr) (c0 c1 c2 : Nat) : Prop where
  o : kOb.C (fun b => B ≤ b ∧ b ≠ g1) w A0 s.objs
  ol : s.objs.length ≤ c0
  a1 : s.progs ≠ [] → A1 = some ⟨g1, 0, none⟩ ∧ IsT g1 49 w
  g : B ≤ g1
  p : ∀ (i : Nat) l, s.progs[i]? = some l → ∃ A c, w.cell? ⟨g1, i, none⟩ = some (.slice A l.length c) ∧ l.length ≤ c ∧ kCl.C (fun b => B ≤ b ∧ b ≠ g1) w A l
  pl : s.progs.length ≤ c1
  pm : s.progs.length ≤ 9223372036854775807
  k : kPk.C (fun b => B ≤ b ∧ b ≠ g1) w A2 s.picks
  kl : s.picks.length ≤ c2
theorem ScrOwn.at {B g1 : Nat} {w : World} {s : Scr} {A0 A1 A2 : Option Addr} {c0 c1 c2 : Nat} (h : ScrOwn B g1 w s A0 A1 A2 c0 c1 c2) : ScrAt (B ≤ ·) w s A0 A1 A2 c0 c1 c2 := by
  refine ⟨h.o.mono (fun b hb => hb.1), h.ol, ⟨h.pm, fun hx => ⟨_, (h.a1 hx).1, h.g, fun j l hj => ?_⟩⟩, h.pl, h.k.mono (fun b hb => hb.1), h.kl⟩
  obtain ⟨A, c, h1, h2, h3⟩ := h.p j l hj
  refine ⟨_, ⟨A, c, rfl, h2, h3.mono (fun b hb => hb.1)⟩, fun i u hu => ?_⟩
  rcases i with _ | i
  · simp only [List.getElem?_cons_zero, Option.some.injEq] at hu
    subst hu
    have e : (Addr.mk g1 0 none).add (j * (Kd.slice kCl).sz + 0) = ⟨g1, j, none⟩ := by simp [Kd.slice, Addr.add]; try omega
    rw [e]; exact h1
  · simp at hu
theorem ScrOwn.below {B g1 : Nat} {w w1 : World} {s : Scr} {A0 A1 A2 : Option Addr} {c0 c1 c2 : Nat} (h : ScrOwn B g1 w s A0 A1 A2 c0 c1 c2) (hb : Below w.heap.size w w1) : ScrOwn B g1 w1 s A0 A1 A2 c0 c1 c2 := by
  refine ⟨h.o.below hb, h.ol, fun hx => ⟨(h.a1 hx).1, (h.a1 hx).2.below hb⟩, h.g, fun i l hi => ?_, h.pl, h.pm, h.k.below hb, h.kl⟩
  obtain ⟨A, c, h1, h2, h3⟩ := h.p i l hi
  exact ⟨A, c, cell_below_of h1 hb, h2, h3.below hb⟩
theorem copy_done {w wr X2 : World} {g : Nat} {s : Scr} {A3 A4 A1 : Option Addr} {c3 c4 c1 n : Nat} {hdrs : List Value} (hI : CopyInv w.heap.size g s A3 A4 c3 c4 X2 s.progs.length wr (.slice A1 n c1) hdrs)
    (hX2 : Below w.heap.size w X2) (hS2 : X2.heap.size = w.heap.size + 2) (l3 : s.objs.length ≤ c3) (l4 : s.picks.length ≤ c4) (hp : s.progs.length ≤ 100) (hg : w.heap.size + 2 ≤ g) (x0 x1 x2 : Value) :
    ∃ W, W = ((wr.setCell ⟨w.heap.size + 1, 0, none⟩ x0).setCell ⟨w.heap.size + 1, 1, none⟩ x1).setCell ⟨w.heap.size + 1, 2, none⟩ x2 ∧ n = s.progs.length ∧ (∃ g1, ScrOwn w.heap.size g1 W s A3 A1 A4 c3 c1 c4) ∧ Below w.heap.size w W := by
  have hO : Only (fun b => b = w.heap.size + 1) wr (((wr.setCell ⟨w.heap.size + 1, 0, none⟩ x0).setCell ⟨w.heap.size + 1, 1, none⟩ x1).setCell ⟨w.heap.size + 1, 2, none⟩ x2) :=
    (((Only.refl (fun b => b = w.heap.size + 1) wr).set (p := ⟨w.heap.size + 1, 0, none⟩) (.inl rfl) x0).set (p := ⟨w.heap.size + 1, 1, none⟩) (.inl rfl) x1).set (p := ⟨w.heap.size + 1, 2, none⟩) (.inl rfl) x2
  have hlo : hdrs.length = s.progs.length := by have := hI.own.1; omega
  have hno : ∀ b, Apart w.heap.size g (.slice A1 n c1) b → ¬ b = w.heap.size + 1 := fun b hb e => by have := hb.1; omega
  have hn : n = s.progs.length := by
    rcases hI.own.2 with ⟨h, h0⟩ | ⟨_, _, _, h, _⟩
    · simp at h; omega
    · simp at h; exact h.2.1
  have hbl := below_step hX2 hI.bl
  refine ⟨_, rfl, hn, ?_, hbl.trans (hO.below hbl.size (fun i e => by have e : i = w.heap.size + 1 := e; omega))⟩
  rcases hI.own.2 with ⟨h, h0⟩ | ⟨g1, cap, cur, h, hg1, hh, hnc, hcm, hcs, ht⟩
  · have hp0 : s.progs = [] := by simpa using h0
    have hc1 : s.progs.length ≤ c1 := by simp only [Value.slice.injEq] at h; omega
    have hq : ∀ b, (Apart w.heap.size g (.slice A1 n c1) b ∧ b < wr.heap.size) → (w.heap.size ≤ b ∧ b ≠ wr.heap.size) := fun b hb => ⟨by have := hb.1.1; omega, by have := hb.2; omega⟩
    exact ⟨wr.heap.size, (hI.k3.bound.only hO (fun b hb => hno b hb.1)).mono hq, l3, fun h => absurd hp0 h, hbl.size, fun i l hi => by rw [hp0] at hi; simp at hi, hc1, by omega, (hI.k4.bound.only hO (fun b hb => hno b hb.1)).mono hq, l4⟩
  · simp only [Value.slice.injEq] at h
    obtain ⟨rfl, _, rfl⟩ := h
    have hh' := (hO.block g1 (Array.getElem?_eq_some_iff.1 hh).1 (by omega)).trans hh
    have hq : ∀ b, Apart w.heap.size g (.slice (some ⟨g1, 0, none⟩) n c1) b → (w.heap.size ≤ b ∧ b ≠ g1) := fun b hb => ⟨by have := hb.1; omega, fun e => hb.2.2 (by rw [e]; rfl)⟩
    refine ⟨g1, (hI.k3.only hO hno).mono hq, l3, fun _ => ⟨rfl, cur, hh'⟩, by omega, fun i l hi => ?_, by omega, by omega, (hI.k4.only hO hno).mono hq, l4⟩
    have hi' : i < s.progs.length := (List.getElem?_eq_some_iff.1 hi).1
    obtain ⟨A', c', h1, h2, h3⟩ := hI.row i l hi' hi
    refine ⟨A', c', ?_, h2, (h3.only hO hno).mono hq⟩
    rw [← ht, Nat.mul_one, List.getElem?_take_of_lt (by omega)] at h1
    have h1 : cur[i]? = some (.slice A' l.length c') := by simpa using h1
    simp [World.cell?, hh', h1]
set_option maxRecDepth 100000 in
set_option maxHeartbeats 6400000 in
theorem copy_calls (s : Scr) (A0 A1 A2 : Option Addr) (c0 c1 c2 : Nat) (w : World) (h : ScrAt ok w s A0 A1 A2 c0 c1 c2) (hf : fewB s = true) :
    Calls Try.prog 17 #[scrV s A0 A1 A2 c0 c1 c2] w fun e w' => ∃ A0 A1 A2 c0 c1 c2, e = .returned (scrV s A0 A1 A2 c0 c1 c2) ∧ (∃ g1, ScrOwn w.heap.size g1 w' s A0 A1 A2 c0 c1 c2) ∧ Below w.heap.size w w' := by
  have hl : s.objs.length ≤ 100 ∧ s.progs.length ≤ 100 ∧ s.picks.length ≤ 8000 := by simp only [fewB, Bool.and_eq_true, decide_eq_true_eq] at hf; exact hf.1
  obtain ⟨l0, l1, l2⟩ := hl
  have hfl : ∀ (i : Nat) l, s.progs[i]? = some l → l.length ≤ 100 := by
    intro i l h
    simp only [fewB, Bool.and_eq_true, List.all_eq_true, decide_eq_true_eq] at hf
    exact hf.2 l (List.mem_of_getElem? h)
  have hfl := Lib.hid hfl
  have hS := Lib.hid h.bound
  clear h
  obtain ⟨i0, hi0, hz0, hs0, hb0⟩ := info_parts info_ob
  obtain ⟨i1, hi1, hz1, hs1, hb1⟩ := info_parts info_pk
  unfold scrV
  go_enter Try.func17, Try.ntmps17
  have u0 : Try.prog.underlying 22 = some (.slice 48) := Try.underlying22
  have u1 : Try.prog.underlying 24 = some (.slice 56) := Try.underlying24
  have a0 : ((w.alloc (.cells #[.slice A0 s.objs.length c0, .slice A1 s.progs.length c1, .slice A2 s.picks.length c2] 26)).alloc (.cells #[.slice none 0 0, .slice none 0 0, .slice none 0 0] 26)).cell? ⟨w.heap.size, 0, none⟩ = some (.slice A0 s.objs.length c0) := (two_boxes w [.slice A0 s.objs.length c0, .slice A1 s.progs.length c1, .slice A2 s.picks.length c2] [.slice none 0 0, .slice none 0 0, .slice none 0 0] 26 26).1 0 _ rfl
  have a2 : ((w.alloc (.cells #[.slice A0 s.objs.length c0, .slice A1 s.progs.length c1, .slice A2 s.picks.length c2] 26)).alloc (.cells #[.slice none 0 0, .slice none 0 0, .slice none 0 0] 26)).cell? ⟨w.heap.size, 2, none⟩ = some (.slice A2 s.picks.length c2) := (two_boxes w [.slice A0 s.objs.length c0, .slice A1 s.progs.length c1, .slice A2 s.picks.length c2] [.slice none 0 0, .slice none 0 0, .slice none 0 0] 26 26).1 2 _ rfl
  have a1 : ((w.alloc (.cells #[.slice A0 s.objs.length c0, .slice A1 s.progs.length c1, .slice A2 s.picks.length c2] 26)).alloc (.cells #[.slice none 0 0, .slice none 0 0, .slice none 0 0] 26)).cell? ⟨w.heap.size, 1, none⟩ = some (.slice A1 s.progs.length c1) := (two_boxes w [.slice A0 s.objs.length c0, .slice A1 s.progs.length c1, .slice A2 s.picks.length c2] [.slice none 0 0, .slice none 0 0, .slice none 0 0] 26 26).1 1 _ rfl
  go_upto_region 1 with fail
  go_cut [3] (fun p wr => ∃ g A3 c3 A4 c4, p = .pointer (some ⟨g, 0, none⟩) ∧ w.heap.size + 2 ≤ g ∧ wr.cell? ⟨g, 0, none⟩ = some (.slice A3 s.objs.length c3) ∧ wr.cell? ⟨g, 1, none⟩ = some (.slice none 0 0) ∧ wr.cell? ⟨g, 2, none⟩ = some (.slice A4 s.picks.length c4) ∧ IsT g 26 wr ∧
    s.objs.length ≤ c3 ∧ s.picks.length ≤ c4 ∧ kOb.C (OfT (w.heap.size + 2) 48 wr) wr A3 s.objs ∧ kPk.C (OfT (w.heap.size + 2) 56 wr) wr A4 s.picks ∧ Below ((w.alloc (.cells #[.slice A0 s.objs.length c0, .slice A1 s.progs.length c1, .slice A2 s.picks.length c2] 26)).alloc (.cells #[.slice none 0 0, .slice none 0 0, .slice none 0 0] 26)).heap.size ((w.alloc (.cells #[.slice A0 s.objs.length c0, .slice A1 s.progs.length c1, .slice A2 s.picks.length c2] 26)).alloc (.cells #[.slice none 0 0, .slice none 0 0, .slice none 0 0] 26)) wr)
  case first =>
    go_region_held3 (fun w' => w'.cell? ⟨w.heap.size, 0, none⟩ = some (.slice A0 s.objs.length c0) ∧ w'.cell? ⟨w.heap.size, 2, none⟩ = some (.slice A2 s.picks.length c2))
      (first | ((try dsimp only); (refine And.intro (cell_below_of a0 ?_) (cell_below_of a2 ?_)) <;> (repeat (with_reducible first | exact Below.refl _ _ | assumption | apply below_alloc | apply below_drewN | apply below_drew1 | (refine below_set ?_ (by simp only [alloc_size]; omega)) | (refine below_step ?_ (by assumption))))))
      (first
        | ((refine step_append_copy (by rfl) (.tmp 5) (.tmp 7) _ (by rfl) 48 i0 _ 24 u0 hi0 hz0 hs0 hb0 _ (by rfl) A0 s.objs c0 (by rfl) (hS.out.below ?_).o (by omega) ?_); (· (repeat (with_reducible first | exact Below.refl _ _ | assumption | apply below_alloc | apply below_drewN | apply below_drew1 | (refine below_set ?_ (by simp only [alloc_size]; omega)) | (refine below_step ?_ (by assumption))))); intro A3 c3 w3 l3 b3 k3; have q3 := fun b o h => b3.cell (p := ⟨b, o, none⟩) h; have r3 := fun b o h => b3.frozen (p := ⟨b, o, none⟩) h; have z3 := fun n h => Nat.lt_of_lt_of_le (n := n) h b3.size; have y3 := b3.size; (try simp only [alloc_size, World.size_drew] at y3))
        | ((refine step_append_copy (by rfl) (.tmp 9) (.tmp 11) _ (by rfl) 56 i1 _ 16 u1 hi1 hz1 hs1 hb1 _ (by rfl) A2 s.picks c2 (by rfl) (hS.out.below ?_).k (by omega) ?_); (· (repeat (with_reducible first | exact Below.refl _ _ | assumption | apply below_alloc | apply below_drewN | apply below_drew1 | (refine below_set ?_ (by simp only [alloc_size]; omega)) | (refine below_step ?_ (by assumption))))); intro A4 c4 w4 l4 b4 k4; have q4 := fun b o h => b4.cell (p := ⟨b, o, none⟩) h; have r4 := fun b o h => b4.frozen (p := ⟨b, o, none⟩) h; have z4 := fun n h => Nat.lt_of_lt_of_le (n := n) h b4.size; have y4 := b4.size; (try simp only [alloc_size, World.size_drew] at y4)))
    all_goals (go_wp2_with fail; go_meet)
    all_goals
      refine ⟨_, A3, c3, A4, c4, rfl, ?_, ?_, ?_, ?_, ?_, l3, l4, ?_, ?_, ?_⟩
      · omega
      · (go_simp; try (refine cell_set_same (u := .slice none 0 0) ?_ rfl; go_simp))
      · (go_simp; try (refine cell_set_same (u := .slice none 0 0) ?_ rfl; go_simp))
      · (go_simp; try (refine cell_set_same (u := .slice none 0 0) ?_ rfl; go_simp))
      · (repeat (with_reducible first | (refine IsT.newE _ _ _ ?_; first | (with_reducible rfl) | (simp only [alloc_size, World.size_drew]; done)) | assumption | apply IsT.set | apply IsT.alloc | apply IsT.drew | apply IsT.drewN | (refine IsT.below ?_ (by assumption))))
      · refine C_later k3 (by (try simp only [alloc_size, World.size_drew]); omega) (fun k hk => by (repeat (with_reducible first | (refine IsT.newE _ _ _ ?_; first | (with_reducible rfl) | (simp only [alloc_size, World.size_drew]; done)) | assumption | apply IsT.set | apply IsT.alloc | apply IsT.drew | apply IsT.drewN | (refine IsT.below ?_ (by assumption))))) ?_ (T := 26) (by decide)
        (repeat (with_reducible first | exact Only.refl _ _ | apply Only.alloc | apply Only.drew | apply Only.drewN | (refine Only.set ?_ (Or.inl ?_) _) | (refine Only.trans ?_ (Only.of_below (by assumption)))))
        all_goals (repeat (with_reducible first | (refine IsT.newE _ _ _ ?_; first | (with_reducible rfl) | (simp only [alloc_size, World.size_drew]; done)) | assumption | apply IsT.set | apply IsT.alloc | apply IsT.drew | apply IsT.drewN | (refine IsT.below ?_ (by assumption))))
      · refine C_later k4 (by (try simp only [alloc_size, World.size_drew]); omega) (fun k hk => by (repeat (with_reducible first | (refine IsT.newE _ _ _ ?_; first | (with_reducible rfl) | (simp only [alloc_size, World.size_drew]; done)) | assumption | apply IsT.set | apply IsT.alloc | apply IsT.drew | apply IsT.drewN | (refine IsT.below ?_ (by assumption))))) ?_ (T := 26) (by decide)
        (repeat (with_reducible first | exact Only.refl _ _ | apply Only.alloc | apply Only.drew | apply Only.drewN | (refine Only.set ?_ (Or.inl ?_) _) | (refine Only.trans ?_ (Only.of_below (by assumption)))))
        all_goals (repeat (with_reducible first | (refine IsT.newE _ _ _ ?_; first | (with_reducible rfl) | (simp only [alloc_size, World.size_drew]; done)) | assumption | apply IsT.set | apply IsT.alloc | apply IsT.drew | apply IsT.drewN | (refine IsT.below ?_ (by assumption))))
      · (repeat (with_reducible first | exact Below.refl _ _ | assumption | apply below_alloc | apply below_drewN | apply below_drew1 | (refine below_set ?_ (by simp only [alloc_size]; omega)) | (refine below_step ?_ (by assumption))))
  case rest =>
    obtain ⟨g, A3, c3, A4, c4, rfl, hg, g0, g1, g2, gT, l3, l4, k3, k4, hbW⟩ := hcut
    have rT : IsT (w.heap.size + 1) 26 ((w.alloc (.cells #[.slice A0 s.objs.length c0, .slice A1 s.progs.length c1, .slice A2 s.picks.length c2] 26)).alloc (.cells #[.slice none 0 0, .slice none 0 0, .slice none 0 0] 26)) := by (repeat (with_reducible first | (refine IsT.newE _ _ _ ?_; first | (with_reducible rfl) | (simp only [alloc_size, World.size_drew]; done)) | assumption | apply IsT.set | apply IsT.alloc | apply IsT.drew | apply IsT.drewN | (refine IsT.below ?_ (by assumption))))
    have rr : ∀ (i : Nat) v, [Value.slice none 0 0, .slice none 0 0, .slice none 0 0][i]? = some v → ((w.alloc (.cells #[.slice A0 s.objs.length c0, .slice A1 s.progs.length c1, .slice A2 s.picks.length c2] 26)).alloc (.cells #[.slice none 0 0, .slice none 0 0, .slice none 0 0] 26)).cell? ⟨w.heap.size + 1, i, none⟩ = some v := (two_boxes w [.slice A0 s.objs.length c0, .slice A1 s.progs.length c1, .slice A2 s.picks.length c2] [.slice none 0 0, .slice none 0 0, .slice none 0 0] 26 26).2
    have r0 := rr 0 _ rfl
    have r1 := rr 1 _ rfl
    have r2 := rr 2 _ rfl
    clear a0 a2 i0 hi0 hz0 hs0 hb0 i1 hi1 hz1 hs1 hb1 u0 u1 rr
    obtain ⟨i0, hi0, hz0, hs0, hb0⟩ := info_parts info_cl
    obtain ⟨i1, hi1, hz1, hs1, hb1⟩ := info_parts info_cs
    have u0 : Try.prog.underlying 49 = some (.slice 54) := Try.underlying49
    have u1 : Try.prog.underlying 23 = some (.slice 49) := Try.underlying23
    have hX2 : Below w.heap.size w ((w.alloc (.cells #[.slice A0 s.objs.length c0, .slice A1 s.progs.length c1, .slice A2 s.picks.length c2] 26)).alloc (.cells #[.slice none 0 0, .slice none 0 0, .slice none 0 0] 26)) := by (repeat (with_reducible first | exact Below.refl _ _ | assumption | apply below_alloc | apply below_drewN | apply below_drew1 | (refine below_set ?_ (by simp only [alloc_size]; omega)) | (refine below_step ?_ (by assumption))))
    have hS2 : ((w.alloc (.cells #[.slice A0 s.objs.length c0, .slice A1 s.progs.length c1, .slice A2 s.picks.length c2] 26)).alloc (.cells #[.slice none 0 0, .slice none 0 0, .slice none 0 0] 26)).heap.size = w.heap.size + 2 := by simp only [alloc_size]
    generalize ((w.alloc (.cells #[.slice A0 s.objs.length c0, .slice A1 s.progs.length c1, .slice A2 s.picks.length c2] 26)).alloc (.cells #[.slice none 0 0, .slice none 0 0, .slice none 0 0] 26)) = X2 at hbW a1 rT r0 r1 r2 hX2 hS2
    have hI : ∃ v1 hdrs, CopyInv w.heap.size g s A3 A4 c3 c4 X2 0 wc v1 hdrs := ⟨.slice none 0 0, [], ⟨g0, g2, gT⟩, g1, k3.mono (fun b hb => ⟨hb.1, gT.ne hb (by decide), by simp [Value.ownBlock]⟩), k4.mono (fun b hb => ⟨hb.1, gT.ne hb (by decide), by simp [Value.ownBlock]⟩), hbW, World.ownsRow_nil _ _ _ _, fun i l h => absurd h (Nat.not_lt_zero _)⟩
    clear g0 g1 g2 gT k3 k4 hbW
    go_wp2_with fail
    go_loopw [4] (fun i wr => ∃ k : Nat, k ≤ s.progs.length ∧ i = .int .i64 k ∧ ∃ v1 hdrs, CopyInv w.heap.size g s A3 A4 c3 c4 X2 k wr v1 hdrs) (fun i _ => s.progs.length - (intOf i).toNat)
    case atStart => exact ⟨0, Nat.zero_le _, rfl, hI⟩
    case round =>
      clear hI
      obtain ⟨k, hk, rfl, v1, hdrs, hI⟩ := hrel
      have a1' := cell_below_of a1 hI.bl
      by_cases hlt : k < s.progs.length
      · have hin := at_sl (hS.out.below (below_step hX2 hI.bl)).p k hlt
        obtain ⟨ad, A5, c5, l, hA1, ho0, e0, e1, e2⟩ := hin
        subst hA1
        have ho := Lib.hid ho0
        clear ho0
        have hll : l.length ≤ 100 := hfl.out k l ho.out
        have g1 := hI.g1
        have hown := hI.own
        have gA := hI.ga
        have gT := gA.gT
        have hbs := hI.bl.size
        have hlo : hdrs.length = k := by have := hown.1; omega
        have hgv : ¬ some g = v1.ownBlock := fun e => by
          obtain ⟨cur, hc⟩ := gT
          rcases hown.2 with ⟨rfl, _⟩ | ⟨g', cap, cur', rfl, _, hh, _⟩
          · cases e
          · obtain rfl : g = g' := by simpa [Value.ownBlock] using e
            rw [hc] at hh
            simp at hh
        have hvb := own_base hown
        have hvl : ∀ b, v1.ownBlock = some b → b < wr.heap.size := fun b hb => (hown.lt b hb).2
        have hgl := gT.lt
        have hnewv : ∀ b, wr.heap.size ≤ b → ¬ some b = v1.ownBlock := fun b hb e => by have := hvl b e.symm; omega
        have hnew : ∀ b, wr.heap.size ≤ b → ¬ (b = g ∨ some b = v1.ownBlock) := fun b hb h => by
          rcases h with h | h
          · omega
          · exact hnewv b hb h
        have had : ad.block < w.heap.size := by
          obtain ⟨ad', _, _, _, hA', _, e0', _⟩ := at_sl hS.out.p k hlt
          obtain rfl := Option.some.inj hA'
          have := cell_lt e0'
          rwa [add_block] at this
        have hnB : ¬ (w.heap.size = g ∨ some w.heap.size = v1.ownBlock) := fun h => by
          rcases h with h | h
          · omega
          · have := hvb _ h.symm; omega
        have hnA : ¬ ((ad.add k).block = g ∨ some (ad.add k).block = v1.ownBlock) := fun h => by
          rw [add_block] at h
          rcases h with h | h
          · omega
          · have := hvb _ h.symm; omega
        have hokS : ∀ b, (ok b ∧ b < w.heap.size) → ¬ (b = g ∨ some b = v1.ownBlock) := fun b hb h => by
          rcases h with h | h
          · omega
          · have := hvb _ h.symm; omega
        go_wp2_with fail
        have hEall : ∀ (i : Nat) (w w' : World), (match i with | 10 => Only (fun b => some b = v1.ownBlock) w w' | 12 => ∃ u, w' = w.setCell ⟨g, 1, none⟩ u | _ => Below w.heap.size w w') → (Only (fun b => b = g ∨ some b = v1.ownBlock)) w w' := by
          intro i w w' h
          rcases i with _ | _ | _ | _ | _ | _ | _ | _ | _ | _ | _ | _ | _ | i
          · exact Only.of_below h
          · exact Only.of_below h
          · exact Only.of_below h
          · exact Only.of_below h
          · exact Only.of_below h
          · exact Only.of_below h
          · exact Only.of_below h
          · exact Only.of_below h
          · exact Only.of_below h
          · exact Only.of_below h
          · exact h.mono (fun _ => Or.inr)
          · exact Only.of_below h
          · exact (by obtain ⟨u, rfl⟩ := h; exact (Only.refl _ _).set (.inl (.inl rfl)) _)
          · exact Only.of_below h
        refine Reg.region_stable (by kernel_rfl) (by kernel_rfl) (by kernel_rfl) (Only (fun b => b = g ∨ some b = v1.ownBlock)) (Only.refl _) (fun _ _ _ => Only.trans)
          (fun i w w' => match i with | 10 => Only (fun b => some b = v1.ownBlock) w w' | 12 => ∃ u, w' = w.setCell ⟨g, 1, none⟩ u | _ => Below w.heap.size w w') hEall
          (fun i v w' => match i with | 0 => v = .pointer (some ⟨g, 1, none⟩) | 1 => v = v1 | 2 => ∃ b, v = .slice (some b) 0 0 | 3 => v = .pointer (some ⟨w.heap.size, 1, none⟩) | 4 => v = .slice (some ad) s.progs.length c1 | 5 => v = .int .i64 k | 6 => v = .pointer (some (ad.add k)) | 7 => v = .slice A5 l.length c5 | 8 => ∃ A c, v = .slice A l.length c ∧ l.length ≤ c ∧ kCl.C (fun b => wr.heap.size ≤ b) w' A l | 9 => ∃ b A c, v = .slice (some ⟨b, 0, none⟩) 1 1 ∧ w'.heap[b]? = some (.cells #[.slice A l.length c] 49 (0, 0)) ∧ wr.heap.size ≤ b ∧ l.length ≤ c ∧ kCl.C (fun b => wr.heap.size ≤ b) w' A l | 10 => ∃ A7 c7 A c, v = .slice A7 (k + 1) c7 ∧ w'.ownsRow (w.heap.size + 2) 49 1 (.slice A7 (k + 1) c7) (k + 1) (hdrs ++ [.slice A l.length c]) ∧ ((Value.slice A7 (k + 1) c7).ownBlock = v1.ownBlock ∨ ∃ b, (Value.slice A7 (k + 1) c7).ownBlock = some b ∧ wr.heap.size ≤ b) ∧ l.length ≤ c ∧ kCl.C (fun b => wr.heap.size ≤ b ∧ some b ≠ (Value.slice A7 (k + 1) c7).ownBlock) w' A l ∧ GAt s g A3 A4 c3 c4 w' ∧ ∃ u, w'.cell? ⟨g, 1, none⟩ = some u | 11 => v = .pointer (some ⟨g, 1, none⟩) | 12 => ∃ A7 c7 A c, w'.cell? ⟨g, 1, none⟩ = some (.slice A7 (k + 1) c7) ∧ w'.ownsRow (w.heap.size + 2) 49 1 (.slice A7 (k + 1) c7) (k + 1) (hdrs ++ [.slice A l.length c]) ∧ ((Value.slice A7 (k + 1) c7).ownBlock = v1.ownBlock ∨ ∃ b, (Value.slice A7 (k + 1) c7).ownBlock = some b ∧ wr.heap.size ≤ b) ∧ l.length ≤ c ∧ kCl.C (fun b => wr.heap.size ≤ b ∧ some b ≠ (Value.slice A7 (k + 1) c7).ownBlock) w' A l ∧ GAt s g A3 A4 c3 c4 w' | _ => True) ?hF 10 (fun w' => w'.cell? ⟨g, 1, none⟩ = some v1 ∧ GAt s g A3 A4 c3 c4 w' ∧ w'.ownsRow (w.heap.size + 2) 49 1 v1 k hdrs) ?hB ?hBE ?hstep ?hfin
        case hF =>
          intro i j v w w' hij hnot h hEi
          rcases j with _ | _ | _ | _ | _ | _ | _ | _ | _ | _ | _ | _ | _ | j
          · exact h
          · exact h
          · exact h
          · exact h
          · exact h
          · exact h
          · exact h
          · exact h
          · obtain ⟨A, c, h1, h2, h3⟩ := h
            exact ⟨A, c, h1, h2, h3.only (hEall i w w' hEi) hnew⟩
          · obtain ⟨b, A, c, h1, h2, h3, h4, h5⟩ := h
            exact ⟨b, A, c, h1, ((hEall i w w' hEi).block b (Array.getElem?_eq_some_iff.1 h2).1 (hnew b h3)).trans h2, h3, h4, h5.only (hEall i w w' hEi) hnew⟩
          · obtain ⟨A7, c7, A, c, h1, h2, h3, h4, h5, h6, u, h7⟩ := h
            have hown7 : ∀ b, (Value.slice A7 (k + 1) c7).ownBlock = some b → b ≠ g := fun b hb e => by
              subst e
              rcases h3 with h3 | ⟨b', h3, h8⟩
              · rw [hb] at h3; exact hgv h3
              · rw [hb] at h3; obtain rfl := Option.some.inj h3; omega
            have hcase : Below w.heap.size w w' ∨ ∃ u, w' = w.setCell ⟨g, 1, none⟩ u := by
              rcases i with _ | _ | _ | _ | _ | _ | _ | _ | _ | _ | _ | _ | _ | i
              all_goals first | exact absurd (by decide) hnot | exact absurd rfl hij | exact .inl hEi | exact .inr hEi
            rcases hcase with hb | ⟨u2, rfl⟩
            · exact ⟨A7, c7, A, c, h1, own_below h2 hb, h3, h4, h5.below hb, h6.below hb, u, cell_below_of h7 hb⟩
            · exact ⟨A7, c7, A, c, h1, own_set h2 _ _ (fun e => hown7 _ e rfl), h3, h4, h5.only ((Only.refl _ _).set (S := fun b => b = g) (.inl rfl) _) (fun b hb e => by have := hb.1; omega), h6.set _, _, cell_set_same h7 rfl⟩
          · exact h
          · obtain ⟨A7, c7, A, c, h1, h2, h3, h4, h5, h6⟩ := h
            have hb : Below w.heap.size w w' := by
              rcases i with _ | _ | _ | _ | _ | _ | _ | _ | _ | _ | _ | _ | _ | i
              all_goals first | exact absurd (by decide) hnot | exact absurd rfl hij | exact hEi
            exact ⟨A7, c7, A, c, cell_below_of h1 hb, own_below h2 hb, h3, h4, h5.below hb, h6.below hb⟩
          · trivial
        case hB => exact ⟨g1, ⟨gA.g0, gA.g2, gA.gT⟩, hown⟩
        case hBE =>
          intro i w w' hiu hnot hB hEi
          have hcase : Below w.heap.size w w' := by
            rcases i with _ | _ | _ | _ | _ | _ | _ | _ | _ | _ | _ | _ | _ | i
            all_goals first | exact absurd (by decide) hnot | exact absurd rfl hiu | exact hEi
          exact ⟨cell_below_of hB.1 hcase, hB.2.1.below hcase, own_below hB.2.2 hcase⟩
        case hstep =>
          intro i o ho a wx hR hdep hout hBi
          rcases i with _ | _ | _ | _ | _ | _ | _ | _ | _ | _ | _ | _ | _ | i
          · obtain rfl := Option.some.inj ho
            have e3 : a.tmps[3]?.getD undef = .pointer (some ⟨g, 0, none⟩) := Reg.ev ((hout 3 (by decide)).trans rfl)
            clear hdep hout
            refine Reg.wpOp_val rfl rfl (v := .pointer (some ⟨g, 1, none⟩)) (w' := wx) ?_ ⟨_, rfl, Below.refl _ _, rfl⟩
            go_simp
          · obtain rfl := Option.some.inj ho
            have e21 : a.tmps[21]?.getD undef = .pointer (some ⟨g, 1, none⟩) := Reg.ev (hdep 0 _ (by decide) rfl)
            have hc := (hBi (by decide)).1
            clear hdep hout
            refine Reg.wpOp_val rfl rfl (v := v1) (w' := wx) ?_ ⟨_, rfl, Below.refl _ _, rfl⟩
            go_simp
          · obtain rfl := Option.some.inj ho
            refine Reg.wpOp_val rfl rfl (v := .slice (some ⟨wx.heap.size, 0, none⟩) 0 0) (w' := wx.alloc (.cells #[] 54)) ?_ ⟨_, rfl, below_alloc (Below.refl _ _) _, ⟨_, rfl⟩⟩
            go_simp
          · obtain rfl := Option.some.inj ho
            have e1 : a.tmps[1]?.getD undef = .pointer (some ⟨w.heap.size, 0, none⟩) := Reg.ev ((hout 1 (by decide)).trans rfl)
            clear hdep hout
            refine Reg.wpOp_val rfl rfl (v := .pointer (some ⟨w.heap.size, 1, none⟩)) (w' := wx) ?_ ⟨_, rfl, Below.refl _ _, rfl⟩
            go_simp
          · obtain rfl := Option.some.inj ho
            have e24 : a.tmps[24]?.getD undef = .pointer (some ⟨w.heap.size, 1, none⟩) := Reg.ev (hdep 3 _ (by decide) rfl)
            have hc := hR.cell (a := wr.drew) a1' hnB
            clear hdep hout
            refine Reg.wpOp_val rfl rfl (v := .slice (some ad) s.progs.length c1) (w' := wx) ?_ ⟨_, rfl, Below.refl _ _, rfl⟩
            go_simp
          · obtain rfl := Option.some.inj ho
            have e4 : a.tmps[4]?.getD undef = .int .i64 k := Reg.ev ((hout 4 (by decide)).trans rfl)
            clear hdep hout
            refine Reg.wpOp_val rfl rfl (v := .int .i64 k) (w' := wx) ?_ ⟨_, rfl, Below.refl _ _, rfl⟩
            go_simp
          · obtain rfl := Option.some.inj ho
            have e25 : a.tmps[25]?.getD undef = .slice (some ad) s.progs.length c1 := Reg.ev (hdep 4 _ (by decide) rfl)
            have e26 : a.tmps[26]?.getD undef = .int .i64 k := Reg.ev (hdep 5 _ (by decide) rfl)
            have hk0 : (0 : Int) ≤ (k : Int) := by omega
            have hk1 : (k : Int) < s.progs.length := by omega
            clear hdep hout
            refine Reg.wpOp_val rfl rfl (v := .pointer (some (ad.add k))) (w' := wx) ?_ ⟨_, rfl, Below.refl _ _, rfl⟩
            go_simp
          · obtain rfl := Option.some.inj ho
            have e27 : a.tmps[27]?.getD undef = .pointer (some (ad.add k)) := Reg.ev (hdep 6 _ (by decide) rfl)
            have hc := hR.cell (a := wr.drew) e0 hnA
            clear hdep hout
            refine Reg.wpOp_val rfl rfl (v := .slice A5 l.length c5) (w' := wx) ?_ ⟨_, rfl, Below.refl _ _, rfl⟩
            go_simp
          · obtain rfl := Option.some.inj ho
            have f23 := hdep 2 _ (by decide) rfl
            have e28 : a.tmps[28]?.getD undef = .slice A5 l.length c5 := Reg.ev (hdep 7 _ (by decide) rfl)
            obtain ⟨b, f23⟩ := f23
            have E23 := Reg.evE (Reg.ev f23)
            have E28 := Reg.evE e28
            refine Reg.wpOp_oper rfl rfl (wp_append_copy (.tmp 23) (.tmp 28) _ rfl 54 i0 _ 40 u0 hi0 hz0 hs0 hb0 b E23 A5 l c5 E28 ((e2.below (below_drew1 (Below.refl _ _))).only (S := fun b => b = g ∨ some b = v1.ownBlock) hR hokS) (by omega) ?_)
            intro A6 c6 w6 l6 b6 k6
            exact ⟨_, rfl, b6, A6, c6, rfl, l6, k6.mono (fun b hb => Nat.le_trans hR.size hb.1)⟩
          · obtain rfl := Option.some.inj ho
            have f29 := hdep 8 _ (by decide) rfl
            obtain ⟨A6, c6, f29, l6, k6⟩ := f29
            have e29 := Reg.ev f29
            refine Reg.wpOp_val rfl rfl (v := .slice (some ⟨wx.heap.size, 0, none⟩) 1 1) (w' := wx.alloc (.cells #[.slice A6 l.length c6] 49)) ?_ ⟨_, rfl, below_alloc (Below.refl _ _) _, _, A6, c6, rfl, alloc_heap_at _ _, hR.size, l6, k6.below (below_alloc (Below.refl _ _) _)⟩
            clear k6 hdep hout
            go_simp
          · obtain rfl := Option.some.inj ho
            have e22 : a.tmps[22]?.getD undef = v1 := Reg.ev (hdep 1 _ (by decide) rfl)
            have f30 := hdep 9 _ (by decide) rfl
            obtain ⟨b, A, c, f30, hb, hbn, hc, hC⟩ := f30
            have E22 := Reg.evE e22
            have E30 := Reg.evE (Reg.ev f30)
            obtain ⟨B1, B2, B3⟩ := hBi (by decide)
            have hC' := hC.bound
            refine Reg.wpOp_oper rfl rfl (wp_append_uni (.tmp 22) (.tmp 30) _ rfl (w.heap.size + 2) 49 i1 _ 1 24 u1 hi1 hz1 hs1 hb1 rfl (by decide) v1 k hdrs E22 B3 _ 1 [.slice A l.length c] E30 rfl (Src.of_block hb (by simp [Value.oneCell'])) (by unfold maxLen; omega) (by omega) (by have := hR.size; simp only [World.size_drew] at this; omega) ?_)
            intro A7 c7 w7 o7 g7 h7
            have hO7 : Only (fun b => some b = v1.ownBlock) wx w7 := (Only.refl _ _).grown g7 (fun b hb => .inl hb.symm)
            have hg7 : ¬ some g = v1.ownBlock := hgv
            refine ⟨_, rfl, hO7, A7, c7, A, c, rfl, o7, ?_, hc, ?_, B2.only hO7 hg7, _, hO7.cell B1 hg7⟩
            · rcases h7 with h7 | h7
              · exact .inl h7
              · exact .inr ⟨_, h7, hR.size⟩
            · refine (hC'.only hO7 (fun b hb => hnewv b hb.1)).mono (fun b hb => ⟨hb.1, fun e => ?_⟩)
              rcases h7 with h7 | h7
              · rw [h7] at e; exact hnewv b hb.1 e
              · rw [h7] at e; have h8 := hb.2; obtain rfl := Option.some.inj e; exact Nat.lt_irrefl _ h8
          · obtain rfl := Option.some.inj ho
            have e3 : a.tmps[3]?.getD undef = .pointer (some ⟨g, 0, none⟩) := Reg.ev ((hout 3 (by decide)).trans rfl)
            clear hdep hout
            refine Reg.wpOp_val rfl rfl (v := .pointer (some ⟨g, 1, none⟩)) (w' := wx) ?_ ⟨_, rfl, Below.refl _ _, rfl⟩
            go_simp
          · obtain rfl := Option.some.inj ho
            have e32 : a.tmps[32]?.getD undef = .pointer (some ⟨g, 1, none⟩) := Reg.ev (hdep 11 _ (by decide) rfl)
            have f31 := hdep 10 _ (by decide) rfl
            obtain ⟨A7, c7, A, c, f31, o7, h7, hc, hC, hG, u, hcell⟩ := f31
            have e31 := Reg.ev f31
            have hfz := hG.gT.frozen 1
            have hown7 : (Value.slice A7 (k + 1) c7).ownBlock ≠ some g := fun hb => by
              rcases h7 with h3 | ⟨b', h3, h8⟩
              · rw [hb] at h3; exact hgv h3
              · rw [hb] at h3; obtain rfl := Option.some.inj h3; omega
            refine Reg.wpOp_skip rfl rfl (w' := wx.setCell ⟨g, 1, none⟩ (.slice A7 (k + 1) c7)) ?_ ⟨undef, rfl, ⟨_, rfl⟩, A7, c7, A, c, cell_set_same hcell rfl, own_set o7 _ _ hown7, h7, hc, hC.only ((Only.refl _ _).set (S := fun b => b = g) (.inl rfl) _) (fun b hb e => by have := hb.1; omega), hG.set _⟩
            clear hC hdep hout
            go_simp
          · simp at ho
        case hfin =>
          intro vs hlen wx hR hfacts
          obtain ⟨y0, y1, y2, y3, y4, y5, y6, y7, y8, y9, y10, y11, y12, rfl⟩ : ∃ y0 y1 y2 y3 y4 y5 y6 y7 y8 y9 y10 y11 y12, vs = [y0, y1, y2, y3, y4, y5, y6, y7, y8, y9, y10, y11, y12] := by
            match vs, hlen with
            | [y0, y1, y2, y3, y4, y5, y6, y7, y8, y9, y10, y11, y12], _ => exact ⟨_, _, _, _, _, _, _, _, _, _, _, _, _, rfl⟩
          have x0 : y0 = .pointer (some ⟨g, 1, none⟩) := hfacts 0 _ rfl
          have x1 : y1 = v1 := hfacts 1 _ rfl
          have x2 := hfacts 2 _ rfl
          have x3 : y3 = .pointer (some ⟨w.heap.size, 1, none⟩) := hfacts 3 _ rfl
          have x4 : y4 = .slice (some ad) s.progs.length c1 := hfacts 4 _ rfl
          have x5 : y5 = .int .i64 k := hfacts 5 _ rfl
          have x6 : y6 = .pointer (some (ad.add k)) := hfacts 6 _ rfl
          have x7 : y7 = .slice A5 l.length c5 := hfacts 7 _ rfl
          have x8 := hfacts 8 _ rfl
          have x9 := hfacts 9 _ rfl
          have x10 := hfacts 10 _ rfl
          have x11 : y11 = .pointer (some ⟨g, 1, none⟩) := hfacts 11 _ rfl
          have x12 := hfacts 12 _ rfl
          clear hfacts hlen
          simp only [Reg.putsL, Act.put, List.setIfInBounds_toArray, List.set_cons_zero, List.set_cons_succ, x0, x1, x3, x4, x5, x6, x7, x11]
          clear x0 x1 x3 x4 x5 x6 x7 x11
          obtain ⟨A7, c7, A, c, z1, zo, z7, zl, zC, zG⟩ := x12
          clear x2 x8 x9 x10
          have zR := Lib.hid hR
          have zC := Lib.hid zC
          have zo := Lib.hid zo
          have z7 := Lib.hid z7
          clear hR
          go_wp2_with fail
          go_roundw
          case rel => exact ⟨k + 1, by omega, by go_num, _, _, copy_next hI zR.out hX2 hS2 hg hvb hvl hgl ho.out zG z1 zo.out z7.out zl zC.out⟩
          case measure => simp [intOf]; omega
      · obtain rfl : k = s.progs.length := by omega
        have q0 := cell_below_of r0 hI.bl
        have q1 := cell_below_of r1 hI.bl
        have q2 := cell_below_of r2 hI.bl
        have qT := rT.below hI.bl
        have f0 := qT.frozen 0
        have f1 := qT.frozen 1
        have f2 := qT.frozen 2
        have g0 := hI.ga.g0
        have g1 := hI.g1
        have g2 := hI.ga.g2
        have hgne : ¬ g = w.heap.size + 1 := by omega
        obtain ⟨A1', n1, c1', rfl⟩ : ∃ A n c, v1 = .slice A n c := by
          rcases hI.own.2 with ⟨rfl, _⟩ | ⟨_, _, _, rfl, _⟩
          · exact ⟨_, _, _, rfl⟩
          · exact ⟨_, _, _, rfl⟩
        have HI := Lib.hid hI
        clear hI
        go_wp2_with fail
        obtain ⟨W, hW, rfl, hA, hB⟩ := copy_done HI.out hX2 hS2 l3 l4 l1 hg (.slice A3 s.objs.length c3) (.slice A1' s.progs.length c1') (.slice A4 s.picks.length c4)
        have W0 : W.cell? ⟨w.heap.size + 1, 0, none⟩ = some (.slice A3 s.objs.length c3) := by rw [hW]; exact cell_set_off (cell_set_off (cell_set_same q0 rfl) (by decide)) (by decide)
        have W1 : W.cell? ⟨w.heap.size + 1, 1, none⟩ = some (.slice A1' s.progs.length c1') := by rw [hW]; exact cell_set_off (cell_set_same (cell_set_off q1 (by decide)) rfl) (by decide)
        have W3 : W.cell? ⟨w.heap.size + 1, 2, none⟩ = some (.slice A4 s.picks.length c4) := by rw [hW]; exact cell_set_same (cell_set_off (cell_set_off q2 (by decide)) (by decide)) rfl
        rw [← hW]
        refine bodyPost_ret (v := .agg #[.slice A3 s.objs.length c3, .slice A1' s.progs.length c1', .slice A4 s.picks.length c4]) ?_ rfl ⟨_, _, _, _, _, _, rfl, hA, hB⟩
        clear hW hA hB
        simp [results, Try.results17, go_sem, W0, W1, W3]
end Go.Proofs.Ytikfkkinhipfjaa
