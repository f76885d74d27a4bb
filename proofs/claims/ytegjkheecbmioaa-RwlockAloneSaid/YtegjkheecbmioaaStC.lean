/- What holds inside of the reference's Step. -/
import Derived.Test.YtegjkheecbmioaaStB
import Derived.Outline
import Derived.Deep.CutRange
import Derived.Deep.MidRow
namespace Go.Proofs.Ytegjkheecbmioaa
open Go.RowKit
set_option linter.unusedVariables false
set_option linter.unusedSimpArgs false

def noteEnc (p : Int × Int) : List Value := [.int .i64 p.1, .int .i64 p.2]
theorem Ch.setNew {B : Nat} {F : Nat → Prop} {a b : World} (h : Ch B F a b) {p : Addr} (hp : a.heap.size ≤ p.block) (u : Value) : Ch B F a (b.setCell p u) := ⟨h.on.set (.inr hp) u, fun k U hk => (h.ty k U hk).set p u⟩
theorem Ch.setsNew {B : Nat} {F : Nat → Prop} {a : World} {g : Nat} (hp : a.heap.size ≤ g) : ∀ (vs : List Value) (o : Nat) (b : World), Ch B F a b → Ch B F a (b.setCells g o vs)
  | [], _, _, h => h
  | v :: r, o, b, h => Ch.setsNew hp r (o + 1) _ (h.setNew (p := ⟨g, o, none⟩) hp v)
theorem Ch.grownNew {B : Nat} {F : Nat → Prop} {a b c : World} {row : Option Nat} (h : Ch B F a b) (hg : b.grownBy c row) (hr : ∀ k, row = some k → a.heap.size ≤ k) : Ch B F a c :=
  ⟨h.on.grown hg (fun k hk => .inr (hr k hk)), fun k U hk => (h.ty k U hk).keep (hg.block k (h.ty k U hk).lt (fun e => by have := hr k e.symm; have := hk.lt; omega))⟩
structure SInv (w0 : World) (B bW bT bL : Nat) (vF vN : Value) (rs : List Fr) (f : Fr) (s : St) (notes : List (Int × Int)) (w : World) : Prop where
  fo : w.ownsRow w0.heap.size 68 17 vF (rs.length + 1) ((rs.reverse ++ [f]).flatMap Fr.enc)
  no : w.ownsRow w0.heap.size 40 2 vN notes.length (notes.flatMap noteEnc)
  wa : WAt B bW bT bL s w
  ch : Ch B (fun _ => False) w0 w
  ln : ∀ x ∈ rs.reverse ++ [f], x.r.length = 16
  cl : s.cells.length ≤ 4096
  rl : rs.length ≤ 15
section
variable {w0 w w' : World} {B bW bT bL : Nat} {vF vN : Value} {rs : List Fr} {f : Fr} {s : St} {notes : List (Int × Int)}
theorem SInv.below (h : SInv w0 B bW bT bL vF vN rs f s notes w) (hb : Below w.heap.size w w') : SInv w0 B bW bT bL vF vN rs f s notes w' :=
  ⟨own_below h.fo hb, own_below h.no hb, h.wa.below hb, h.ch.trans (Ch.below hb), h.ln, h.cl, h.rl⟩
theorem SInv.top (h : SInv w0 B bW bT bL vF vN rs f s notes w) : (rs.reverse ++ [f])[rs.length]? = some f := by simp
theorem SInv.form (h : SInv w0 B bW bT bL vF vN rs f s notes w) : ∃ g cap, vF = .slice (some ⟨g, 0, none⟩) (rs.length + 1) cap ∧ rs.length + 1 ≤ cap ∧ w0.heap.size ≤ g ∧ IsT g 68 w := row_form h.fo (by omega)
theorem note_form (h : w.ownsRow B 40 2 vN notes.length (notes.flatMap noteEnc)) : ∃ A c, vN = .slice A notes.length c ∧ notes.length ≤ c := by
  rcases h.2 with ⟨rfl, h0⟩ | ⟨g, cap, cur, rfl, hb, hh, hnc, hcm, hcs, ht⟩
  · exact ⟨none, 0, by rw [h0], by omega⟩
  · exact ⟨_, _, rfl, hnc⟩
/-- A store into the frames' row: the world's blocks stay. -/
theorem WAt.sets {g : Nat} (h : WAt B bW bT bL s w) {U : Nat} (hg : IsT g U w) (h0 : U ≠ 77) (h1 : U ≠ 74) (h2 : U ≠ 71) (h3 : U ≠ 2) (vs : List Value) (o : Nat) : WAt B bW bT bL s (w.setCells g o vs) := by
  refine h.keep (fun k hk => ?_) (by rw [size_setCells]; exact Nat.le_refl _)
  refine (only_setCells (S := (· = g)) rfl vs o w).block k hk.lt (fun e => ?_)
  have e : k = g := e
  subst e
  exact Own4.not hg h0 h1 h2 h3 hk
theorem own_sets {g B' e sz n o : Nat} {v : Value} {xs : List Value} (h : w.ownsRow B' e sz v n xs) (hg : v.ownBlock ≠ some g) (vs : List Value) : (w.setCells g o vs).ownsRow B' e sz v n xs :=
  own_only h (only_setCells (S := (· = g)) rfl vs o w) (fun k hk e => hg (by rw [hk]; exact congrArg some e))
end
theorem own_cut {w : World} {B e sz n m cap g : Nat} {xs : List Value} (h : w.ownsRow B e sz (.slice (some ⟨g, 0, none⟩) n cap) n xs) (hm : m ≤ n) : w.ownsRow B e sz (.slice (some ⟨g, 0, none⟩) m cap) m (xs.take (m * sz)) := by
  have hms : m * sz ≤ n * sz := Nat.mul_le_mul_right _ hm
  rcases h.2 with ⟨e1, _⟩ | ⟨g', cap', cur, e1, hb, hh, hnc, hcm, hcs, ht⟩
  · cases e1
  · simp only [Value.slice.injEq, Option.some.injEq, Addr.mk.injEq, and_true, true_and] at e1
    obtain ⟨rfl, rfl⟩ := e1
    exact ⟨by rw [List.length_take, h.1]; omega, .inr ⟨g, cap, cur, rfl, hb, hh, by omega, hcm, hcs, by rw [← ht, List.take_take, Nat.min_eq_left hms]⟩⟩
section
variable {w0 w w' w3 : World} {B bW bT bL g n cap : Nat} {vF vN : Value} {rs : List Fr} {f f' : Fr} {s : St} {notes : List (Int × Int)}
theorem SInv.setAny (h : SInv w0 B bW bT bL (.slice (some ⟨g, 0, none⟩) (rs.length + 1) cap) vN rs f s notes w) {t j : Nat} {fr fr' : Fr} {u : Value} {rs' : List Fr} {f' : Fr} (ht : (rs.reverse ++ [f])[t]? = some fr) (hf : fr'.r.length = 16) (he : fr.enc.set j u = fr'.enc) (hj : j < 17)
    (hr : (rs.reverse ++ [f]).set t fr' = rs'.reverse ++ [f']) (hrl : rs'.length = rs.length) : SInv w0 B bW bT bL (.slice (some ⟨g, 0, none⟩) (rs.length + 1) cap) vN rs' f' s notes (w.setCell ⟨g, t * 17 + j, none⟩ u) := by
  have hg := own_ty h.fo (g := g) rfl
  refine ⟨?_, own_set h.no _ _ (fun e => absurd ((own_ty h.no e).uniq hg) (by decide)), h.wa.other hg (by decide) (by decide) (by decide) (by decide), h.ch.setNew (own_base h.fo g rfl) _, fun x hx => ?_, h.cl, by rw [hrl]; exact h.rl⟩
  · have := row_cell h.fo h.ln ht hf he hj
    rw [hr] at this
    rw [hrl]
    exact this
  · rw [← hr] at hx
    rcases List.mem_or_eq_of_mem_set hx with h1 | rfl
    · exact h.ln x h1
    · exact hf
theorem SInv.setTop (h : SInv w0 B bW bT bL (.slice (some ⟨g, 0, none⟩) (rs.length + 1) cap) vN rs f s notes w) {j : Nat} {f' : Fr} {u : Value} (hf : f'.r.length = 16) (he : f.enc.set j u = f'.enc) (hj : j < 17) :
    SInv w0 B bW bT bL (.slice (some ⟨g, 0, none⟩) (rs.length + 1) cap) vN rs f' s notes (w.setCell ⟨g, rs.length * 17 + j, none⟩ u) :=
  h.setAny h.top hf he hj (by rw [List.set_append_right _ _ (by simp)]; simp) rfl
theorem SInv.setBelow {g0 g1 : Fr} (h : SInv w0 B bW bT bL (.slice (some ⟨g, 0, none⟩) ((g0 :: rs).length + 1) cap) vN (g0 :: rs) f s notes w) {j : Nat} {u : Value} (hf : g1.r.length = 16) (he : g0.enc.set j u = g1.enc) (hj : j < 17) :
    SInv w0 B bW bT bL (.slice (some ⟨g, 0, none⟩) ((g1 :: rs).length + 1) cap) vN (g1 :: rs) f s notes (w.setCell ⟨g, rs.length * 17 + j, none⟩ u) :=
  h.setAny (t := rs.length) (fr := g0) (by simp) hf he hj (by simp [List.set_append]) rfl
/-- All of the top frame. -/
theorem SInv.setsTop (h : SInv w0 B bW bT bL (.slice (some ⟨g, 0, none⟩) (rs.length + 1) cap) vN rs f s notes w) (hf : f'.r.length = 16) : SInv w0 B bW bT bL (.slice (some ⟨g, 0, none⟩) (rs.length + 1) cap) vN rs f' s notes (w.setCells g (rs.length * 17) f'.enc) := by
  have hg := own_ty h.fo (g := g) rfl
  refine ⟨?_, own_sets h.no (fun e => absurd ((own_ty h.no e).uniq hg) (by decide)) _, h.wa.sets hg (by decide) (by decide) (by decide) (by decide) _ _, Ch.setsNew (own_base h.fo g rfl) _ _ _ h.ch, fun x hx => ?_, h.cl, h.rl⟩
  · have := row_set h.fo h.ln h.top hf
    rwa [List.set_append_right _ _ (by simp), show (rs.length - rs.reverse.length) = 0 by simp, List.set_cons_zero] at this
  · rcases List.mem_append.1 hx with h1 | h1
    · exact h.ln x (List.mem_append_left _ h1)
    · rw [List.mem_singleton.1 h1]; exact hf
/-- A store into a frame's own box. -/
theorem SInv.boxSet {bF i : Nat} {u : Value} (h : SInv w0 B bW bT bL (.slice (some ⟨g, 0, none⟩) (rs.length + 1) cap) vN rs f s notes w) (hT : IsT bF 68 w) (hb : w0.heap.size ≤ bF) (hg : bF ≠ g) :
    SInv w0 B bW bT bL (.slice (some ⟨g, 0, none⟩) (rs.length + 1) cap) vN rs f s notes (w.setCell ⟨bF, i, none⟩ u) :=
  ⟨own_set h.fo _ _ (fun e => hg (Option.some.inj e).symm), own_set h.no _ _ (fun e => absurd ((own_ty h.no e).uniq hT) (by decide)), h.wa.other hT (by decide) (by decide) (by decide) (by decide), h.ch.setNew (p := ⟨bF, i, none⟩) hb _, h.ln, h.cl, h.rl⟩
theorem SInv.push (h : SInv w0 B bW bT bL vF vN rs f s notes w) {A : Option Addr} {c : Nat} (ho : w3.ownsRow w0.heap.size 68 17 (.slice A (rs.length + 1 + 1) c) (rs.length + 1 + 1) ((rs.reverse ++ [f]).flatMap Fr.enc ++ f'.enc)) (hg : w.grownBy w3 vF.ownBlock) (hf : f'.r.length = 16) (hr : rs.length < 15) :
    SInv w0 B bW bT bL (.slice A ((f :: rs).length + 1) c) vN (f :: rs) f' s notes w3 := by
  have hT := TOnly.grown h.fo hg
  refine ⟨by simpa using ho, hT.own (by decide) h.no, h.wa.keep (fun k hk => ?_) hg.size, h.ch.grownNew hg (fun k hk => own_base h.fo k hk), fun x hx => ?_, h.cl, by simp; omega⟩
  · refine hg.block k hk.lt (fun e => ?_)
    exact Own4.not (own_ty h.fo e.symm) (by decide) (by decide) (by decide) (by decide) hk
  · simp only [List.reverse_cons, List.append_assoc] at hx
    rcases List.mem_append.1 hx with h1 | h1
    · exact h.ln x (List.mem_append_left _ h1)
    · rcases List.mem_append.1 h1 with h2 | h2
      · exact h.ln x (List.mem_append_right _ h2)
      · rw [List.mem_singleton.1 h2]; exact hf
theorem SInv.note (h : SInv w0 B bW bT bL vF vN rs f s notes w) {A : Option Addr} {c : Nat} {p : Int × Int} (ho : w3.ownsRow w0.heap.size 40 2 (.slice A (notes.length + 1) c) (notes.length + 1) (notes.flatMap noteEnc ++ noteEnc p)) (hg : w.grownBy w3 vN.ownBlock) :
    SInv w0 B bW bT bL vF (.slice A (notes.length + 1) c) rs f s (notes ++ [p]) w3 := by
  have hT := TOnly.grown h.no hg
  refine ⟨hT.own (by decide) h.fo, by simpa using ho, h.wa.keep (fun k hk => ?_) hg.size, h.ch.grownNew hg (fun k hk => own_base h.no k hk), h.ln, h.cl, h.rl⟩
  refine hg.block k hk.lt (fun e => ?_)
  exact Own4.not (own_ty h.no e.symm) (by decide) (by decide) (by decide) (by decide) hk
theorem SInv.pop {g0 : Fr} (h : SInv w0 B bW bT bL (.slice (some ⟨g, 0, none⟩) ((g0 :: rs).length + 1) cap) vN (g0 :: rs) f s notes w) : SInv w0 B bW bT bL (.slice (some ⟨g, 0, none⟩) (rs.length + 1) cap) vN rs g0 s notes w := by
  have h1 := own_cut (m := rs.length + 1) h.fo (by simp)
  have hl : ((rs.reverse ++ [g0]).flatMap Fr.enc).length = (rs.length + 1) * 17 := by
    rw [frs_len _ (fun x hx => h.ln x (by simp only [List.reverse_cons]; exact List.mem_append_left _ hx))]; simp
  rw [List.reverse_cons, List.flatMap_append, List.take_append_of_le_length (by rw [hl]; exact Nat.le_refl _), List.take_of_length_le (by rw [hl]; exact Nat.le_refl _)] at h1
  exact ⟨h1, h.no, h.wa, h.ch, fun x hx => h.ln x (by simp only [List.reverse_cons]; exact List.mem_append_left _ hx), h.cl, by have := h.rl; simp at this; omega⟩
/-- What 'one' has done, on a frame of its own. -/
theorem SInv.one (h : SInv w0 B bW bT bL vF vN rs f s notes w) {bF : Nat} {s' : St} (hb : w0.heap.size ≤ bF) (hbT : IsT bF 68 w) (hF : ∀ k, vF.ownBlock = some k → k ≠ bF) (hw : WAt B bW bT bL s' w') (hc : Ch B (· = bF) w w') (hcl : s'.cells.length ≤ 4096) : SInv w0 B bW bT bL vF vN rs f s' notes w' := by
  refine ⟨hc.own h.fo hF (by decide) (by decide) (by decide) (by decide), own_only h.no hc.on (fun k hk e => ?_), hw, ?_, h.ln, hcl, h.rl⟩
  · rcases e with e | e
    · have e : k = bF := e
      subst e
      exact absurd ((own_ty h.no hk).uniq hbT) (by decide)
    · exact Own4.not (own_ty h.no hk) (by decide) (by decide) (by decide) (by decide) e
  · refine ⟨⟨hc.on.os.trans h.ch.on.os, hc.on.tape.trans h.ch.on.tape, hc.on.output.trans h.ch.on.output, Nat.le_trans h.ch.on.size hc.on.size, fun k hk hs => ?_⟩, fun b U hU => hc.ty b U (h.ch.ty b U hU)⟩
    refine (hc.on.block k (Nat.lt_of_lt_of_le hk h.ch.on.size) (fun e => ?_)).trans (h.ch.on.block k hk hs)
    rcases e with e | e
    · have e : k = bF := e
      omega
    · exact hs (h.ch.back hk e)
end
theorem oneP_facts {x : Ins} {i : Nat} {f : Fr} {s : St} {r : O1} (h : oneP x i f s = some r) (hs : s.cells.length ≤ 4096) :
    r.s.cells.length ≤ 4096 ∧ ((x.op = 21 ∧ r.how = 1) ∨ (x.op ≠ 21 ∧ r.nk = -1 ∧ (r.how = 1 ∨ r.how = 2 ∨ (r.how = 3 ∧ (r.came = 2 ∨ r.came = 1))))) := by
  unfold oneP oneQ at h
  by_cases e : x.op = 1
  · rw [if_pos e] at h
    obtain rfl := nextO_inj h; exact ⟨hs, .inr ⟨by omega, rfl, .inl rfl⟩⟩
  rw [if_neg e] at h
  by_cases e : x.op = 2
  · rw [if_pos e] at h
    obtain rfl := nextO_inj h; exact ⟨hs, .inr ⟨by omega, rfl, .inl rfl⟩⟩
  rw [if_neg e] at h
  by_cases e : x.op = 3
  · rw [if_pos e] at h
    obtain rfl := nextO_inj h; exact ⟨hs, .inr ⟨by omega, rfl, .inl rfl⟩⟩
  rw [if_neg e] at h
  by_cases e : x.op = 4
  · rw [if_pos e] at h
    obtain rfl := nextO_inj h; exact ⟨hs, .inr ⟨by omega, rfl, .inl rfl⟩⟩
  rw [if_neg e] at h
  by_cases e : x.op = 5
  · rw [if_pos e] at h
    split at h
    · obtain rfl := nextO_inj h; exact ⟨hs, .inr ⟨by omega, rfl, .inl rfl⟩⟩
    · cases h
  rw [if_neg e] at h
  by_cases e : x.op = 6
  · rw [if_pos e] at h
    split at h
    · obtain rfl := nextO_inj h; exact ⟨by simpa using hs, .inr ⟨by omega, rfl, .inl rfl⟩⟩
    · cases h
  rw [if_neg e] at h
  by_cases e : x.op = 7
  · rw [if_pos e] at h
    split at h
    · split at h
      · split at h
        · obtain rfl := nextO_inj h; exact ⟨by simpa using hs, .inr ⟨by omega, rfl, .inl rfl⟩⟩
        · obtain rfl := nextO_inj h; exact ⟨hs, .inr ⟨by omega, rfl, .inl rfl⟩⟩
      · cases h
    · cases h
  rw [if_neg e] at h
  by_cases e : x.op = 8
  · rw [if_pos e] at h
    obtain rfl := goneO_inj h; exact ⟨hs, .inr ⟨by omega, rfl, .inr (.inl rfl)⟩⟩
  rw [if_neg e] at h
  by_cases e : x.op = 9
  · rw [if_pos e] at h
    split at h
    · obtain rfl := goneO_inj h; exact ⟨hs, .inr ⟨by omega, rfl, .inr (.inl rfl)⟩⟩
    · obtain rfl := nextO_inj h; exact ⟨hs, .inr ⟨by omega, rfl, .inl rfl⟩⟩
  rw [if_neg e] at h
  by_cases e : x.op = 10
  · rw [if_pos e] at h
    split at h
    · obtain rfl := goneO_inj h; exact ⟨hs, .inr ⟨by omega, rfl, .inr (.inl rfl)⟩⟩
    · obtain rfl := nextO_inj h; exact ⟨hs, .inr ⟨by omega, rfl, .inl rfl⟩⟩
  rw [if_neg e] at h
  by_cases e : x.op = 11
  · rw [if_pos e] at h
    split at h
    · obtain rfl := goneO_inj h; exact ⟨hs, .inr ⟨by omega, rfl, .inr (.inl rfl)⟩⟩
    · obtain rfl := nextO_inj h; exact ⟨hs, .inr ⟨by omega, rfl, .inl rfl⟩⟩
  rw [if_neg e] at h
  by_cases e : x.op = 14
  · rw [if_pos e] at h
    split at h
    · split at h
      · obtain rfl := Option.some.inj h; exact ⟨hs, .inr ⟨by omega, rfl, .inr (.inr ⟨rfl, .inr rfl⟩)⟩⟩
      · cases h
    · cases h
  rw [if_neg e] at h
  by_cases e : x.op = 15
  · rw [if_pos e] at h
    split at h
    · split at h
      · split at h
        · obtain rfl := nextO_inj h; exact ⟨hs, .inr ⟨by omega, rfl, .inl rfl⟩⟩
        · cases h
      · cases h
    · cases h
  rw [if_neg e] at h
  by_cases e : x.op = 16
  · rw [if_pos e] at h
    split at h
    · rename_i hq; obtain rfl := nextO_inj h; exact ⟨by simp; omega, .inr ⟨by omega, rfl, .inl rfl⟩⟩
    · cases h
  rw [if_neg e] at h
  by_cases e : x.op = 17
  · rw [if_pos e] at h
    obtain rfl := nextO_inj h; exact ⟨hs, .inr ⟨by omega, rfl, .inl rfl⟩⟩
  rw [if_neg e] at h
  by_cases e : x.op = 18
  · rw [if_pos e] at h
    obtain rfl := nextO_inj h; exact ⟨hs, .inr ⟨by omega, rfl, .inl rfl⟩⟩
  rw [if_neg e] at h
  by_cases e : x.op = 19
  · rw [if_pos e] at h
    split at h
    · split at h
      · obtain rfl := nextO_inj h; exact ⟨hs, .inr ⟨by omega, rfl, .inl rfl⟩⟩
      · cases h
    · cases h
  rw [if_neg e] at h
  by_cases e : x.op = 21
  · rw [if_pos e] at h
    obtain rfl := Option.some.inj h; exact ⟨hs, .inl ⟨e, rfl⟩⟩
  rw [if_neg e] at h
  by_cases e : x.op = 22
  · rw [if_pos e] at h
    obtain rfl := Option.some.inj h; exact ⟨hs, .inr ⟨by omega, rfl, .inr (.inr ⟨rfl, .inl rfl⟩)⟩⟩
  rw [if_neg e] at h
  cases h
/-- Where the loop of Step stands. -/
theorem stepG_spec {code : List Ins} {i fuel : Nat} {first : Bool} {rs : List Fr} {f : Fr} {s : St} {notes : List (Int × Int)} {R : R2} (h : stepG code i (fuel + 1) first rs f s notes = some R) :
    ∃ (p : Nat) (x : Ins), f.at_ = (p : Int) ∧ code[p]? = some x ∧ mayB x = true ∧
      ((first = false ∧ 5 ≤ x.op ∧ x.op ≤ 7 ∧ R = ⟨rs, f, notes, 0, 0, s⟩) ∨
      (¬ (first = false ∧ 5 ≤ x.op ∧ x.op ≤ 7) ∧ x.op = 12 ∧ rs.length < 15 ∧ stepG code i fuel false (f.goes :: rs) ⟨x.n, f.r⟩ s notes = some R) ∨
      (¬ (first = false ∧ 5 ≤ x.op ∧ x.op ≤ 7) ∧ x.op = 13 ∧ ∃ g rs', rs = g :: rs' ∧ stepG code i fuel false rs' ((g.set 0 (f.R 0)).set 1 (f.R 1)) s notes = some R) ∨
      (¬ (first = false ∧ 5 ≤ x.op ∧ x.op ≤ 7) ∧ x.op ≠ 12 ∧ x.op ≠ 13 ∧ ∃ r, oneP x i f s = some r ∧
        ((r.how = 3 ∧ R = ⟨rs, if r.how = 2 then r.f else { r.f with at_ := f.at_ + 1 }, if x.op = 21 then notes ++ [(r.nk, r.nv)] else notes, r.came, if r.came = 2 then (if r.how = 2 then r.f else { r.f with at_ := f.at_ + 1 }).R x.a.toNat else 0, r.s⟩) ∨
         (r.how ≠ 3 ∧ stepG code i fuel false rs (if r.how = 2 then r.f else { r.f with at_ := f.at_ + 1 }) r.s (if x.op = 21 then notes ++ [(r.nk, r.nv)] else notes) = some R)))) := by
  rw [stepG.eq_def] at h
  dsimp only at h
  by_cases h0 : f.at_ < 0
  · rw [if_pos h0] at h; cases h
  rw [if_neg h0] at h
  cases hx : code[f.at_.toNat]? with
  | none => rw [hx] at h; cases h
  | some x =>
    rw [hx] at h
    dsimp only at h
    refine ⟨f.at_.toNat, x, by omega, hx, ?_⟩
    cases hm : mayB x with
    | false => rw [hm, if_pos rfl] at h; cases h
    | true =>
      refine ⟨rfl, ?_⟩
      rw [if_neg (by rw [hm]; decide)] at h
      by_cases h1 : first = false ∧ 5 ≤ x.op ∧ x.op ≤ 7
      · rw [if_pos h1] at h
        exact .inl ⟨h1.1, h1.2.1, h1.2.2, (Option.some.inj h).symm⟩
      rw [if_neg h1] at h
      by_cases h2 : x.op = 12
      · rw [if_pos h2] at h
        by_cases h3 : 15 ≤ rs.length
        · rw [if_pos h3] at h; cases h
        · rw [if_neg h3] at h
          exact .inr (.inl ⟨h1, h2, by omega, h⟩)
      rw [if_neg h2] at h
      by_cases h3 : x.op = 13
      · rw [if_pos h3] at h
        cases rs with
        | nil => cases h
        | cons g rs' => exact .inr (.inr (.inl ⟨h1, h3, g, rs', rfl, h⟩))
      rw [if_neg h3] at h
      cases ho : oneP x i f s with
      | none => rw [ho] at h; cases h
      | some r =>
        rw [ho] at h
        dsimp only at h
        refine .inr (.inr (.inr ⟨h1, h2, h3, r, rfl, ?_⟩))
        by_cases h4 : r.how = 3
        · rw [if_pos h4] at h
          exact .inl ⟨h4, (Option.some.inj h).symm⟩
        · rw [if_neg h4] at h
          exact .inr ⟨h4, h⟩
theorem list16 {l : List Int} (h : l.length = 16) : ∃ r0 r1 r2 r3 r4 r5 r6 r7 r8 r9 r10 r11 r12 r13 r14 r15, l = [r0, r1, r2, r3, r4, r5, r6, r7, r8, r9, r10, r11, r12, r13, r14, r15] := by
  match l, h with
  | [r0, r1, r2, r3, r4, r5, r6, r7, r8, r9, r10, r11, r12, r13, r14, r15], _ => exact ⟨_, _, _, _, _, _, _, _, _, _, _, _, _, _, _, _, rfl⟩
/-- A new box, and all of it written. -/
theorem new_there (w : World) (cs : List Value) (T : Nat) : (w.alloc (.cells cs.toArray T)).there w.heap.size 0 cs.length := by
  intro j hj
  have h1 := box_cell w cs T (List.getElem?_eq_getElem hj)
  refine ⟨?_, (IsT.new w cs.toArray T).frozen _⟩
  rw [Nat.zero_add, h1]
  rfl
theorem IsT.sets {k T g : Nat} : ∀ (vs : List Value) (o : Nat) (w : World), IsT k T w → IsT k T (w.setCells g o vs)
  | [], _, _, h => h
  | v :: r, o, w, h => IsT.sets r (o + 1) _ (h.set _ v)
theorem below_sets {n g : Nat} {w : World} (hg : n ≤ g) : ∀ (vs : List Value) (o : Nat) (W : World), Below n w W → Below n w (W.setCells g o vs)
  | [], _, _, h => h
  | v :: r, o, W, h => below_sets hg r (o + 1) _ (h.setCell (p := ⟨g, o, none⟩) hg v)
theorem new_sets (w : World) (cs vs : List Value) (T : Nat) (h : vs.length = cs.length) : Bx w.heap.size T vs ((w.alloc (.cells cs.toArray T)).setCells w.heap.size 0 vs) := by
  refine ⟨IsT.sets vs 0 _ (IsT.new _ _ _), fun i v hv => ?_⟩
  have := World.rangeAt_setCells_same _ _ 0 vs (by rw [h]; exact new_there w cs T) i v hv
  simpa using this
theorem new_below (w : World) (cs vs : List Value) (T : Nat) : Below w.heap.size w ((w.alloc (.cells cs.toArray T)).setCells w.heap.size 0 vs) := below_sets (Nat.le_refl _) vs 0 _ ((Below.refl _ _).alloc (Nat.le_refl _) _)
/-- What Step tells. -/
def StepPost (w0 : World) (B bW bT bL : Nat) (R : R2) (e : Ending) (w : World) : Prop := ∃ AF cF AN cN, e = .returned (.tuple #[.slice AF (R.rs.length + 1) cF, .slice AN R.notes.length cN, .int .i64 R.how, .int .i64 R.val]) ∧
  SInv w0 B bW bT bL (.slice AF (R.rs.length + 1) cF) (.slice AN R.notes.length cN) R.rs R.f R.s R.notes w
set_option maxRecDepth 100000 in
set_option maxHeartbeats 12800000 in
theorem step_calls {okc : Nat → Prop} (w : World) (B bW bT bL i : Nat) (code : List Ins) (Ac : Option Addr) (cc : Nat) (rs : List Fr) (f : Fr) (s : St) (vF : Value) (R : R2) (hC : kIns.C okc w Ac code) (hok : ∀ k, okc k → k < B) (hcl : code.length ≤ 100000)
    (hfo : w.ownsRow B 68 17 vF (rs.length + 1) ((rs.reverse ++ [f]).flatMap Fr.enc)) (hln : ∀ x ∈ rs.reverse ++ [f], x.r.length = 16) (hrl : rs.length ≤ 15) (hW : WAt B bW bT bL s w) (hsl : s.cells.length ≤ 4096) (hst : stepG code i 200 true rs f s [] = some R) :
    Calls Try.prog 36 #[.pointer (some ⟨bW, 0, none⟩), .slice Ac code.length cc, .int .i64 i, vF] w (StepPost w B bW bT bL R) := by
  have hflen : (rs.reverse ++ [f]).length = rs.length + 1 := by simp
  have hcp := fun w' (h : w'.ownsRow B 68 17 vF (rs.length + 1) ((rs.reverse ++ [f]).flatMap Fr.enc)) => copied_calls w' B vF (rs.reverse ++ [f]) (by rw [hflen]; exact h) (by rw [hflen]; omega) (by rw [hflen]; omega)
  rw [hflen] at hcp
  have HC := Lib.hid hC
  have HFO := Lib.hid hfo
  have HLN := Lib.hid hln
  have HW := Lib.hid hW
  have HST := Lib.hid hst
  clear hC hfo hln hW hst hflen
  go_enter Try.func36, Try.ntmps36
  go_wp2_with fail
  refine (hcp _ HFO.out).mono ?_
  rintro e w1 ⟨AF, cF, rfl, ho1, hb1⟩
  have I1 := Lib.hid (show SInv w B bW bT bL (.slice AF (rs.length + 1) cF) (.slice none 0 0) rs f s [] w1 from ⟨ho1, World.ownsRow_nil _ _ _ _, HW.out.below hb1, Ch.below hb1, HLN.out, hsl, hrl⟩)
  clear hcp ho1 hb1 HFO HLN HW
  go_wp2_with fail
  go_loopw [3, 12, 13] (fun vF vN n wr => ∃ (k : Nat) (rs : List Fr) (f : Fr) (s : St) (notes : List (Int × Int)), n = .int .i64 k ∧ k ≤ 200 ∧ SInv w B bW bT bL vF vN rs f s notes wr ∧ notes.length ≤ k ∧ Hid (stepG code i (200 - k) (k == 0) rs f s notes = some R)) (fun _ _ n _ => 200 - (intOf n).toNat)
  case atStart => exact ⟨0, rs, f, s, [], rfl, by omega, I1.out, Nat.le_refl _, HST⟩
  case round =>
    clear I1 HST hsl hrl
    obtain ⟨k, rs, f, s, notes, rfl, hk, hI, hnl, hS⟩ := hrel
    have HI := Lib.hid hI
    obtain ⟨g, cap, rfl, hcap, hgw, hgT⟩ := hI.form
    obtain ⟨AN, cN, rfl, hcN⟩ := note_form hI.no
    have hrl := hI.rl
    have hbs := hI.wa.bB.2.2.2
    clear hI
    by_cases hlt : k < 200
    · have hS2 := hS.out
      rw [show 200 - k = (199 - k) + 1 by omega] at hS2
      obtain ⟨p, x, hp, hx, hm, hcases⟩ := stepG_spec hS2
      have HX := Lib.hid hx
      have HCS := Lib.hid hcases
      have d0 : decide ((k : Int) < 200) = true := decide_eq_true (by omega)
      have hpl : p < code.length := (List.getElem?_eq_some_iff.1 hx).1
      have hat := row_at HI.out.fo HI.out.ln HI.out.top
      rw [hp] at hat
      have d1 : decide ((p : Int) < 0) = false := decide_eq_false (by omega)
      have d2 : decide ((code.length : Int) ≤ (p : Int)) = false := decide_eq_false (by omega)
      have HCw := Lib.hid (HI.out.ch.old hok (fun _ h => h.elim) HC.out)
      obtain ⟨ad, o, rfl, hxo, q0, q1, q2, q3, q4⟩ := at_ins HCw.out p hpl
      obtain rfl : o = x := by have := HX.out; rw [hxo] at this; exact Option.some.inj this
      have HP := Lib.hid hp
      have HM := Lib.hid hm
      clear hS hS2 hcases hx hxo hp hm
      have t0 : (0 : Int) ≤ (rs.length : Int) := by omega
      have t1 : (rs.length : Int) < (rs.length : Int) + 1 := by omega
      go_wp2_with fail
      refine (may_calls o _ HM.out).mono ?_
      rintro e w2 ⟨rfl, hb2⟩
      have X2 := Lib.hid ((Bx.new wr [.int .i64 o.op, .int .i64 o.a, .int .i64 o.b, .int .i64 o.c, .int .i64 o.n] 95).below hb2)
      have I2 := Lib.hid (HI.out.below (below_step ((Below.refl _ _).alloc (Nat.le_refl _) _) hb2))
      have hxg : g ≠ wr.heap.size := by have := hgT.lt; omega
      have hxs : wr.heap.size < w2.heap.size := X2.out.ty.lt
      have hww : w.heap.size ≤ wr.heap.size := HI.out.ch.on.size
      generalize wr.heap.size = bX at X2 hxg hxs hww ⊢
      clear hb2 q0 q1 q2 q3 q4 hat HI hgT HCw hbs
      have k0 := X2.out.cell 0 _ rfl
      have k1 := X2.out.cell 1 _ rfl
      have k2 := X2.out.cell 2 _ rfl
      have k3 := X2.out.cell 3 _ rfl
      have k4 := X2.out.cell 4 _ rfl
      rcases HCS.out with ⟨c1, c2, c3, rfl⟩ | ⟨c1, c2, c3, hS3⟩ | ⟨c1, c2, g0, rs', rfl, hS3⟩ | ⟨c1, c2, c3, r, hr, hS3⟩
      · have hk0 : 0 < k := by simp at c1; omega
        have e0 : decide (0 < (k : Int)) = true := decide_eq_true (by omega)
        have e0' : decide (0 < k) = true := decide_eq_true hk0
        have e1 : decide (5 ≤ o.op) = true := decide_eq_true c2
        have e2 : decide (o.op ≤ 7) = true := decide_eq_true c3
        clear c1 c2 c3 HCS
        go_wp2_with fail
        refine bodyPost_ret (v := .tuple #[.slice (some ⟨g, 0, none⟩) (rs.length + 1) cap, .slice AN notes.length cN, .int .i64 0, .int .i64 0]) (by simp [results, Try.results36, go_sem]) rfl ?_
        exact ⟨_, _, _, _, rfl, I2.out⟩
      · have hx12 : o.op = 12 := c2
        have hgT := own_ty I2.out.fo (g := g) rfl
        have hat2 := row_at I2.out.fo I2.out.ln I2.out.top
        rw [HP.out] at hat2
        have fzg := fun j => hgT.frozen j
        have e3 : decide ((16 : Int) ≤ (rs.length : Int) + 1) = false := decide_eq_false (by omega)
        have hf16 : f.r.length = 16 := I2.out.ln f (by simp)
        have I3 := Lib.hid (I2.out.setTop (j := 0) (f' := f.goes) (u := .int .i64 ((p : Int) + 1)) hf16 (by simp [Fr.enc, Fr.goes, i64V, HP.out]) (by decide))
        rw [c2] at k0
        have C3 := Lib.hid c3
        have HS3 := Lib.hid hS3
        obtain ⟨b0, hb0⟩ : ∃ b, decide (0 < k) = b := ⟨_, rfl⟩
        have hb1 : decide (0 < (k : Int)) = b0 := by rw [← hb0]; simp
        clear c1 c3 hS3 HCS
        cases b0
        all_goals
          go_wp2_with fail
          obtain ⟨y3, hy3⟩ : ∃ y, y = w2.setCell ⟨g, rs.length * 17, none⟩ (.int .i64 ((p : Int) + 1)) := ⟨_, rfl⟩
          have X3 := Lib.hid (X2.out.other (g := g) (i := rs.length * 17) (u := .int .i64 ((p : Int) + 1)) (Ne.symm hxg))
          have J3 := Lib.hid (show SInv w B bW bT bL (.slice (some ⟨g, 0, none⟩) (rs.length + 1) cap) (.slice AN notes.length cN) rs f.goes s notes (w2.setCell ⟨g, rs.length * 17, none⟩ (.int .i64 ((p : Int) + 1))) from I3.out)
          rw [← hy3] at X3 J3 ⊢
          clear hy3 I3 I2 X2 k0 k1 k2 k3 k4 fzg hat2 hgT
          have hrg : y3.rangeAt g (rs.length * 17 + 1) (f.r.map i64V) := by
            intro j v hv
            have hj : j < 16 := by have := (List.getElem?_eq_some_iff.1 hv).1; simp [hf16] at this; exact this
            have h1 := row_R J3.out.fo J3.out.ln J3.out.top hj
            rw [show rs.length * 17 + 1 + j = rs.length * 17 + (1 + j) by omega, h1]
            rw [List.getElem?_map, List.getElem?_eq_getElem (by omega)] at hv
            have hv := Option.some.inj hv
            rw [← hv]
            simp [Fr.R, Fr.goes, i64V, List.getD_eq_getElem?_getD, List.getElem?_eq_getElem (show j < f.r.length by omega)]
          obtain ⟨r0, r1, r2, r3, r4, r5, r6, r7, r8, r9, r10, r11, r12, r13, r14, r15, hr16⟩ := list16 hf16
          have hrl : f.r.map i64V = [.int .i64 r0, .int .i64 r1, .int .i64 r2, .int .i64 r3, .int .i64 r4, .int .i64 r5, .int .i64 r6, .int .i64 r7, .int .i64 r8, .int .i64 r9, .int .i64 r10, .int .i64 r11, .int .i64 r12, .int .i64 r13, .int .i64 r14, .int .i64 r15] := by rw [hr16]; rfl
          rw [hrl] at hrg
          have hi66 : (Try.prog.info? 66).map (·.size) = some 16 := by kernel_rfl
          have HI66 := Lib.hid hi66
          obtain ⟨i0, hi0, hz0, hs0, hb0⟩ := info_parts info_fr
          have hu : Try.prog.underlying 69 = some (.slice 68) := rfl
          have HR16 := Lib.hid hr16
          clear hi66 hrl hr16
          refine Mix.region [0, 1, 2, 3, 4, 5, 6, 7, 8] [9, 10, 11] 1 (fun w' => Bx bX 95 [.int .i64 o.op, .int .i64 o.a, .int .i64 o.b, .int .i64 o.c, .int .i64 o.n] w' ∧ w'.rangeAt g (rs.length * 17 + 1) [.int .i64 r0, .int .i64 r1, .int .i64 r2, .int .i64 r3, .int .i64 r4, .int .i64 r5, .int .i64 r6, .int .i64 r7, .int .i64 r8, .int .i64 r9, .int .i64 r10, .int .i64 r11, .int .i64 r12, .int .i64 r13, .int .i64 r14, .int .i64 r15]) (by kernel_rfl) (by kernel_rfl) ⟨X3.out.drew, by simpa using hrg⟩ ?_
          iterate 7 (apply Mix.step; (· rfl); (· intro w' hR V hV; have q4 := hR.1.cell 4 _ rfl; go_simp; exact hV); intro K hK; go_simp; refine hK _ ?_; clear hK K)
          (apply Mix.step; (· rfl); (· intro w' hR V hV; have c0 := hR.2 0 _ rfl; have c1 := hR.2 1 _ rfl; have c2 := hR.2 2 _ rfl; have c3 := hR.2 3 _ rfl; have c4 := hR.2 4 _ rfl; have c5 := hR.2 5 _ rfl; have c6 := hR.2 6 _ rfl; have c7 := hR.2 7 _ rfl; have c8 := hR.2 8 _ rfl; have c9 := hR.2 9 _ rfl; have c10 := hR.2 10 _ rfl; have c11 := hR.2 11 _ rfl; have c12 := hR.2 12 _ rfl; have c13 := hR.2 13 _ rfl; have c14 := hR.2 14 _ rfl; have c15 := hR.2 15 _ rfl; simp only [Nat.add_zero] at c0; go_simp; exact hV); intro K hK; go_simp; refine hK _ ?_; clear hK K)
          (apply Mix.step; (· rfl); (· intro w' hR V hV; go_simp; exact hV); intro K hK; go_simp; refine hK _ ?_; clear hK K)
          refine Mix.nil ?_
          simp only [Mix.Tail, Mix.pick, List.getElem?_cons_succ, List.getElem?_cons_zero]
          go_wp2_with fail
          refine ⟨⟨by have hx := X3.out; rw [hx12] at hx; exact (hx.alloc _).drew, fun j v hv => by simpa using cell_alloc_of (hrg j v hv) _⟩, ?_⟩
          go_wp2_with (first | (at_builtin; go_loud (refine wpList_append_uni rfl _ _ 69 rfl w.heap.size 68 i0 _ 17 136 hu hi0 hz0 hs0 hb0 rfl (by decide) _ _ _ rfl (by exact own_below J3.out.fo (by (repeat (with_reducible first | exact Below.refl _ _ | assumption | apply below_alloc | apply below_drewN | apply below_drew1 | (refine below_set ?_ (by simp only [alloc_size]; omega)) | (refine below_step ?_ (by assumption)))))) _ 1 [.int .i64 o.n, .int .i64 r0, .int .i64 r1, .int .i64 r2, .int .i64 r3, .int .i64 r4, .int .i64 r5, .int .i64 r6, .int .i64 r7, .int .i64 r8, .int .i64 r9, .int .i64 r10, .int .i64 r11, .int .i64 r12, .int .i64 r13, .int .i64 r14, .int .i64 r15] rfl rfl (Src.of_block (by exact alloc_heap_at y3 _) (by intro u hu; simp only [List.mem_cons, List.not_mem_nil, or_false] at hu; rcases hu with rfl | rfl | rfl | rfl | rfl | rfl | rfl | rfl | rfl | rfl | rfl | rfl | rfl | rfl | rfl | rfl | rfl <;> rfl)) (by unfold maxLen; omega) (by omega) (by exact Nat.le_trans J3.out.ch.on.size (Nat.le_trans (Nat.le_succ _) (Nat.le_of_eq (alloc_size y3 _).symm))) ?_)) | fail)
          intro A3 c3 w4 o3 g3 h3'
          have J4 := Lib.hid (SInv.push (f' := ⟨o.n, f.r⟩) (J3.out.below (by (repeat (with_reducible first | exact Below.refl _ _ | assumption | apply below_alloc | apply below_drewN | apply below_drew1 | (refine below_set ?_ (by simp only [alloc_size]; omega)) | (refine below_step ?_ (by assumption)))))) (by simpa [Fr.enc, HR16.out, i64V] using o3) g3 hf16 C3.out)
          clear o3 g3 h3' J3 X3 hrg
          go_wp2_with fail
          refine Mix.calm_end ?_
          go_wp2_with fail
          go_roundw
          case rel => exact ⟨k + 1, f.goes :: rs, ⟨o.n, f.r⟩, s, notes, by go_num, by omega, by simpa using J4.out, by omega, Lib.hid (by have := HS3.out; rwa [show 200 - (k + 1) = 199 - k by omega, show (k + 1 == 0) = false by simp])⟩
          case measure => simp [intOf]; omega
      · as_aux_lemma =>
        have hx13 : o.op = 13 := c2
        rw [c2] at k0
        have hgT := own_ty I2.out.fo (g := g) rfl
        have fzg := fun j => hgT.frozen j
        have e3 : decide ((rs'.length : Int) + 1 = 0) = false := decide_eq_false (by omega)
        have e4 : (rs'.length : Int) + 1 - 1 = rs'.length := by omega
        have t2 : (0 : Int) ≤ (rs'.length : Int) + 1 := by omega
        have t3 : (rs'.length : Int) < (rs'.length : Int) + 1 := by omega
        have t4 : (0 : Int) ≤ (rs'.length : Int) := by omega
        have wz : IntKind.i64.wrap (rs'.length : Int) = (rs'.length : Int) := i64_small (by omega) (by simp at hrl; omega)
        have t5 : (rs'.length : Int) < (rs'.length : Int) + 1 + 1 := by omega
        have hf16 : f.r.length = 16 := I2.out.ln f (by simp)
        have hg16 : g0.r.length = 16 := I2.out.ln g0 (by simp)
        have q0 := row_R (k := 0) I2.out.fo I2.out.ln I2.out.top (by decide)
        have I3 := Lib.hid (I2.out.setBelow (j := 1) (g1 := g0.set 0 (f.R 0)) (u := .int .i64 (f.R 0)) (by simp [Fr.set, hg16]) (by simp [Fr.enc, Fr.set, i64V, List.map_set]) (by decide))
        have q1 := row_R (k := 1) I3.out.fo I3.out.ln I3.out.top (by decide)
        have p0 := row_R (t := rs'.length) (f := g0) (k := 0) I2.out.fo I2.out.ln (by simp) (by decide)
        have p1 := row_R (t := rs'.length) (f := g0.set 0 (f.R 0)) (k := 1) I3.out.fo I3.out.ln (by simp) (by decide)
        have t6 : (rs'.length : Int) + 1 ≤ (cap : Int) := by simp at hcap; omega
        have I4 := Lib.hid (I3.out.setBelow (j := 2) (g1 := (g0.set 0 (f.R 0)).set 1 (f.R 1)) (u := .int .i64 (f.R 1)) (by simp [Fr.set, hg16]) (by simp [Fr.enc, Fr.set, i64V, List.map_set]) (by decide))
        have I5 := Lib.hid I4.out.pop
        have HS3 := Lib.hid hS3
        obtain ⟨b0, hb0⟩ : ∃ b, decide (0 < k) = b := ⟨_, rfl⟩
        have hb1 : decide (0 < (k : Int)) = b0 := by rw [← hb0]; simp
        clear c1 hS3 HCS I2 I3 I4
        cases b0
        all_goals
          go_wp2_with fail
          refine Mix.region [0, 1, 2, 3, 4, 5, 6, 7, 8, 9, 10, 11] [12] 0 (fun w' => w'.cell? ⟨g, (rs'.length + 1) * 17 + 1, none⟩ = some (.int .i64 (f.R 0))) (by kernel_rfl) (by kernel_rfl) (by simpa using q0) ?_
          iterate 12 (apply Mix.step; (· rfl); (· intro w' hR V hV; go_simp; exact hV); intro K hK; go_simp; refine hK _ ?_; clear hK K)
          refine Mix.nil ?_
          simp only [Mix.Tail, Mix.pick, List.getElem?_cons_succ, List.getElem?_cons_zero]
          go_wp2_with fail
          refine Mix.calm_end ?_
          go_wp2_with fail
          refine Mix.region [0, 1, 2, 3, 4, 5, 6, 7, 8, 9, 10, 11] [12] 0 (fun w' => w'.cell? ⟨g, (rs'.length + 1) * 17 + 1 + 1, none⟩ = some (.int .i64 (f.R 1))) (by kernel_rfl) (by kernel_rfl) (by simpa using q1) ?_
          iterate 12 (apply Mix.step; (· rfl); (· intro w' hR V hV; go_simp; exact hV); intro K hK; go_simp; refine hK _ ?_; clear hK K)
          refine Mix.nil ?_
          simp only [Mix.Tail, Mix.pick, List.getElem?_cons_succ, List.getElem?_cons_zero]
          go_wp2_with fail
          refine Mix.calm_end ?_
          go_wp2_with fail
          go_roundw
          case rel => exact ⟨k + 1, rs', (g0.set 0 (f.R 0)).set 1 (f.R 1), s, notes, by go_num, by omega, I5.out.below (by (repeat (with_reducible first | exact Below.refl _ _ | assumption | apply below_alloc | apply below_drewN | apply below_drew1 | (refine below_set ?_ (by simp only [alloc_size]; omega)) | (refine below_step ?_ (by assumption))))), by omega, Lib.hid (by have := HS3.out; rwa [show 200 - (k + 1) = 199 - k by omega, show (k + 1 == 0) = false by simp])⟩
          case measure => simp [intOf]; omega
      · have hxD : True := trivial
        have e12 : (o.op == 12) = false := by simpa using c2
        have e13 : (o.op == 13) = false := by simpa using c3
        have HS3 := Lib.hid hS3
        have HR := Lib.hid hr
        have HN := Lib.hid (And.intro c2 c3)
        have C1 := Lib.hid c1
        clear c1 c2 c3 hS3 hr HCS
        go_upto_region 14 with fail
        go_cut [67] from 24 to 179 (fun v wx => v = .bool false ∧ wx = w2)
        case first =>
          have hc1 := C1.out
          clear C1
          obtain ⟨b0, hb0⟩ : ∃ b, decide (0 < k) = b := ⟨_, rfl⟩
          have hb1 : decide (0 < (k : Int)) = b0 := by rw [← hb0]; simp
          obtain ⟨b1, hb2⟩ : ∃ b, decide (5 ≤ o.op) = b := ⟨_, rfl⟩
          obtain ⟨b2, hb3⟩ : ∃ b, decide (o.op ≤ 7) = b := ⟨_, rfl⟩
          have hbb : ¬ (b0 = true ∧ b1 = true ∧ b2 = true) := by
            rintro ⟨rfl, rfl, rfl⟩
            have h0 := of_decide_eq_true hb0
            exact hc1 ⟨by simp; omega, of_decide_eq_true hb2, of_decide_eq_true hb3⟩
          clear hc1
          cases b0 <;> cases b1 <;> cases b2
          all_goals first | exact absurd ⟨rfl, rfl, rfl⟩ hbb | skip
          all_goals
            clear hbb
            go_wp2_with fail
            go_meet
            case rel => exact ⟨rfl, rfl⟩
        case rest =>
          clear C1
          obtain ⟨rfl, rfl⟩ := hcut
          have hgT := own_ty I2.out.fo (g := g) rfl
          have fzg := fun j => hgT.frozen j
          have hf16 : f.r.length = 16 := I2.out.ln f (by simp)
          have HRG := Lib.hid (row_range I2.out.fo I2.out.ln I2.out.top)
          have HL := Lib.hid (Fr.len hf16)
          have hsz : (Try.prog.info? 68).map (·.size) = some 17 := by kernel_rfl
          have HSZ := Lib.hid hsz
          have hth := new_there wc [.int .i64 0, .int .i64 0, .int .i64 0, .int .i64 0, .int .i64 0, .int .i64 0, .int .i64 0, .int .i64 0, .int .i64 0, .int .i64 0, .int .i64 0, .int .i64 0, .int .i64 0, .int .i64 0, .int .i64 0, .int .i64 0, .int .i64 0] 68
          rw [show ([.int .i64 0, .int .i64 0, .int .i64 0, .int .i64 0, .int .i64 0, .int .i64 0, .int .i64 0, .int .i64 0, .int .i64 0, .int .i64 0, .int .i64 0, .int .i64 0, .int .i64 0, .int .i64 0, .int .i64 0, .int .i64 0, .int .i64 0] : List Value).length = f.enc.toArray.size by rw [List.size_toArray, HL.out]; rfl] at hth
          have HTH := Lib.hid hth
          have HS2 := Lib.hid (show (Try.prog.info? 68).map (·.size) = some f.enc.toArray.size by rw [List.size_toArray, HL.out]; exact HSZ.out)
          have HOC := Lib.hid (all_oneCell_toArray (fr_one f))
          clear hsz hth
          go_upto_region 28 with (first | (go_loud (refine wpList_load_mid rfl 68 _ rfl g (rs.length * 17) rfl _ _ HRG.out Try.underlying68 rfl (by rw [HL.out]; exact HSZ.out) ?_)) | (go_loud (refine wpList_store_mid rfl 68 _ _ rfl wc.heap.size 0 f.enc.toArray rfl rfl (by exact HTH.out) (by exact HS2.out) (by exact HOC.out) ?_)) | fail)
          have BB := (show Below wc.heap.size wc ((wc.alloc (.cells #[.int .i64 0, .int .i64 0, .int .i64 0, .int .i64 0, .int .i64 0, .int .i64 0, .int .i64 0, .int .i64 0, .int .i64 0, .int .i64 0, .int .i64 0, .int .i64 0, .int .i64 0, .int .i64 0, .int .i64 0, .int .i64 0, .int .i64 0] 68)).setCells wc.heap.size 0 f.enc) from new_below wc [.int .i64 0, .int .i64 0, .int .i64 0, .int .i64 0, .int .i64 0, .int .i64 0, .int .i64 0, .int .i64 0, .int .i64 0, .int .i64 0, .int .i64 0, .int .i64 0, .int .i64 0, .int .i64 0, .int .i64 0, .int .i64 0, .int .i64 0] _ _)
          have FB := Lib.hid (show FrAt wc.heap.size f ((wc.alloc (.cells #[.int .i64 0, .int .i64 0, .int .i64 0, .int .i64 0, .int .i64 0, .int .i64 0, .int .i64 0, .int .i64 0, .int .i64 0, .int .i64 0, .int .i64 0, .int .i64 0, .int .i64 0, .int .i64 0, .int .i64 0, .int .i64 0, .int .i64 0] 68)).setCells wc.heap.size 0 f.enc) from ⟨new_sets wc [.int .i64 0, .int .i64 0, .int .i64 0, .int .i64 0, .int .i64 0, .int .i64 0, .int .i64 0, .int .i64 0, .int .i64 0, .int .i64 0, .int .i64 0, .int .i64 0, .int .i64 0, .int .i64 0, .int .i64 0, .int .i64 0, .int .i64 0] f.enc _ HL.out, hf16⟩)
          have X5 := Lib.hid (X2.out.below BB)
          have I5 := Lib.hid (I2.out.below BB)
          have hB5 : B ≤ wc.heap.size := I2.out.wa.bB.2.2.2
          have hg5 : g ≠ wc.heap.size := by have := hgT.lt; omega
          have hw5 : w.heap.size ≤ wc.heap.size := I2.out.ch.on.size
          have hX5 : bX ≠ wc.heap.size := by omega
          have hsl5 : s.cells.length ≤ 4096 := I2.out.cl
          generalize (wc.alloc (.cells #[.int .i64 0, .int .i64 0, .int .i64 0, .int .i64 0, .int .i64 0, .int .i64 0, .int .i64 0, .int .i64 0, .int .i64 0, .int .i64 0, .int .i64 0, .int .i64 0, .int .i64 0, .int .i64 0, .int .i64 0, .int .i64 0, .int .i64 0] 68)).setCells wc.heap.size 0 f.enc = y5 at BB FB X5 I5 ⊢
          clear BB HTH HS2 HOC HRG I2 X2 k0 k1 k2 k3 k4 hxs hww fzg hgT
          generalize wc.heap.size = bF at FB hB5 hg5 hw5 hX5 ⊢
          have k0 := X5.out.cell 0 _ rfl
          have k1 := X5.out.cell 1 _ rfl
          have k2 := X5.out.cell 2 _ rfl
          have k3 := X5.out.cell 3 _ rfl
          have k4 := X5.out.cell 4 _ rfl
          go_wp2_with fail
          refine (one_calls y5 B bW bT bL bF i o f s r (may_reg HM.out) HR.out I5.out.wa FB.out hB5 (by omega)).mono ?_
          rintro e y6 ⟨rfl, hw6, hf6, hc6⟩
          have hfacts := oneP_facts HR.out hsl5
          obtain ⟨how, nk, nv, came, f1, s1⟩ := r
          dsimp only at hw6 hf6 hfacts ⊢
          have I6 := Lib.hid (I5.out.one hw5 FB.out.1.ty (by intro k hk e; subst e; exact hg5 (Option.some.inj hk)) hw6 hc6 hfacts.1)
          have X6 := Lib.hid (hc6.box X5.out hX5 (by decide) (by decide) (by decide) (by decide))
          have FB6 := Lib.hid hf6
          have HQ := Lib.hid hfacts.2
          clear hw6 hf6 hc6 hfacts FB X5 I5 k0 k1 k2 k3 k4 hsl5
          go_upto_region 29 with fail
          have BB := (show Below y6.heap.size y6 (y6.alloc (.cells #[.int .i64 nk, .int .i64 nv] 40)) from (Below.refl _ _).alloc (Nat.le_refl _) _)
          have NB := Lib.hid (Bx.new y6 [.int .i64 nk, .int .i64 nv] 40)
          have X7 := Lib.hid (X6.out.below BB)
          have FB7 := Lib.hid (show FrAt bF f1 _ from ⟨FB6.out.1.below BB, FB6.out.2⟩)
          have I7 := Lib.hid (I6.out.below BB)
          have hN5 : bX ≠ y6.heap.size := by have := X6.out.ty.lt; omega
          have hN6 : bF ≠ y6.heap.size := by have := FB6.out.1.ty.lt; omega
          have hN7 : g ≠ y6.heap.size := by have := (own_ty I6.out.fo (g := g) rfl).lt; omega
          change Code.wp _ _ _ _ (y6.alloc (.cells [.int .i64 nk, .int .i64 nv].toArray 40))
          generalize y6.alloc (.cells [.int .i64 nk, .int .i64 nv].toArray 40) = y7 at NB X7 FB7 I7 BB ⊢
          generalize y6.heap.size = bN at NB hN5 hN6 hN7 ⊢
          have hw6 := hw5
          clear BB X6 FB6 I6
          rcases HQ.out with ⟨o21, rfl⟩ | ⟨o21, rfl, rfl | rfl | ⟨rfl, rfl | rfl⟩⟩
          · as_aux_lemma =>
            have O21 := Lib.hid o21
            have e21 : (o.op == 21) = true := by simpa using o21
            clear o21
            have X8 := Lib.hid (X7.out.other (g := bF) (i := 0) (u := .int .i64 ((p : Int) + 1)) hX5)
            have FB8 := Lib.hid (show FrAt bF { f1 with at_ := (p : Int) + 1 } (y7.setCell ⟨bF, 0, none⟩ (.int .i64 ((p : Int) + 1))) from ⟨FB7.out.1.set 0 (.int .i64 ((p : Int) + 1)), FB7.out.2⟩)
            have I8 := Lib.hid (I7.out.boxSet (i := 0) (u := .int .i64 ((p : Int) + 1)) FB7.out.1.ty hw6 (Ne.symm hg5))
            have NB8 := Lib.hid (NB.out.other (g := bF) (i := 0) (u := .int .i64 ((p : Int) + 1)) (Ne.symm hN6))
            have fz0 := FB7.out.1.ty.frozen 0
            have f0 := FB7.out.1.cell 0 _ rfl
            clear X7 FB7 I7 NB
            go_upto_region 33 with fail
            clear fz0 f0
            generalize y7.setCell ⟨bF, 0, none⟩ (.int .i64 ((p : Int) + 1)) = y8 at X8 FB8 I8 NB8 ⊢
            obtain ⟨f2, hf2⟩ : ∃ f2 : Fr, f2 = { f1 with at_ := (p : Int) + 1 } := ⟨_, rfl⟩
            rw [← hf2] at FB8
            have HF2 := Lib.hid hf2
            clear hf2
            have HL2 := Lib.hid (Fr.len FB8.out.2)
            have HRG := Lib.hid (show y8.rangeAt bF 0 f2.enc from fun j v hv => by have := FB8.out.1.cell j v hv; rwa [Nat.zero_add])
            have HTH := Lib.hid (show y8.there g (rs.length * 17) f2.enc.toArray.size by rw [List.size_toArray, HL2.out]; exact row_there I8.out.fo I8.out.ln I8.out.top)
            have HS2 := Lib.hid (show (Try.prog.info? 68).map (·.size) = some f2.enc.toArray.size by rw [List.size_toArray, HL2.out]; exact HSZ.out)
            have HS1 := Lib.hid (show (Try.prog.info? 68).map (·.size) = some f2.enc.length by rw [HL2.out]; exact HSZ.out)
            have HOC := Lib.hid (all_oneCell_toArray (fr_one f2))
            have X9 := Lib.hid (show Bx bX 95 [.int .i64 o.op, .int .i64 o.a, .int .i64 o.b, .int .i64 o.c, .int .i64 o.n] (y8.setCells g (rs.length * 17) f2.enc) from X8.out.only (only_setCells (S := (· = g)) rfl _ _ _) hxg.symm)
            have NB9 := Lib.hid (show Bx bN 40 [.int .i64 nk, .int .i64 nv] (y8.setCells g (rs.length * 17) f2.enc) from NB8.out.only (only_setCells (S := (· = g)) rfl _ _ _) (Ne.symm hN7))
            have FB9 := Lib.hid (show FrAt bF f2 (y8.setCells g (rs.length * 17) f2.enc) from ⟨FB8.out.1.only (only_setCells (S := (· = g)) rfl _ _ _) (Ne.symm hg5), FB8.out.2⟩)
            have I9 := Lib.hid (I8.out.setsTop FB8.out.2)
            go_upto_region 34 with (first | (go_loud (refine wpList_load_mid rfl 68 _ rfl bF 0 rfl _ _ HRG.out Try.underlying68 rfl (by exact HS1.out) ?_)) | (go_loud (refine wpList_store_mid rfl 68 _ _ rfl g (rs.length * 17) f2.enc.toArray rfl rfl (by exact HTH.out) (by exact HS2.out) (by exact HOC.out) ?_)) | fail)
            generalize y8.setCells g (rs.length * 17) f2.enc = y9 at X9 NB9 FB9 I9 ⊢
            clear HRG HTH HS2 HS1 HOC X8 FB8 I8 NB8
            have k0 := X9.out.cell 0 _ rfl
            have k1 := X9.out.cell 1 _ rfl
            have n0 := NB9.out.cell 0 _ rfl
            have n1 := NB9.out.cell 1 _ rfl
            have HST : Hid (stepG code i (200 - (k + 1)) (k + 1 == 0) rs f2 s1 (notes ++ [(nk, nv)]) = some R) := by
              refine Lib.hid ?_
              rw [show 200 - (k + 1) = 199 - k by omega, show (k + 1 == 0) = false by simp, HF2.out]
              rcases HS3.out with ⟨h, _⟩ | ⟨_, h⟩
              · dsimp only at h; exact absurd h (by decide)
              · dsimp only at h; rw [if_neg (by decide), if_pos O21.out] at h
                rw [HP.out] at h; exact h
            obtain ⟨i0, hi0, hz0, hs0, hb0⟩ := info_parts info_note
            have hu : Try.prog.underlying 36 = some (.slice 40) := rfl
            obtain ⟨b4, hb4⟩ : ∃ b, (nk != -1) = b := ⟨_, rfl⟩
            cases b4
            all_goals
              go_wp2_with (first | (at_builtin; go_loud (refine wpList_append_uni rfl _ _ 36 rfl w.heap.size 40 i0 _ 2 16 hu hi0 hz0 hs0 hb0 rfl (by decide) _ _ _ rfl (by exact own_below I9.out.no (by (repeat (with_reducible first | exact Below.refl _ _ | assumption | apply below_alloc | apply below_drewN | apply below_drew1 | (refine below_set ?_ (by simp only [alloc_size]; omega)) | (refine below_step ?_ (by assumption)))))) _ 1 (noteEnc (nk, nv)) rfl rfl (Src.of_block (by exact alloc_heap_at y9 _) (by intro u hu; simp only [noteEnc, List.mem_cons, List.not_mem_nil, or_false] at hu; rcases hu with rfl | rfl <;> rfl)) (by unfold maxLen; omega) (by omega) (by exact Nat.le_trans I9.out.ch.on.size (Nat.le_trans (Nat.le_succ _) (Nat.le_of_eq (alloc_size y9 _).symm))) ?_)) | fail)
              intro A3 c3 z4 o3 g3 h3'
              have J4 := Lib.hid (SInv.note (p := (nk, nv)) (I9.out.below (by (repeat (with_reducible first | exact Below.refl _ _ | assumption | apply below_alloc | apply below_drewN | apply below_drew1 | (refine below_set ?_ (by simp only [alloc_size]; omega)) | (refine below_step ?_ (by assumption)))))) o3 g3)
              clear o3 g3 h3'
              go_wp2_with fail
              go_roundw
              case rel => first | exact ⟨k + 1, rs, f2, s1, notes ++ [(nk, nv)], by go_num, by omega, by simpa using J4.out, by simp; omega, HST⟩ | ((repeat apply Exists.intro); exact ⟨⟨k + 1, rs, f2, s1, notes ++ [(nk, nv)], by go_num, by omega, by simpa using J4.out, by simp; omega, HST⟩, rfl⟩)
              case measure => simp [intOf]; omega
          · as_aux_lemma =>
            have O21 := Lib.hid o21
            have e21 : (o.op == 21) = false := by simpa using o21
            clear o21
            have X8 := Lib.hid (X7.out.other (g := bF) (i := 0) (u := .int .i64 ((p : Int) + 1)) hX5)
            have FB8 := Lib.hid (show FrAt bF { f1 with at_ := (p : Int) + 1 } (y7.setCell ⟨bF, 0, none⟩ (.int .i64 ((p : Int) + 1))) from ⟨FB7.out.1.set 0 (.int .i64 ((p : Int) + 1)), FB7.out.2⟩)
            have I8 := Lib.hid (I7.out.boxSet (i := 0) (u := .int .i64 ((p : Int) + 1)) FB7.out.1.ty hw6 (Ne.symm hg5))
            have NB8 := Lib.hid (NB.out.other (g := bF) (i := 0) (u := .int .i64 ((p : Int) + 1)) (Ne.symm hN6))
            have fz0 := FB7.out.1.ty.frozen 0
            have f0 := FB7.out.1.cell 0 _ rfl
            clear X7 FB7 I7 NB
            go_upto_region 33 with fail
            clear fz0 f0
            generalize y7.setCell ⟨bF, 0, none⟩ (.int .i64 ((p : Int) + 1)) = y8 at X8 FB8 I8 NB8 ⊢
            obtain ⟨f2, hf2⟩ : ∃ f2 : Fr, f2 = { f1 with at_ := (p : Int) + 1 } := ⟨_, rfl⟩
            rw [← hf2] at FB8
            have HF2 := Lib.hid hf2
            clear hf2
            have HL2 := Lib.hid (Fr.len FB8.out.2)
            have HRG := Lib.hid (show y8.rangeAt bF 0 f2.enc from fun j v hv => by have := FB8.out.1.cell j v hv; rwa [Nat.zero_add])
            have HTH := Lib.hid (show y8.there g (rs.length * 17) f2.enc.toArray.size by rw [List.size_toArray, HL2.out]; exact row_there I8.out.fo I8.out.ln I8.out.top)
            have HS2 := Lib.hid (show (Try.prog.info? 68).map (·.size) = some f2.enc.toArray.size by rw [List.size_toArray, HL2.out]; exact HSZ.out)
            have HS1 := Lib.hid (show (Try.prog.info? 68).map (·.size) = some f2.enc.length by rw [HL2.out]; exact HSZ.out)
            have HOC := Lib.hid (all_oneCell_toArray (fr_one f2))
            have X9 := Lib.hid (show Bx bX 95 [.int .i64 o.op, .int .i64 o.a, .int .i64 o.b, .int .i64 o.c, .int .i64 o.n] (y8.setCells g (rs.length * 17) f2.enc) from X8.out.only (only_setCells (S := (· = g)) rfl _ _ _) hxg.symm)
            have NB9 := Lib.hid (show Bx bN 40 [.int .i64 (-1), .int .i64 nv] (y8.setCells g (rs.length * 17) f2.enc) from NB8.out.only (only_setCells (S := (· = g)) rfl _ _ _) (Ne.symm hN7))
            have FB9 := Lib.hid (show FrAt bF f2 (y8.setCells g (rs.length * 17) f2.enc) from ⟨FB8.out.1.only (only_setCells (S := (· = g)) rfl _ _ _) (Ne.symm hg5), FB8.out.2⟩)
            have I9 := Lib.hid (I8.out.setsTop FB8.out.2)
            go_upto_region 34 with (first | (go_loud (refine wpList_load_mid rfl 68 _ rfl bF 0 rfl _ _ HRG.out Try.underlying68 rfl (by exact HS1.out) ?_)) | (go_loud (refine wpList_store_mid rfl 68 _ _ rfl g (rs.length * 17) f2.enc.toArray rfl rfl (by exact HTH.out) (by exact HS2.out) (by exact HOC.out) ?_)) | fail)
            generalize y8.setCells g (rs.length * 17) f2.enc = y9 at X9 NB9 FB9 I9 ⊢
            clear HRG HTH HS2 HS1 HOC X8 FB8 I8 NB8
            have k0 := X9.out.cell 0 _ rfl
            have k1 := X9.out.cell 1 _ rfl
            have n0 := NB9.out.cell 0 _ rfl
            have n1 := NB9.out.cell 1 _ rfl
            have HST : Hid (stepG code i (200 - (k + 1)) (k + 1 == 0) rs f2 s1 notes = some R) := by
              refine Lib.hid ?_
              rw [show 200 - (k + 1) = 199 - k by omega, show (k + 1 == 0) = false by simp, HF2.out]
              rcases HS3.out with ⟨h, _⟩ | ⟨_, h⟩
              · dsimp only at h; exact absurd h (by decide)
              · dsimp only at h; rw [if_neg (by decide), if_neg O21.out] at h
                rw [HP.out] at h; exact h
            go_wp2_with fail
            go_roundw
            case rel => first | exact ⟨k + 1, rs, f2, s1, notes, by go_num, by omega, I9.out, by omega, HST⟩ | ((repeat apply Exists.intro); exact ⟨⟨k + 1, rs, f2, s1, notes, by go_num, by omega, I9.out, by omega, HST⟩, rfl⟩)
            case measure => simp [intOf]; omega
          · as_aux_lemma =>
            have O21 := Lib.hid o21
            have e21 : (o.op == 21) = false := by simpa using o21
            clear o21
            have X8 := X7
            have FB8 := FB7
            have I8 := I7
            have NB8 := NB
            clear X7 FB7 I7 NB
            go_upto_region 33 with fail
            generalize y7 = y8 at X8 FB8 I8 NB8 ⊢
            obtain ⟨f2, hf2⟩ : ∃ f2 : Fr, f2 = f1 := ⟨_, rfl⟩
            rw [← hf2] at FB8
            have HF2 := Lib.hid hf2
            clear hf2
            have HL2 := Lib.hid (Fr.len FB8.out.2)
            have HRG := Lib.hid (show y8.rangeAt bF 0 f2.enc from fun j v hv => by have := FB8.out.1.cell j v hv; rwa [Nat.zero_add])
            have HTH := Lib.hid (show y8.there g (rs.length * 17) f2.enc.toArray.size by rw [List.size_toArray, HL2.out]; exact row_there I8.out.fo I8.out.ln I8.out.top)
            have HS2 := Lib.hid (show (Try.prog.info? 68).map (·.size) = some f2.enc.toArray.size by rw [List.size_toArray, HL2.out]; exact HSZ.out)
            have HS1 := Lib.hid (show (Try.prog.info? 68).map (·.size) = some f2.enc.length by rw [HL2.out]; exact HSZ.out)
            have HOC := Lib.hid (all_oneCell_toArray (fr_one f2))
            have X9 := Lib.hid (show Bx bX 95 [.int .i64 o.op, .int .i64 o.a, .int .i64 o.b, .int .i64 o.c, .int .i64 o.n] (y8.setCells g (rs.length * 17) f2.enc) from X8.out.only (only_setCells (S := (· = g)) rfl _ _ _) hxg.symm)
            have NB9 := Lib.hid (show Bx bN 40 [.int .i64 (-1), .int .i64 nv] (y8.setCells g (rs.length * 17) f2.enc) from NB8.out.only (only_setCells (S := (· = g)) rfl _ _ _) (Ne.symm hN7))
            have FB9 := Lib.hid (show FrAt bF f2 (y8.setCells g (rs.length * 17) f2.enc) from ⟨FB8.out.1.only (only_setCells (S := (· = g)) rfl _ _ _) (Ne.symm hg5), FB8.out.2⟩)
            have I9 := Lib.hid (I8.out.setsTop FB8.out.2)
            go_upto_region 34 with (first | (go_loud (refine wpList_load_mid rfl 68 _ rfl bF 0 rfl _ _ HRG.out Try.underlying68 rfl (by exact HS1.out) ?_)) | (go_loud (refine wpList_store_mid rfl 68 _ _ rfl g (rs.length * 17) f2.enc.toArray rfl rfl (by exact HTH.out) (by exact HS2.out) (by exact HOC.out) ?_)) | fail)
            generalize y8.setCells g (rs.length * 17) f2.enc = y9 at X9 NB9 FB9 I9 ⊢
            clear HRG HTH HS2 HS1 HOC X8 FB8 I8 NB8
            have k0 := X9.out.cell 0 _ rfl
            have k1 := X9.out.cell 1 _ rfl
            have n0 := NB9.out.cell 0 _ rfl
            have n1 := NB9.out.cell 1 _ rfl
            have HST : Hid (stepG code i (200 - (k + 1)) (k + 1 == 0) rs f2 s1 notes = some R) := by
              refine Lib.hid ?_
              rw [show 200 - (k + 1) = 199 - k by omega, show (k + 1 == 0) = false by simp, HF2.out]
              rcases HS3.out with ⟨h, _⟩ | ⟨_, h⟩
              · dsimp only at h; exact absurd h (by decide)
              · dsimp only at h; rw [if_pos rfl, if_neg O21.out] at h
                exact h
            go_wp2_with fail
            go_roundw
            case rel => first | exact ⟨k + 1, rs, f2, s1, notes, by go_num, by omega, I9.out, by omega, HST⟩ | ((repeat apply Exists.intro); exact ⟨⟨k + 1, rs, f2, s1, notes, by go_num, by omega, I9.out, by omega, HST⟩, rfl⟩)
            case measure => simp [intOf]; omega
          · as_aux_lemma =>
            have O21 := Lib.hid o21
            have e21 : (o.op == 21) = false := by simpa using o21
            clear o21
            have X8 := Lib.hid (X7.out.other (g := bF) (i := 0) (u := .int .i64 ((p : Int) + 1)) hX5)
            have FB8 := Lib.hid (show FrAt bF { f1 with at_ := (p : Int) + 1 } (y7.setCell ⟨bF, 0, none⟩ (.int .i64 ((p : Int) + 1))) from ⟨FB7.out.1.set 0 (.int .i64 ((p : Int) + 1)), FB7.out.2⟩)
            have I8 := Lib.hid (I7.out.boxSet (i := 0) (u := .int .i64 ((p : Int) + 1)) FB7.out.1.ty hw6 (Ne.symm hg5))
            have NB8 := Lib.hid (NB.out.other (g := bF) (i := 0) (u := .int .i64 ((p : Int) + 1)) (Ne.symm hN6))
            have fz0 := FB7.out.1.ty.frozen 0
            have f0 := FB7.out.1.cell 0 _ rfl
            clear X7 FB7 I7 NB
            go_upto_region 33 with fail
            clear fz0 f0
            generalize y7.setCell ⟨bF, 0, none⟩ (.int .i64 ((p : Int) + 1)) = y8 at X8 FB8 I8 NB8 ⊢
            obtain ⟨f2, hf2⟩ : ∃ f2 : Fr, f2 = { f1 with at_ := (p : Int) + 1 } := ⟨_, rfl⟩
            rw [← hf2] at FB8
            have HF2 := Lib.hid hf2
            clear hf2
            have HL2 := Lib.hid (Fr.len FB8.out.2)
            have HRG := Lib.hid (show y8.rangeAt bF 0 f2.enc from fun j v hv => by have := FB8.out.1.cell j v hv; rwa [Nat.zero_add])
            have HTH := Lib.hid (show y8.there g (rs.length * 17) f2.enc.toArray.size by rw [List.size_toArray, HL2.out]; exact row_there I8.out.fo I8.out.ln I8.out.top)
            have HS2 := Lib.hid (show (Try.prog.info? 68).map (·.size) = some f2.enc.toArray.size by rw [List.size_toArray, HL2.out]; exact HSZ.out)
            have HS1 := Lib.hid (show (Try.prog.info? 68).map (·.size) = some f2.enc.length by rw [HL2.out]; exact HSZ.out)
            have HOC := Lib.hid (all_oneCell_toArray (fr_one f2))
            have X9 := Lib.hid (show Bx bX 95 [.int .i64 o.op, .int .i64 o.a, .int .i64 o.b, .int .i64 o.c, .int .i64 o.n] (y8.setCells g (rs.length * 17) f2.enc) from X8.out.only (only_setCells (S := (· = g)) rfl _ _ _) hxg.symm)
            have NB9 := Lib.hid (show Bx bN 40 [.int .i64 (-1), .int .i64 nv] (y8.setCells g (rs.length * 17) f2.enc) from NB8.out.only (only_setCells (S := (· = g)) rfl _ _ _) (Ne.symm hN7))
            have FB9 := Lib.hid (show FrAt bF f2 (y8.setCells g (rs.length * 17) f2.enc) from ⟨FB8.out.1.only (only_setCells (S := (· = g)) rfl _ _ _) (Ne.symm hg5), FB8.out.2⟩)
            have I9 := Lib.hid (I8.out.setsTop FB8.out.2)
            go_upto_region 34 with (first | (go_loud (refine wpList_load_mid rfl 68 _ rfl bF 0 rfl _ _ HRG.out Try.underlying68 rfl (by exact HS1.out) ?_)) | (go_loud (refine wpList_store_mid rfl 68 _ _ rfl g (rs.length * 17) f2.enc.toArray rfl rfl (by exact HTH.out) (by exact HS2.out) (by exact HOC.out) ?_)) | fail)
            generalize y8.setCells g (rs.length * 17) f2.enc = y9 at X9 NB9 FB9 I9 ⊢
            clear HRG HTH HS2 HS1 HOC X8 FB8 I8 NB8
            have k0 := X9.out.cell 0 _ rfl
            have k1 := X9.out.cell 1 _ rfl
            have n0 := NB9.out.cell 0 _ rfl
            have n1 := NB9.out.cell 1 _ rfl
            have hra := may_reg HM.out
            obtain ⟨ra1, ra2, _⟩ : 0 ≤ o.a ∧ o.a ≤ 15 ∧ True := by have : 0 ≤ o.a ∧ o.a ≤ 15 ∧ 0 ≤ o.b ∧ o.b ≤ 15 ∧ 0 ≤ o.c ∧ o.c ≤ 15 := of_decide_eq_true hra; exact ⟨this.1, this.2.1, trivial⟩
            obtain ⟨a, hA⟩ := Int.eq_ofNat_of_zero_le ra1
            have HA := Lib.hid hA
            rw [hA] at k1
            have ha1 : (0 : Int) ≤ (a : Int) := by omega
            have ha2 : (a : Int) < 16 := by omega
            have q3 : y9.cell? ⟨bF, 1 + a, none⟩ = some (.int .i64 (f2.R a)) := FB9.out.get (k := a) (by omega)
            clear hA hra ra1 ra2
            go_upto_region 38 with fail
            go_quiet (fail)
            go_wp2_with fail
            refine bodyPost_ret (v := .tuple #[.slice (some ⟨g, 0, none⟩) (rs.length + 1) cap, .slice AN notes.length cN, .int .i64 2, .int .i64 (f2.R a)]) (by simp [results, Try.results36, go_sem]) rfl ?_
            rcases HS3.out with ⟨_, h⟩ | ⟨h, _⟩
            · try dsimp only at h
              rw [if_neg (by decide), if_neg O21.out] at h
              try rw [if_pos rfl] at h
              rw [h]
              rw [HP.out, ← HF2.out]
              rw [show o.a.toNat = a by rw [HA.out]; rfl]
              exact ⟨_, _, _, _, rfl, I9.out.below (by (repeat (with_reducible first | exact Below.refl _ _ | assumption | apply below_alloc | apply below_drewN | apply below_drew1 | (refine below_set ?_ (by simp only [alloc_size]; omega)) | (refine below_step ?_ (by assumption)))))⟩
            · exact absurd rfl h
          · as_aux_lemma =>
            have O21 := Lib.hid o21
            have e21 : (o.op == 21) = false := by simpa using o21
            clear o21
            have X8 := Lib.hid (X7.out.other (g := bF) (i := 0) (u := .int .i64 ((p : Int) + 1)) hX5)
            have FB8 := Lib.hid (show FrAt bF { f1 with at_ := (p : Int) + 1 } (y7.setCell ⟨bF, 0, none⟩ (.int .i64 ((p : Int) + 1))) from ⟨FB7.out.1.set 0 (.int .i64 ((p : Int) + 1)), FB7.out.2⟩)
            have I8 := Lib.hid (I7.out.boxSet (i := 0) (u := .int .i64 ((p : Int) + 1)) FB7.out.1.ty hw6 (Ne.symm hg5))
            have NB8 := Lib.hid (NB.out.other (g := bF) (i := 0) (u := .int .i64 ((p : Int) + 1)) (Ne.symm hN6))
            have fz0 := FB7.out.1.ty.frozen 0
            have f0 := FB7.out.1.cell 0 _ rfl
            clear X7 FB7 I7 NB
            go_upto_region 33 with fail
            clear fz0 f0
            generalize y7.setCell ⟨bF, 0, none⟩ (.int .i64 ((p : Int) + 1)) = y8 at X8 FB8 I8 NB8 ⊢
            obtain ⟨f2, hf2⟩ : ∃ f2 : Fr, f2 = { f1 with at_ := (p : Int) + 1 } := ⟨_, rfl⟩
            rw [← hf2] at FB8
            have HF2 := Lib.hid hf2
            clear hf2
            have HL2 := Lib.hid (Fr.len FB8.out.2)
            have HRG := Lib.hid (show y8.rangeAt bF 0 f2.enc from fun j v hv => by have := FB8.out.1.cell j v hv; rwa [Nat.zero_add])
            have HTH := Lib.hid (show y8.there g (rs.length * 17) f2.enc.toArray.size by rw [List.size_toArray, HL2.out]; exact row_there I8.out.fo I8.out.ln I8.out.top)
            have HS2 := Lib.hid (show (Try.prog.info? 68).map (·.size) = some f2.enc.toArray.size by rw [List.size_toArray, HL2.out]; exact HSZ.out)
            have HS1 := Lib.hid (show (Try.prog.info? 68).map (·.size) = some f2.enc.length by rw [HL2.out]; exact HSZ.out)
            have HOC := Lib.hid (all_oneCell_toArray (fr_one f2))
            have X9 := Lib.hid (show Bx bX 95 [.int .i64 o.op, .int .i64 o.a, .int .i64 o.b, .int .i64 o.c, .int .i64 o.n] (y8.setCells g (rs.length * 17) f2.enc) from X8.out.only (only_setCells (S := (· = g)) rfl _ _ _) hxg.symm)
            have NB9 := Lib.hid (show Bx bN 40 [.int .i64 (-1), .int .i64 nv] (y8.setCells g (rs.length * 17) f2.enc) from NB8.out.only (only_setCells (S := (· = g)) rfl _ _ _) (Ne.symm hN7))
            have FB9 := Lib.hid (show FrAt bF f2 (y8.setCells g (rs.length * 17) f2.enc) from ⟨FB8.out.1.only (only_setCells (S := (· = g)) rfl _ _ _) (Ne.symm hg5), FB8.out.2⟩)
            have I9 := Lib.hid (I8.out.setsTop FB8.out.2)
            go_upto_region 34 with (first | (go_loud (refine wpList_load_mid rfl 68 _ rfl bF 0 rfl _ _ HRG.out Try.underlying68 rfl (by exact HS1.out) ?_)) | (go_loud (refine wpList_store_mid rfl 68 _ _ rfl g (rs.length * 17) f2.enc.toArray rfl rfl (by exact HTH.out) (by exact HS2.out) (by exact HOC.out) ?_)) | fail)
            generalize y8.setCells g (rs.length * 17) f2.enc = y9 at X9 NB9 FB9 I9 ⊢
            clear HRG HTH HS2 HS1 HOC X8 FB8 I8 NB8
            have k0 := X9.out.cell 0 _ rfl
            have k1 := X9.out.cell 1 _ rfl
            have n0 := NB9.out.cell 0 _ rfl
            have n1 := NB9.out.cell 1 _ rfl
            go_wp2_with fail
            refine bodyPost_ret (v := .tuple #[.slice (some ⟨g, 0, none⟩) (rs.length + 1) cap, .slice AN notes.length cN, .int .i64 1, .int .i64 0]) (by simp [results, Try.results36, go_sem]) rfl ?_
            rcases HS3.out with ⟨_, h⟩ | ⟨h, _⟩
            · try dsimp only at h
              rw [if_neg (by decide), if_neg O21.out] at h
              try rw [if_neg (by decide)] at h
              rw [h]
              rw [HP.out, ← HF2.out]
              exact ⟨_, _, _, _, rfl, I9.out⟩
            · exact absurd rfl h
    · have hS2 := hS.out
      rw [show 200 - k = 0 by omega, stepG.eq_def] at hS2
      cases hS2
end Go.Proofs.Ytegjkheecbmioaa
