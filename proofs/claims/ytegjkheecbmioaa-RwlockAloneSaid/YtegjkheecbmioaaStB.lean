/- Frames as an own row: reading, writing; the walk of copied. -/
import Derived.Test.YtegjkheecbmioaaStA
namespace Go.Proofs.Ytegjkheecbmioaa
open Go.RowKit
set_option linter.unusedVariables false
set_option linter.unusedSimpArgs false

theorem Fr.len {f : Fr} (h : f.r.length = 16) : f.enc.length = 17 := by simp [Fr.enc, h]
theorem fr_one (f : Fr) : ∀ u ∈ f.enc, u.oneCell' = true := by
  intro u hu
  rcases List.mem_cons.1 hu with rfl | hu
  · rfl
  · obtain ⟨x, _, rfl⟩ := List.mem_map.1 hu; rfl
theorem frs_one (fs : List Fr) : ∀ u ∈ fs.flatMap Fr.enc, u.oneCell' = true := by
  intro u hu
  obtain ⟨f, _, hf⟩ := List.mem_flatMap.1 hu
  exact fr_one f u hf
theorem src_row {w : World} {B e s n : Nat} {v : Value} {xs : List Value} (h : w.ownsRow B e s v n xs) (h1 : ∀ u ∈ xs, u.oneCell' = true) : Src w v n xs := by
  rcases h.2 with ⟨rfl, h0⟩ | ⟨g, cap, cur, rfl, hb, hh, hnc, hcm, hcs, ht⟩
  · have : xs = [] := List.length_eq_zero_iff.1 (by rw [h.1, h0]; simp)
    subst this
    exact ⟨none, 0, by rw [h0], h1, .inl ⟨h0, rfl⟩⟩
  · refine ⟨_, _, rfl, h1, .inr ⟨_, rfl, fun j u hu => ?_⟩⟩
    have e2 : (Addr.add ⟨g, 0, none⟩ j) = ⟨g, j, none⟩ := by
      unfold Addr.add
      split
      · rename_i e; rw [e]
      · simp
    rw [e2]
    have hj : j < xs.length := (List.getElem?_eq_some_iff.1 hu).1
    rw [← ht, List.getElem?_take_of_lt (by rw [h.1] at hj; exact hj)] at hu
    simp only [World.cell?, hh]
    simpa using hu
theorem frs_len (fs : List Fr) (h : ∀ f ∈ fs, f.r.length = 16) : (fs.flatMap Fr.enc).length = fs.length * 17 := by
  induction fs with
  | nil => rfl
  | cons f l ih => rw [List.flatMap_cons, List.length_append, Fr.len (h f (by simp)), ih (fun x hx => h x (by simp [hx])), List.length_cons, Nat.succ_mul]; omega
theorem frs_get {fs : List Fr} (h : ∀ f ∈ fs, f.r.length = 16) {t : Nat} {f : Fr} (ht : fs[t]? = some f) (j : Nat) (hj : j < 17) : (fs.flatMap Fr.enc)[t * 17 + j]? = f.enc[j]? := by
  rw [List.flatMap_def]
  exact flat_get (sz := 17) (by intro c hc; obtain ⟨x, hx, rfl⟩ := List.mem_map.1 hc; exact Fr.len (h x hx)) (by rw [List.getElem?_map, ht]; rfl) j hj
section
variable {w : World} {B g n cap : Nat} {fs : List Fr}
/-- Frame t of a row. -/
theorem row_range (ho : w.ownsRow B 68 17 (.slice (some ⟨g, 0, none⟩) n cap) n (fs.flatMap Fr.enc)) (hl : ∀ f ∈ fs, f.r.length = 16) {t : Nat} {f : Fr} (ht : fs[t]? = some f) : w.rangeAt g (t * 17) f.enc := by
  intro j v hv
  have hj : j < 17 := by have := (List.getElem?_eq_some_iff.1 hv).1; rw [Fr.len (hl f (List.mem_of_getElem? ht))] at this; exact this
  have h1 := frs_get hl ht j hj
  rw [hv] at h1
  have h2 := ho.cellAt (t * 17 + j) (by have := (List.getElem?_eq_some_iff.1 h1).1; rw [ho.1] at this; exact this)
  rw [h2, h1]
theorem row_there (ho : w.ownsRow B 68 17 (.slice (some ⟨g, 0, none⟩) n cap) n (fs.flatMap Fr.enc)) (hl : ∀ f ∈ fs, f.r.length = 16) {t : Nat} {f : Fr} (ht : fs[t]? = some f) : w.there g (t * 17) 17 := by
  intro j hj
  have hr := row_range ho hl ht
  have hfl := Fr.len (hl f (List.mem_of_getElem? ht))
  have := hr j (f.enc[j]'(by omega)) (List.getElem?_eq_getElem (by omega))
  exact ⟨by rw [this]; rfl, ho.frozenAt _⟩
theorem row_R (ho : w.ownsRow B 68 17 (.slice (some ⟨g, 0, none⟩) n cap) n (fs.flatMap Fr.enc)) (hl : ∀ f ∈ fs, f.r.length = 16) {t : Nat} {f : Fr} (ht : fs[t]? = some f) {k : Nat} (hk : k < 16) :
    w.cell? ⟨g, t * 17 + (1 + k), none⟩ = some (.int .i64 (f.R k)) := by
  have hlen := hl f (List.mem_of_getElem? ht)
  refine row_range ho hl ht (1 + k) _ ?_
  rw [Fr.enc, Nat.add_comm, List.getElem?_cons_succ, List.getElem?_map, List.getElem?_eq_getElem (by omega)]
  simp [Fr.R, i64V, List.getD_eq_getElem?_getD, List.getElem?_eq_getElem (show k < f.r.length by omega)]
theorem row_at (ho : w.ownsRow B 68 17 (.slice (some ⟨g, 0, none⟩) n cap) n (fs.flatMap Fr.enc)) (hl : ∀ f ∈ fs, f.r.length = 16) {t : Nat} {f : Fr} (ht : fs[t]? = some f) :
    w.cell? ⟨g, t * 17, none⟩ = some (.int .i64 f.at_) := row_range ho hl ht 0 _ rfl
end
/-! ### many cells at once -/
theorem isT_setCells {b U g : Nat} : ∀ (vs : List Value) (o : Nat) (w : World), IsT b U w → IsT b U (w.setCells g o vs)
  | [], _, _, h => h
  | v :: r, o, w, h => isT_setCells r (o + 1) _ (h.set _ _)
theorem size_setCells {g : Nat} : ∀ (vs : List Value) (o : Nat) (w : World), (w.setCells g o vs).heap.size = w.heap.size
  | [], _, _ => rfl
  | v :: r, o, w => by rw [World.setCells, size_setCells r (o + 1)]; simp [World.setCell]
theorem only_setCells {g : Nat} {S : Nat → Prop} (hg : S g) : ∀ (vs : List Value) (o : Nat) (w : World), Only S w (w.setCells g o vs)
  | [], _, w => Only.refl _ _
  | v :: r, o, w => ((Only.refl S w).set (p := ⟨g, o, none⟩) (.inl hg) v).trans (only_setCells hg r (o + 1) _)
def setL (xs : List Value) : Nat → List Value → List Value
  | _, [] => xs
  | o, v :: r => setL (xs.set o v) (o + 1) r
theorem own_setCells {B e s g n cap : Nat} : ∀ (vs : List Value) (o : Nat) (w : World) (xs : List Value), w.ownsRow B e s (.slice (some ⟨g, 0, none⟩) n cap) n xs → (w.setCells g o vs).ownsRow B e s (.slice (some ⟨g, 0, none⟩) n cap) n (setL xs o vs)
  | [], _, _, _, h => h
  | v :: r, o, w, xs, h => own_setCells r (o + 1) _ _ (World.ownsRow.stored h o v).1
theorem setL_get (xs : List Value) (o : Nat) (vs : List Value) (j : Nat) : (setL xs o vs)[j]? = if o ≤ j ∧ j < o + vs.length ∧ j < xs.length then vs[j - o]? else xs[j]? := by
  induction vs generalizing xs o with
  | nil => rw [setL, if_neg (by simp; omega)]
  | cons v r ih =>
    rw [setL, ih]
    simp only [List.length_set, List.length_cons]
    by_cases h1 : j = o
    · subst h1
      by_cases h2 : j < xs.length
      · rw [if_neg (by omega), if_pos ⟨by omega, by omega, h2⟩, Nat.sub_self]
        simp [h2]
      · rw [if_neg (by omega), if_neg (by omega)]
        rw [List.getElem?_eq_none (by simp; omega), List.getElem?_eq_none (by omega)]
    · rw [List.getElem?_set_ne (Ne.symm h1)]
      by_cases h2 : o + 1 ≤ j ∧ j < o + 1 + r.length ∧ j < xs.length
      · rw [if_pos h2, if_pos ⟨by omega, by omega, h2.2.2⟩, show j - o = (j - (o + 1)) + 1 by omega, List.getElem?_cons_succ]
      · rw [if_neg h2, if_neg (by omega)]
theorem setL_frames {fs : List Fr} (hl : ∀ f ∈ fs, f.r.length = 16) {t : Nat} {f f' : Fr} (ht : fs[t]? = some f) (hf : f'.r.length = 16) : setL (fs.flatMap Fr.enc) (t * 17) f'.enc = (fs.set t f').flatMap Fr.enc := by
  have htl : t < fs.length := (List.getElem?_eq_some_iff.1 ht).1
  have hl' : ∀ x ∈ fs.set t f', x.r.length = 16 := fun x hx => by
    rcases List.mem_or_eq_of_mem_set hx with h | rfl
    · exact hl x h
    · exact hf
  have n1 := frs_len fs hl
  have n2 := frs_len _ hl'
  rw [List.length_set] at n2
  have hm : t * 17 + 17 ≤ fs.length * 17 := by have := Nat.mul_le_mul_right 17 (show t + 1 ≤ fs.length by omega); omega
  apply List.ext_getElem?
  intro j
  rw [setL_get, Fr.len hf, n1]
  by_cases hj : j < fs.length * 17
  · have hd := Nat.div_add_mod j 17
    have hq : j / 17 < fs.length := by omega
    obtain ⟨x, hx⟩ : ∃ x, fs[j / 17]? = some x := ⟨_, List.getElem?_eq_getElem hq⟩
    have hr := Nat.mod_lt j (show 0 < 17 by decide)
    have e1 := frs_get hl hx (j % 17) hr
    rw [show j / 17 * 17 + j % 17 = j by omega] at e1
    by_cases hjt : j / 17 = t
    · rw [if_pos (by omega)]
      have e2 := frs_get hl' (t := t) (f := f') (by rw [List.getElem?_set_self htl]) (j % 17) hr
      rw [show t * 17 + j % 17 = j by omega] at e2
      rw [e2]
      congr 1
      omega
    · rw [if_neg (by omega)]
      have e2 := frs_get hl' (t := j / 17) (f := x) (by rw [List.getElem?_set_ne (Ne.symm hjt)]; exact hx) (j % 17) hr
      rw [show j / 17 * 17 + j % 17 = j by omega] at e2
      rw [e1, e2]
  · rw [if_neg (by omega), List.getElem?_eq_none (by omega), List.getElem?_eq_none (by omega)]
/-- A frame of the row is written. -/
theorem row_set {w : World} {B g n cap : Nat} {fs : List Fr} (ho : w.ownsRow B 68 17 (.slice (some ⟨g, 0, none⟩) n cap) n (fs.flatMap Fr.enc)) (hl : ∀ f ∈ fs, f.r.length = 16) {t : Nat} {f f' : Fr} (ht : fs[t]? = some f) (hf : f'.r.length = 16) :
    (w.setCells g (t * 17) f'.enc).ownsRow B 68 17 (.slice (some ⟨g, 0, none⟩) n cap) n ((fs.set t f').flatMap Fr.enc) := by
  have := own_setCells f'.enc (t * 17) w _ ho
  rwa [setL_frames hl ht hf] at this
/-- One cell of a frame of the row. -/
theorem row_cell {w : World} {B g n cap : Nat} {fs : List Fr} (ho : w.ownsRow B 68 17 (.slice (some ⟨g, 0, none⟩) n cap) n (fs.flatMap Fr.enc)) (hl : ∀ f ∈ fs, f.r.length = 16) {t j : Nat} {f f' : Fr} {u : Value} (ht : fs[t]? = some f) (hf : f'.r.length = 16) (he : f.enc.set j u = f'.enc) (hj : j < 17) :
    (w.setCell ⟨g, t * 17 + j, none⟩ u).ownsRow B 68 17 (.slice (some ⟨g, 0, none⟩) n cap) n ((fs.set t f').flatMap Fr.enc) := by
  have h1 := (World.ownsRow.stored ho (t * 17 + j) u).1
  have hfl : ∀ (fs : List Fr) (t : Nat), (∀ f ∈ fs, f.r.length = 16) → fs[t]? = some f → (fs.flatMap Fr.enc).set (t * 17 + j) u = (fs.set t f').flatMap Fr.enc := by
    intro fs
    induction fs with
    | nil => intro t _ h; cases h
    | cons a l ih =>
      intro t hl ht
      have ha := Fr.len (hl a (by simp))
      cases t with
      | zero =>
        obtain rfl : a = f := by simpa using ht
        rw [List.flatMap_cons, Nat.zero_mul, Nat.zero_add, List.set_append_left _ _ (by omega), he]
        simp
      | succ t =>
        rw [List.flatMap_cons, List.set_append_right _ _ (by rw [ha, Nat.succ_mul]; omega), ha, show (t + 1) * 17 + j - 17 = t * 17 + j by rw [Nat.succ_mul]; omega, ih t (fun x hx => hl x (by simp [hx])) (by simpa using ht)]
        simp
  rwa [hfl fs t hl ht] at h1
theorem info_fr : (Try.prog.info? 68).map (fun i => (i.zero, i.size, i.bytes)) = some (some (.agg #[.int .i64 0, .int .i64 0, .int .i64 0, .int .i64 0, .int .i64 0, .int .i64 0, .int .i64 0, .int .i64 0, .int .i64 0, .int .i64 0, .int .i64 0, .int .i64 0, .int .i64 0, .int .i64 0, .int .i64 0, .int .i64 0, .int .i64 0]), 17, 136) := by kernel_rfl
theorem info_note : (Try.prog.info? 40).map (fun i => (i.zero, i.size, i.bytes)) = some (some (.agg #[.int .i64 0, .int .i64 0]), 2, 16) := by kernel_rfl
theorem row_form {w : World} {B e s n : Nat} {v : Value} {xs : List Value} (h : w.ownsRow B e s v n xs) (hn : 0 < n) : ∃ g cap, v = .slice (some ⟨g, 0, none⟩) n cap ∧ n ≤ cap ∧ B ≤ g ∧ IsT g e w := by
  rcases h.2 with ⟨rfl, h0⟩ | ⟨g, cap, cur, rfl, hb, hh, hnc, hcm, hcs, ht⟩
  · omega
  · exact ⟨g, cap, rfl, hnc, hb, cur, hh⟩
set_option maxRecDepth 100000 in
set_option maxHeartbeats 1600000 in
theorem copied_calls (w : World) (B : Nat) (v : Value) (fs : List Fr) (ho : w.ownsRow B 68 17 v fs.length (fs.flatMap Fr.enc)) (h0 : 0 < fs.length) (h1 : fs.length ≤ 100) :
    Calls Try.prog 45 #[v] w fun e w' => ∃ A c, e = .returned (.slice A fs.length c) ∧ w'.ownsRow w.heap.size 68 17 (.slice A fs.length c) fs.length (fs.flatMap Fr.enc) ∧ Below w.heap.size w w' := by
  obtain ⟨i0, hi0, hz0, hs0, hb0⟩ := info_parts info_fr
  have hu : Try.prog.underlying 69 = some (.slice 68) := Try.underlying69
  have HO := Lib.hid ho
  have hlen := ho.1
  obtain ⟨g, cap, rfl, hcap, _, _⟩ := row_form ho h0
  clear ho
  go_enter Try.func45, Try.ntmps45
  go_wp2_with (first | (at_builtin; go_loud (refine wpList_append_uni rfl _ _ 69 rfl w.heap.size 68 i0 _ 17 136 hu hi0 hz0 hs0 hb0 rfl (by decide) _ _ _ rfl (by exact World.ownsRow_lit w #[] 0 (Nat.le_refl _) (by decide) rfl) _ fs.length (fs.flatMap Fr.enc) rfl hlen (src_row (own_below HO.out (by (repeat (with_reducible first | exact Below.refl _ _ | assumption | apply below_alloc | apply below_drewN | apply below_drew1 | (refine below_set ?_ (by simp only [alloc_size]; omega)) | (refine below_step ?_ (by assumption)))))) (frs_one fs)) (by unfold maxLen; omega) (by omega) (by simp only [alloc_size]; omega) ?_)))
  intro A3 c3 w3 o3 g3 h3'
  have o3' : w3.ownsRow w.heap.size 68 17 (.slice A3 fs.length c3) fs.length (fs.flatMap Fr.enc) := by simpa using o3
  have hb3 : Below w.heap.size w w3 := below_grown (by (repeat (with_reducible first | exact Below.refl _ _ | assumption | apply below_alloc | apply below_drewN | apply below_drew1 | (refine below_set ?_ (by simp only [alloc_size]; omega)) | (refine below_step ?_ (by assumption))))) g3 (by rw [alloc_size]; omega) (fun k hk => by simp [Value.ownBlock] at hk; omega)
  have HO3 := Lib.hid o3'
  have HB3 := Lib.hid hb3
  clear o3 g3 h3' o3' hb3 hlen
  try simp only [Nat.zero_add]
  go_wp2_with fail
  go_ret
  exact ⟨_, _, rfl, HO3.out, HB3.out⟩
end Go.Proofs.Ytegjkheecbmioaa
