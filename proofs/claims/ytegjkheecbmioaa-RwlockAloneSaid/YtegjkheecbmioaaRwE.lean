/- A thing as a whole: its load, its store, a result. -/
import Derived.Test.YtegjkheecbmioaaRwA
import Derived.Deep.MidRow
namespace Go.Proofs.Ytegjkheecbmioaa
open Go.RowKit
set_option linter.unusedVariables false
set_option linter.unusedSimpArgs false

def Th.addR (x : Th) (t : Nat) (d : Int) : Th := match t with
  | 0 => { x with r0 := x.r0 + d }
  | 1 => { x with r1 := x.r1 + d }
  | 2 => { x with r2 := x.r2 + d }
  | 3 => { x with r3 := x.r3 + d }
  | 4 => { x with r4 := x.r4 + d }
  | 5 => { x with r5 := x.r5 + d }
  | 6 => { x with r6 := x.r6 + d }
  | _ => { x with r7 := x.r7 + d }
theorem enc_addR (x : Th) {t : Nat} (ht : t < 8) (d : Int) : x.enc.set (4 + t) (.int .i64 (x.rl.getD t 0 + d)) = (x.addR t d).enc := by
  match t, ht with
  | 0, _ => rfl
  | 1, _ => rfl
  | 2, _ => rfl
  | 3, _ => rfl
  | 4, _ => rfl
  | 5, _ => rfl
  | 6, _ => rfl
  | 7, _ => rfl
theorem Bx.there {b T : Nat} {cs : List Value} {w : World} (h : Bx b T cs w) : w.there b 0 cs.length := fun j hj => ⟨by rw [Nat.zero_add, h.cell j _ (List.getElem?_eq_getElem hj)]; rfl, h.ty.frozen _⟩
theorem Bx.range {b T : Nat} {cs : List Value} {w : World} (h : Bx b T cs w) : w.rangeAt b 0 cs := fun j v hv => by have := h.cell j v hv; rwa [Nat.zero_add]
theorem Bx.sets2 {b T : Nat} {cs vs : List Value} {w : World} (h : Bx b T cs w) (hl : vs.length = cs.length) : Bx b T vs (w.setCells b 0 vs) := by
  refine ⟨IsT.sets vs 0 _ h.ty, fun i v hv => ?_⟩
  have := World.rangeAt_setCells_same w b 0 vs (fun j hj => ⟨by rw [Nat.zero_add, h.cell j _ (List.getElem?_eq_getElem (by omega))]; rfl, h.ty.frozen _⟩) i v hv
  simpa using this
theorem th_len (x : Th) : x.enc.length = 15 := rfl
theorem th_info : (Try.prog.info? 52).map (·.size) = some 15 := by kernel_rfl
theorem th_ones (x : Th) : ∀ u ∈ x.enc, u.oneCell' = true := by
  intro u hu
  simp only [Th.enc, List.mem_cons, List.not_mem_nil, or_false] at hu
  rcases hu with h | h | h | h | h | h | h | h | h | h | h | h | h | h | h <;> (subst h; rfl)
theorem results_th {fn : Func} {c t : Tmp} {b : Nat} {y : Th} {w : World} (h : fn.results = #[.cell c 52, .tmp t]) (tmps : Array Value) (hc : tmps.getD c undef = .pointer (some ⟨b, 0, none⟩)) (hB : Bx b 52 y.enc w) :
    (results fn tmps).run Try.prog w = .ok (.tuple #[y.v, tmps.getD t undef]) w := by
  have c0 := hB.cell 0 _ rfl
  have c1 := hB.cell 1 _ rfl
  have c2 := hB.cell 2 _ rfl
  have c3 := hB.cell 3 _ rfl
  have c4 := hB.cell 4 _ rfl
  have c5 := hB.cell 5 _ rfl
  have c6 := hB.cell 6 _ rfl
  have c7 := hB.cell 7 _ rfl
  have c8 := hB.cell 8 _ rfl
  have c9 := hB.cell 9 _ rfl
  have c10 := hB.cell 10 _ rfl
  have c11 := hB.cell 11 _ rfl
  have c12 := hB.cell 12 _ rfl
  have c13 := hB.cell 13 _ rfl
  have c14 := hB.cell 14 _ rfl
  rw [Array.getD_eq_getD_getElem?] at hc
  simp [results, h, hc, go_sem, Th.v, c0, c1, c2, c3, c4, c5, c6, c7, c8, c9, c10, c11, c12, c13, c14]
end Go.Proofs.Ytegjkheecbmioaa
