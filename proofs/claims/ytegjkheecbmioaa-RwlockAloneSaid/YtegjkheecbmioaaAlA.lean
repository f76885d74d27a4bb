/- One thread, alone: the plain form of ref12.Alone. -/
import Derived.Test.YtegjkheecbmioaaStC
namespace Go.Proofs.Ytegjkheecbmioaa
open Go.RowKit
set_option linter.unusedVariables false
set_option linter.unusedSimpArgs false

/-- Rounds of Step. -/
def alG (code : List Ins) (i : Nat) : Nat → List Fr → Fr → St → List (Int × Int) → Option (Int × List (Int × Int) × Bool × St)
  | 0, _, _, _, _ => none
  | n + 1, rs, f, s, ns => match stepG code i 200 true rs f s [] with
    | none => none
    | some R => if R.how = 2 then some (R.val, ns ++ R.notes, true, R.s)
      else if R.how = 0 then alG code i n R.rs R.f R.s (ns ++ R.notes)
      else some (0, ns ++ R.notes, false, R.s)
/-- The frame that a call begins with. -/
def fr0 (at_ : Int) (args : List Int) (k : Nat) : Fr := ⟨at_, args.take k ++ List.replicate (16 - k) 0⟩
theorem fr0_len {a : Int} {args : List Int} {k : Nat} (hk : k ≤ args.length) (h : args.length ≤ 16) : (fr0 a args k).r.length = 16 := by
  simp [fr0]; omega
theorem fr0_next {a : Int} {args : List Int} {k : Nat} (hk : k < args.length) (h : args.length ≤ 16) {v : Int} (hv : args[k]? = some v) : (fr0 a args k).enc.set (1 + k) (.int .i64 v) = (fr0 a args (k + 1)).enc := by
  obtain ⟨hk', rfl⟩ := List.getElem?_eq_some_iff.1 hv
  rw [show 1 + k = k + 1 by omega]
  simp only [fr0, Fr.enc, List.set_cons_succ]
  rw [show (Value.int .i64 args[k]) = i64V args[k] from rfl, ← List.map_set]
  congr 2
  have e : args.take (k + 1) = args.take k ++ [args[k]] := by rw [List.take_add_one, List.getElem?_eq_getElem hk]; rfl
  rw [List.set_append_right _ _ (by simp; omega), show 16 - k = (16 - (k + 1)) + 1 by omega, List.replicate_succ]
  simp [Nat.min_eq_left (Nat.le_of_lt hk)]
  rw [e, List.append_assoc]; rfl
theorem stepG_notes {code : List Ins} {i : Nat} : ∀ (fuel : Nat) (first : Bool) (rs : List Fr) (f : Fr) (s : St) (ns : List (Int × Int)) (R : R2), stepG code i fuel first rs f s ns = some R → R.notes.length ≤ ns.length + fuel ∧ R.rs.length ≤ max rs.length 15
  | 0, _, _, _, _, _, _, h => by rw [stepG.eq_def] at h; cases h
  | fuel + 1, first, rs, f, s, ns, R, h => by
    obtain ⟨p, x, -, -, -, hh⟩ := stepG_spec h
    clear h
    rcases hh with ⟨_, _, _, rfl⟩ | ⟨_, _, h1, h⟩ | ⟨_, _, g, rs', rfl, h⟩ | ⟨_, _, _, r, _, h⟩
    · exact ⟨by simp, by simp; omega⟩
    · have := stepG_notes fuel _ _ _ _ _ _ h; simp at this; omega
    · have := stepG_notes fuel _ _ _ _ _ _ h; simp at this ⊢; omega
    · rcases h with ⟨_, rfl⟩ | ⟨_, h⟩
      · refine ⟨?_, by simp; omega⟩
        dsimp only
        split
        · simp
        · omega
      · have := stepG_notes fuel _ _ _ _ _ _ h
        refine ⟨Nat.le_trans this.1 ?_, this.2⟩
        split
        · simp; omega
        · omega
theorem alG_step {code : List Ins} {i m : Nat} {rs : List Fr} {f : Fr} {s : St} {ns : List (Int × Int)} {r : Int × List (Int × Int) × Bool × St} (h : alG code i (m + 1) rs f s ns = some r) :
    ∃ R, stepG code i 200 true rs f s [] = some R ∧ ((R.how = 2 ∧ r = (R.val, ns ++ R.notes, true, R.s)) ∨ (R.how ≠ 2 ∧ R.how = 0 ∧ alG code i m R.rs R.f R.s (ns ++ R.notes) = some r) ∨ (R.how ≠ 2 ∧ R.how ≠ 0 ∧ r = (0, ns ++ R.notes, false, R.s))) := by
  rw [alG] at h
  split at h
  · cases h
  rename_i R hR
  refine ⟨R, hR, ?_⟩
  split at h
  · rename_i h2; exact .inl ⟨h2, (Option.some.inj h).symm⟩
  rename_i h2
  split at h
  · rename_i h0; exact .inr (.inl ⟨h2, h0, h⟩)
  · rename_i h0; exact .inr (.inr ⟨h2, h0, (Option.some.inj h).symm⟩)
theorem SInv.app {w0 w1 w2 w3 : World} {B bW bT bL : Nat} {vf vn vF vN : Value} {rs rs' : List Fr} {f f' : Fr} {s s' : St} {n1 nw : List (Int × Int)} {A : Option Addr} {c : Nat} (h1 : SInv w0 B bW bT bL vf vn rs f s n1 w1) (h2 : SInv w1 B bW bT bL vF vN rs' f' s' nw w2)
    (ho : w3.ownsRow w0.heap.size 40 2 (.slice A (n1.length + nw.length) c) (n1.length + nw.length) (n1.flatMap noteEnc ++ nw.flatMap noteEnc)) (hg : w2.grownBy w3 vn.ownBlock) : SInv w0 B bW bT bL vF (.slice A (n1.length + nw.length) c) rs' f' s' (n1 ++ nw) w3 := by
  have hn2 : w2.ownsRow w0.heap.size 40 2 vn n1.length (n1.flatMap noteEnc) := h2.ch.own h1.no (fun _ _ h => h) (by decide) (by decide) (by decide) (by decide)
  have hT := TOnly.grown hn2 hg
  refine ⟨hT.own (by decide) (own_mono h2.fo h1.ch.on.size), by simpa using ho, h2.wa.keep (fun k hk => ?_) hg.size, (h1.ch.trans h2.ch).grownNew hg (fun k hk => own_base h1.no k hk), h2.ln, h2.cl, h2.rl⟩
  refine hg.block k hk.lt (fun e => ?_)
  exact Own4.not (own_ty hn2 e.symm) (by decide) (by decide) (by decide) (by decide) hk
theorem note_one (ns : List (Int × Int)) : ∀ u ∈ ns.flatMap noteEnc, u.oneCell' = true := by
  intro u hu
  obtain ⟨p, _, hp⟩ := List.mem_flatMap.1 hu
  simp [noteEnc] at hp
  rcases hp with rfl | rfl <;> rfl
end Go.Proofs.Ytegjkheecbmioaa
