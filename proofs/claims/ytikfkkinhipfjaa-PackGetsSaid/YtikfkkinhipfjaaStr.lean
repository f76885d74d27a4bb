/- Bytes as strings. -/
import Derived.Test.YtikfkkinhipfjaaNums
import Derived.Test.YtikfkkinhipfjaaGet
import Derived.Laws.BytesArg
namespace Go.Proofs.Ytikfkkinhipfjaa
open Go.RowKit Go.ChangeShapes
set_option linter.unusedVariables false
set_option linter.unusedSimpArgs false

def strB (l : List Nat) : ByteArray := strOfNums (l.map Int.ofNat)
theorem strB_inj {a b : List Nat} (ha : ∀ x ∈ a, x < 256) (hb : ∀ x ∈ b, x < 256) (h : strB a = strB b) : a = b := by
  have h1 := congrArg (fun s : ByteArray => s.data.toList) h
  simp only [strB, strOfNums_data, List.map_map] at h1
  clear h
  induction a generalizing b with
  | nil => cases b with
    | nil => rfl
    | cons y b => simp at h1
  | cons x a ih => cases b with
    | nil => simp at h1
    | cons y b =>
      simp only [List.map_cons, List.cons.injEq] at h1
      have hx := ha x (by simp)
      have hy := hb y (by simp)
      have e : x = y := by
        have := congrArg UInt8.toNat h1.1
        simp at this
        omega
      rw [e, ih (fun x hx => ha x (by simp [hx])) (fun x hx => hb x (by simp [hx])) h1.2]
theorem conv_bytes {ok : Nat → Prop} {w : World} {A : Option Addr} {c : Nat} (l : List Nat) (h : kByte.C ok w A l) :
    (convert 29 9 (.slice A l.length c)).run Try.prog w = .ok (.string (strB l)) w := by
  have hs : Try.prog.underlying 29 = some (.slice 5) := Try.underlying29
  have he : Try.prog.underlying 5 = some (.int .u8) := by kernel_rfl
  have hd : Try.prog.underlying 9 = some .string := by kernel_rfl
  by_cases hl : l = []
  · subst hl
    rw [run_convert_bytes_string w _ _ _ _ _ _ hs he hd]
    cases A with
    | none => simp [Conv.bytesToString]; rfl
    | some a => simp [Conv.bytesToString, loadCells, loadCellsFrom]; rfl
  · obtain ⟨ad, rfl, _, hc⟩ := h.2 hl
    have hld : (loadCells ad l.length).run Try.prog w = .ok ((l.map Int.ofNat).map (Value.int .u8)).toArray w := by
      have := run_loadCells_list (P := Try.prog) w ad ((l.map Int.ofNat).map (Value.int .u8)) (fun j v hj => by
        rw [List.map_map, List.getElem?_map] at hj
        obtain ⟨n, hn, rfl⟩ := Option.map_eq_some_iff.1 hj
        obtain ⟨cs, hK, hcell⟩ := hc j n hn
        obtain rfl : cs = [byteV n] := hK
        have := hcell 0 _ rfl
        rwa [show j * kByte.sz + 0 = j from by simp [kByte, Kd.fn]] at this)
      simpa using this
    rw [run_convert_bytes_string w _ _ _ _ _ _ hs he hd, run_bytesToString w _ _ _ _ hld, foldl_push_bytes]
    simp [strB, strOfNums, ByteArray.empty, ByteArray.emptyWithCapacity]
    rfl
/-- A row of bytes of the call's own, as a list. -/
theorem own_bytes {w : World} {B : Nat} {v : Value} {l : List Nat} (h : w.ownsRow B 5 1 v l.length (l.map byteV)) : ∃ A c, v = .slice A l.length c ∧ l.length ≤ c ∧ kByte.C (B ≤ ·) w A l := by
  have e : l.map byteV = l.flatMap (fun x => [byteV x]) := by
    clear h
    induction l with
    | nil => rfl
    | cons a l ih => simp only [List.map_cons, List.flatMap_cons, ih]; rfl
  rw [e] at h
  exact C_of_own (enc := fun x => [byteV x]) (hl := fun _ => rfl) (h1 := by intro x u hu; rw [List.mem_singleton.1 hu]; rfl) (h0 := by decide) h (fun k hk => own_base h k hk)
theorem leb_byte : ∀ (n u : Nat), u ≤ n → ∀ x ∈ leb u, x < 256
  | 0, u, h, x, hx => by
    obtain rfl : u = 0 := by omega
    rw [leb_lt (by decide)] at hx
    simp at hx; omega
  | n + 1, u, h, x, hx => by
    by_cases h1 : u < 128
    · rw [leb_lt h1] at hx; simp at hx; omega
    · rw [leb_ge (by omega)] at hx
      rcases List.mem_cons.1 hx with e | e
      · omega
      · exact leb_byte n _ (by omega) x e
theorem numsB_byte (l : List Int) : ∀ x ∈ numsB l, x < 256 := by
  intro x hx
  obtain ⟨n, _, h⟩ := List.mem_flatMap.1 hx
  exact leb_byte _ _ (Nat.le_refl _) x h
theorem putB_len {s : Scr} (hc : checkE s = none) : (putB s).length ≤ 90000 := by
  have := numsB_len (scrN_wf hc)
  have := scrN_len hc
  unfold putB
  omega
end Go.Proofs.Ytikfkkinhipfjaa
