/-
  An automaton that is built of an array.
-/
import Derived.Test.YtglflmkkecephaaGreatDoorKm
namespace Go.Proofs.YtglflmkkecephaaGreatDoor
open Go.RowKit
open Go.Maps

theorem fill_head : ∀ (l : List Value) (k : Nat) (pre : List Value) (post : List Value), pre.length = k → l.length ≤ post.length →
    ((l.zipIdx k).foldl (fun (cs : Array Value) (x : Value × Nat) => cs.setIfInBounds (0 + x.2) x.1) (pre ++ post).toArray) = (pre ++ l ++ post.drop l.length).toArray
  | [], k, pre, post, _, _ => by simp
  | v :: l, k, pre, post, hp, hl => by
    cases post with
    | nil => simp at hl
    | cons p post =>
      simp only [List.zipIdx_cons, List.foldl_cons]
      have e : (pre ++ p :: post).toArray.setIfInBounds (0 + k) v = ((pre ++ [v]) ++ post).toArray := by
        simp only [List.setIfInBounds_toArray]
        congr 1
        rw [Nat.zero_add, List.set_append_right _ _ (by omega), hp, Nat.sub_self]
        simp
      rw [e, fill_head l (k + 1) (pre ++ [v]) post (by simp [hp]) (by simpa using hl)]
      simp

theorem dfa_zero : (Tryz.prog.info? 26).map (·.zero) = some (some (.agg Tryz.zeroCells26)) := by kernel_rfl
theorem dfa_places : (match Tryz.prog.underlying 26 with | some (.struct fields) => fields.toList.mapM (fun f => (Tryz.prog.info? f.type).map fun i => (f.offset, i.size)) | _ => none) = some [(0, 256), (256, 1), (257, 1)] := by kernel_rfl
theorem dfa_struct : ∃ fields, Tryz.prog.underlying 26 = some (.struct fields) := ⟨_, Tryz.underlying26⟩
theorem built_dfa (parts : List (Nat × Value)) : Tryz.prog.built 26 parts = Instr.fill (([(0, 256), (256, 1), (257, 1)] : List (Nat × Nat)).toArray[·]?) Tryz.zeroCells26 parts := by
  have h1 := dfa_zero
  have h2 := dfa_places
  obtain ⟨fields, hf⟩ := dfa_struct
  rw [hf] at h2
  cases hi : Tryz.prog.info? 26 with
  | none => rw [hi] at h1; simp at h1
  | some it =>
    rw [hi] at h1
    have hz : it.zero = some (.agg Tryz.zeroCells26) := by simpa using h1
    unfold Program.built
    rw [hi, hf]
    simp only [hz]
    have h3 : fields.toList.mapM (fun f => (Tryz.prog.info? f.type).map fun i => (f.offset, i.size)) = some [(0, 256), (256, 1), (257, 1)] := h2
    rw [h3]
    rfl
theorem fill_class (C : List Value) (h : C.length = 256) (rest : List (Nat × Value)) : Instr.fill (([(0, 256), (256, 1), (257, 1)] : List (Nat × Nat)).toArray[·]?) Tryz.zeroCells26 ((0, .agg C.toArray) :: rest) =
    Instr.fill (([(0, 256), (256, 1), (257, 1)] : List (Nat × Nat)).toArray[·]?) (C ++ [Value.slice none 0 0, Value.slice none 0 0]).toArray rest := by
  have hz : (dfaC (ints (List.replicate 256 0)) (.slice none 0 0) (.slice none 0 0)).length = 258 := dfaC_length _ _ _ (by rw [ints_length]; exact List.length_replicate)
  have hl : (intsV (ints (List.replicate 256 0))).length = 256 := by rw [intsV_length, ints_length]; exact List.length_replicate
  have hf := fill_head C 0 [] (dfaC (ints (List.replicate 256 0)) (.slice none 0 0) (.slice none 0 0)) rfl (by omega)
  have hd : (dfaC (ints (List.replicate 256 0)) (.slice none 0 0) (.slice none 0 0)).drop C.length = [.slice none 0 0, .slice none 0 0] := by
    rw [dfaC, h]; exact List.drop_left' hl
  rw [hd] at hf
  rw [Instr.fill]
  show (match (some (0, 256) : Option (Nat × Nat)) with | none => none | some (off, size) => if C.toArray.size ≠ size || off + C.toArray.size > (Tryz.zeroCells26).size then none else Instr.fill _ (C.toArray.zipIdx.foldl (fun cs (x : Value × Nat) => cs.setIfInBounds (off + x.2) x.1) Tryz.zeroCells26) rest) = _
  simp only []
  rw [if_neg (by rw [zeroD_size]; simp [h]), zeroD_list]
  congr 1
  generalize dfaC (ints (List.replicate 256 0)) (.slice none 0 0) (.slice none 0 0) = Z at hf ⊢
  simpa using hf
theorem fill_one (C : List Value) (i k : Nat) (x v : Value) (pre post : List Value) (hv : v.cells = #[v]) (hC : C = pre ++ x :: post) (hk : pre.length = k) (hp : (([(0, 256), (256, 1), (257, 1)] : List (Nat × Nat)).toArray[i]?) = some (k, 1)) (rest : List (Nat × Value)) :
    Instr.fill (([(0, 256), (256, 1), (257, 1)] : List (Nat × Nat)).toArray[·]?) C.toArray ((i, v) :: rest) = Instr.fill (([(0, 256), (256, 1), (257, 1)] : List (Nat × Nat)).toArray[·]?) (pre ++ v :: post).toArray rest := by
  rw [Instr.fill]
  simp only [hp, hv]
  rw [if_neg (by rw [hC]; simp; omega)]
  congr 1
  have e : ∀ X : Array Value, ((#[v] : Array Value).zipIdx.foldl (fun (cs : Array Value) (x : Value × Nat) => cs.setIfInBounds (k + x.2) x.1) X) = X.setIfInBounds (k + 0) v := by intro X; simp
  refine (e _).trans ?_
  rw [hC, Nat.add_zero]
  simp only [List.setIfInBounds_toArray]
  rw [← hk, List.set_append_right _ _ (Nat.le_refl _), Nat.sub_self]
  rfl
end Go.Proofs.YtglflmkkecephaaGreatDoor
