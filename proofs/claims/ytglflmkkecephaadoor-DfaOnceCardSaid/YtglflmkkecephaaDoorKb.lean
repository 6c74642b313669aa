/-
  An automaton that is in one state, in plain Lean: how it is made of a machine, and that it tells what the machine tells.
-/
import Derived.Test.YtglflmkkecephaaDoorKa
namespace Go.Proofs.YtglflmkkecephaaDoor

structure Dfa where
  cls : List Int
  next : List (List Int)
  tags : List Nat
def goM (D : Dfa) (at_ : Int) (b : Nat) : Int :=
  let c := D.cls.getD b 0
  if at_ < 0 ∨ (D.next.length : Int) ≤ at_ ∨ c < 0 ∨ ((D.next.getD at_.toNat []).length : Int) ≤ c then -1 else
    let to := (D.next.getD at_.toNat []).getD c.toNat 0
    if to < 0 ∨ (D.next.length : Int) ≤ to then -1 else to
def tagD (D : Dfa) (at_ : Int) : Nat := if at_ < 0 ∨ (Nat.min D.tags.length D.next.length : Int) ≤ at_ then 0 else D.tags.getD at_.toNat 0
def atD (D : Dfa) (at_ : Int) (bs : List Nat) : Int := bs.foldl (goM D) at_
def runD (D : Dfa) (bs : List Nat) : Nat := tagD D (atD D 0 bs)

/-- The number of a set. -/
def setNo (sets : List (List Nat)) (A : List Nat) : List (List Nat) × Int := if A = [] then (sets, -1) else ((keyM sets A).1, ((keyM sets A).2 : Int))
def rowM (G : List St) (A : List Nat) (bytes : List Nat) (sets : List (List Nat)) : Nat → List (List Nat) × List Int
  | 0 => (sets, [])
  | n + 1 => ((setNo (rowM G A bytes sets n).1 (stepM G (ints A) (bytes.getD n 0))).1, (rowM G A bytes sets n).2 ++ [(setNo (rowM G A bytes sets n).1 (stepM G (ints A) (bytes.getD n 0))).2])
structure Found where
  sets : List (List Nat)
  next : List (List Int)
  tags : List Nat
def roundD (G : List St) (bytes : List Nat) (B : List Nat) : Nat → Found
  | 0 => ⟨[B], [], []⟩
  | n + 1 =>
    let x := roundD G bytes B n
    let y := rowM G (x.sets.getD n []) bytes x.sets bytes.length
    ⟨y.1, x.next ++ [y.2], x.tags ++ [tagsM G (ints (x.sets.getD n []))]⟩
/-- How many rounds there are; none, if there are too many sets. -/
def endD (G : List St) (bytes : List Nat) (B : List Nat) : Nat → Nat → Option Nat
  | 0, _ => none
  | f + 1, n => if n < (roundD G bytes B n).sets.length then (if 2000 < (roundD G bytes B n).sets.length then none else endD G bytes B f (n + 1)) else some n
def dfaOf (G : List St) (cls : List Nat) (B : List Nat) : Option Dfa :=
  if B = [] then some ⟨ints cls, [[-1]], [0]⟩ else
    (endD G (firstsM cls 256) B 2002 0).map fun n => ⟨ints cls, (roundD G (firstsM cls 256) B n).next, (roundD G (firstsM cls 256) B n).tags⟩
def dfaM (l : List Rx) : Option Dfa := dfaOf (buildM l 0 [] []).1 (classesM l) (closedM (buildM l 0 [] []).1 (ints (buildM l 0 [] []).2))

/-- The number of a set that is there. -/
def noIn (sets : List (List Nat)) (A : List Nat) : Int := if A = [] then -1 else (idxM sets A : Int)
def Has_ (sets : List (List Nat)) (A : List Nat) : Prop := A = [] ∨ A ∈ sets
structure Sets (sets : List (List Nat)) : Prop where
  nodup : sets.Nodup
  some_ : ∀ A ∈ sets, A ≠ []
theorem setNo_len (sets : List (List Nat)) (A : List Nat) : ∃ m, (setNo sets A).1 = sets ++ m := by
  unfold setNo keyM
  split
  · exact ⟨[], by simp⟩
  · split
    · exact ⟨[], by simp⟩
    · exact ⟨[A], rfl⟩
theorem setNo_sets {sets : List (List Nat)} (h : Sets sets) (A : List Nat) : Sets (setNo sets A).1 := by
  unfold setNo keyM
  split
  · exact h
  · rename_i hA
    split
    · exact h
    · rename_i hm
      refine ⟨List.nodup_append.2 ⟨h.nodup, by simp, fun x hx y hy e => ?_⟩, fun x hx => ?_⟩
      · have : y = A := by simpa using hy
        subst e; subst this; exact hm hx
      · rcases List.mem_append.1 hx with hx | hx
        · exact h.some_ x hx
        · have : x = A := by simpa using hx
          rw [this]; exact hA
theorem setNo_no (sets : List (List Nat)) (A : List Nat) : (setNo sets A).2 = noIn (setNo sets A).1 A ∧ Has_ (setNo sets A).1 A := by
  unfold setNo
  split
  · rename_i h
    exact ⟨by simp [noIn, h], .inl h⟩
  · rename_i h
    exact ⟨by simp only [noIn, if_neg h]; rw [keyM_idxM], .inr (keyM_mem _ _)⟩
theorem noIn_more {sets m : List (List Nat)} {A : List Nat} (h : Has_ sets A) : noIn (sets ++ m) A = noIn sets A ∧ Has_ (sets ++ m) A := by
  rcases h with h | h
  · exact ⟨by simp [noIn, h], .inl h⟩
  · refine ⟨?_, .inr (by simp [h])⟩
    unfold noIn
    split
    · rfl
    · rw [idxM_more h]
theorem row_len (G : List St) (A : List Nat) (bytes : List Nat) (sets : List (List Nat)) (n : Nat) : (∃ m, (rowM G A bytes sets n).1 = sets ++ m) ∧ (rowM G A bytes sets n).2.length = n := by
  induction n with
  | zero => exact ⟨⟨[], by simp [rowM]⟩, rfl⟩
  | succ n ih =>
    obtain ⟨⟨m, hm⟩, hl⟩ := ih
    obtain ⟨m2, hm2⟩ := setNo_len (rowM G A bytes sets n).1 (stepM G (ints A) (bytes.getD n 0))
    refine ⟨⟨m ++ m2, ?_⟩, by simp [rowM, hl]⟩
    simp only [rowM]
    rw [hm2, hm, List.append_assoc]
theorem row_sets (G : List St) (A : List Nat) (bytes : List Nat) (sets : List (List Nat)) (h : Sets sets) (n : Nat) : Sets (rowM G A bytes sets n).1 := by
  induction n with
  | zero => exact h
  | succ n ih => exact setNo_sets ih _
theorem row_at (G : List St) (A : List Nat) (bytes : List Nat) (sets : List (List Nat)) (n i : Nat) (h : i < n) :
    (rowM G A bytes sets n).2.getD i 0 = noIn (rowM G A bytes sets n).1 (stepM G (ints A) (bytes.getD i 0)) ∧ Has_ (rowM G A bytes sets n).1 (stepM G (ints A) (bytes.getD i 0)) := by
  induction n with
  | zero => omega
  | succ n ih =>
    have hl := (row_len G A bytes sets n).2
    by_cases e : i = n
    · subst e
      simp only [rowM]
      rw [getD_right (by omega), hl, Nat.sub_self]
      exact setNo_no _ _
    · obtain ⟨h1, h2⟩ := ih (by omega)
      obtain ⟨m, hm⟩ := setNo_len (rowM G A bytes sets n).1 (stepM G (ints A) (bytes.getD n 0))
      simp only [rowM]
      rw [getD_left (by omega), h1, hm]
      exact ⟨(noIn_more h2).1.symm, (noIn_more h2).2⟩

/-- What stands behind n rounds. -/
structure Rounds (G : List St) (bytes : List Nat) (n : Nat) (x : Found) : Prop where
  ok : Sets x.sets
  hn : x.next.length = n
  ht : x.tags.length = n
  le : n ≤ x.sets.length
  row : ∀ i, i < n → (x.next.getD i []).length = bytes.length
  tag : ∀ i, i < n → x.tags.getD i 0 = tagsM G (ints (x.sets.getD i []))
  to : ∀ i c, i < n → c < bytes.length → (x.next.getD i []).getD c 0 = noIn x.sets (stepM G (ints (x.sets.getD i [])) (bytes.getD c 0)) ∧ Has_ x.sets (stepM G (ints (x.sets.getD i [])) (bytes.getD c 0))
theorem rounds_zero (G : List St) (bytes B : List Nat) (h : B ≠ []) : Rounds G bytes 0 (roundD G bytes B 0) :=
  ⟨⟨by simp [roundD], fun A hA => by simp [roundD] at hA; rw [hA]; exact h⟩, rfl, rfl, Nat.zero_le _, fun i h => by omega, fun i h => by omega, fun i c h => by omega⟩
theorem rounds_succ {G : List St} {bytes B : List Nat} {n : Nat} (h : Rounds G bytes n (roundD G bytes B n)) (hlt : n < (roundD G bytes B n).sets.length) : Rounds G bytes (n + 1) (roundD G bytes B (n + 1)) := by
  obtain ⟨x, hx⟩ : ∃ x, roundD G bytes B n = x := ⟨_, rfl⟩
  have e : roundD G bytes B (n + 1) = ⟨(rowM G (x.sets.getD n []) bytes x.sets bytes.length).1, x.next ++ [(rowM G (x.sets.getD n []) bytes x.sets bytes.length).2], x.tags ++ [tagsM G (ints (x.sets.getD n []))]⟩ := by
    rw [← hx]; rfl
  rw [e]
  rw [hx] at h hlt
  obtain ⟨⟨m, hm⟩, hl⟩ := row_len G (x.sets.getD n []) bytes x.sets bytes.length
  have hs := row_sets G (x.sets.getD n []) bytes x.sets h.ok bytes.length
  have hr := row_at G (x.sets.getD n []) bytes x.sets bytes.length
  have hget : ∀ i, i < x.sets.length → (x.sets ++ m).getD i [] = x.sets.getD i [] := fun i hi => getD_left hi
  constructor
  · exact hs
  · simp [h.hn]
  · simp [h.ht]
  · show n + 1 ≤ (rowM G (x.sets.getD n []) bytes x.sets bytes.length).1.length
    rw [hm, List.length_append]; omega
  · intro i hi
    show ((x.next ++ [(rowM G (x.sets.getD n []) bytes x.sets bytes.length).2]).getD i []).length = bytes.length
    by_cases e : i = n
    · subst e
      rw [getD_right (by rw [h.hn]; exact Nat.le_refl _), h.hn, Nat.sub_self]
      exact hl
    · rw [getD_left (by rw [h.hn]; omega)]
      exact h.row i (by omega)
  · intro i hi
    show (x.tags ++ [tagsM G (ints (x.sets.getD n []))]).getD i 0 = tagsM G (ints ((rowM G (x.sets.getD n []) bytes x.sets bytes.length).1.getD i []))
    rw [hm, hget i (by have := h.le; omega)]
    by_cases e : i = n
    · subst e
      rw [getD_right (by rw [h.ht]; exact Nat.le_refl _), h.ht, Nat.sub_self]
      rfl
    · rw [getD_left (by rw [h.ht]; omega)]
      exact h.tag i (by omega)
  · intro i c hi hc
    show ((x.next ++ [(rowM G (x.sets.getD n []) bytes x.sets bytes.length).2]).getD i []).getD c 0 = noIn (rowM G (x.sets.getD n []) bytes x.sets bytes.length).1 (stepM G (ints ((rowM G (x.sets.getD n []) bytes x.sets bytes.length).1.getD i [])) (bytes.getD c 0)) ∧ Has_ (rowM G (x.sets.getD n []) bytes x.sets bytes.length).1 (stepM G (ints ((rowM G (x.sets.getD n []) bytes x.sets bytes.length).1.getD i [])) (bytes.getD c 0))
    have hg : (rowM G (x.sets.getD n []) bytes x.sets bytes.length).1.getD i [] = x.sets.getD i [] := by rw [hm]; exact hget i (by have := h.le; omega)
    rw [hg]
    by_cases e : i = n
    · subst e
      rw [getD_right (by rw [h.hn]; exact Nat.le_refl _), h.hn, Nat.sub_self]
      exact hr c hc
    · rw [getD_left (by rw [h.hn]; omega)]
      obtain ⟨h1, h2⟩ := h.to i c (by omega) hc
      rw [hm, h1]
      exact ⟨(noIn_more h2).1.symm, (noIn_more h2).2⟩
theorem endD_some {G : List St} {bytes B : List Nat} (hB : B ≠ []) : ∀ (f n m : Nat), Rounds G bytes n (roundD G bytes B n) → endD G bytes B f n = some m → Rounds G bytes m (roundD G bytes B m) ∧ (roundD G bytes B m).sets.length = m := by
  intro f
  induction f with
  | zero => intro n m _ h; simp [endD] at h
  | succ f ih =>
    intro n m hr h
    simp only [endD] at h
    split at h
    · rename_i hlt
      split at h
      · cases h
      · exact ih (n + 1) m (rounds_succ hr hlt) h
    · rename_i hge
      have : n = m := by simpa using h
      subst this
      exact ⟨hr, by have := hr.le; omega⟩
theorem rounds_begin (G : List St) (bytes B : List Nat) (n : Nat) : ∃ m, (roundD G bytes B n).sets = B :: m := by
  induction n with
  | zero => exact ⟨[], rfl⟩
  | succ n ih =>
    obtain ⟨m, hm⟩ := ih
    obtain ⟨⟨m2, hm2⟩, _⟩ := row_len G ((roundD G bytes B n).sets.getD n []) bytes (roundD G bytes B n).sets bytes.length
    refine ⟨m ++ m2, ?_⟩
    show (rowM G ((roundD G bytes B n).sets.getD n []) bytes (roundD G bytes B n).sets bytes.length).1 = _
    rw [hm2, hm]; rfl

/-- The bytes of a class are alike to the machine. -/
def Alike (G : List St) (cls : List Nat) : Prop := ∀ b c, b < 256 → c < 256 → cls.getD b 0 = cls.getD c 0 → ∀ s ∈ G, s.bytes.has b = s.bytes.has c
def viaB (G : List St) (b : Nat) (n : Int) : Option Int :=
  if 0 ≤ n then match G[n.toNat]? with | some s => if s.bytes.has b then some s.to else none | none => none else none
theorem stepW_via (G : List St) (A : List Int) (b : Nat) : stepW G A b = A.filterMap (viaB G b) := rfl
theorem step_alike {G : List St} {cls : List Nat} (h : Alike G cls) {b c : Nat} (hb : b < 256) (hc : c < 256) (he : cls.getD b 0 = cls.getD c 0) (A : List Nat) : stepM G (ints A) b = stepM G (ints A) c := by
  have : viaB G b = viaB G c := by
    funext n
    unfold viaB
    split
    · split
      · rename_i s hs
        rw [h b c hb hc he s (List.mem_of_getElem? hs)]
      · rfl
    · rfl
  unfold stepM
  rw [stepW_via, stepW_via, this]
theorem step_nil (G : List St) (b : Nat) : stepM G (ints []) b = [] := by
  show closedM G (stepW G [] b) = []
  have : stepW G [] b = [] := rfl
  rw [this, closed_nil]
/-- A state stands for a set. -/
def Stands (sets : List (List Nat)) (at_ : Int) (A : List Nat) : Prop := at_ = noIn sets A ∧ Has_ sets A
theorem stands_nil {sets : List (List Nat)} {at_ : Int} (h : Stands sets at_ []) : at_ = -1 := by rw [h.1]; simp [noIn]
theorem stands_at {sets : List (List Nat)} (hs : Sets sets) {at_ : Int} {A : List Nat} (h : Stands sets at_ A) (hA : A ≠ []) : ∃ i, i < sets.length ∧ at_ = i ∧ sets.getD i [] = A := by
  rcases h.2 with e | e
  · exact absurd e hA
  · exact ⟨idxM sets A, idxM_lt e, by rw [h.1, noIn, if_neg hA], idxM_get e []⟩
theorem go_stands {G : List St} {cls : List Nat} {n : Nat} {x : Found} (hr : Rounds G (firstsM cls 256) n x) (hn : x.sets.length = n) (hc : Normal cls) (hal : Alike G cls) {at_ : Int} {A : List Nat} (h : Stands x.sets at_ A) {b : Nat} (hb : b < 256) :
    Stands x.sets (goM ⟨ints cls, x.next, x.tags⟩ at_ b) (stepM G (ints A) b) := by
  by_cases hA : A = []
  · subst hA
    rw [stands_nil h, step_nil]
    refine ⟨?_, .inl rfl⟩
    simp [goM, noIn]
  · obtain ⟨i, hi, rfl, hg⟩ := stands_at hr.ok h hA
    have hcl := normal_lt hc hb
    have hcb : (ints cls).getD b 0 = ((cls.getD b 0 : Nat) : Int) := by
      have : b < cls.length := by rw [hc.1]; exact hb
      simp [ints, List.getD, List.getElem?_map, List.getElem?_eq_getElem this]
    have hf := firsts_at cls 256 (cls.getD b 0) hcl
    obtain ⟨h1, h2⟩ := hr.to i (cls.getD b 0) (by omega) hcl
    rw [hg] at h1 h2
    rw [step_alike hal hb hf.1 hf.2.symm A]
    have hrow := hr.row i (by omega)
    have hto : noIn x.sets (stepM G (ints A) ((firstsM cls 256).getD (cls.getD b 0) 0)) < x.next.length := by
      rw [hr.hn, ← hn]
      unfold noIn
      split
      · omega
      · rename_i hne
        rcases h2 with e | e
        · exact absurd e hne
        · exact_mod_cast idxM_lt e
    refine ⟨?_, h2⟩
    unfold goM
    simp only [hcb, Int.toNat_natCast, hrow, h1]
    rw [if_neg (by rw [hr.hn]; omega)]
    by_cases hneg : noIn x.sets (stepM G (ints A) ((firstsM cls 256).getD (cls.getD b 0) 0)) < 0
    · rw [if_pos (.inl hneg)]
      unfold noIn at hneg ⊢
      split at hneg
      · rename_i e; rw [if_pos e]
      · omega
    · rw [if_neg (by omega)]
theorem tag_stands {G : List St} {bytes : List Nat} {n : Nat} {x : Found} (cls : List Int) (hr : Rounds G bytes n x) (hn : x.sets.length = n) {at_ : Int} {A : List Nat} (h : Stands x.sets at_ A) : tagD ⟨cls, x.next, x.tags⟩ at_ = tagsM G (ints A) := by
  by_cases hA : A = []
  · subst hA
    rw [stands_nil h]
    simp [tagD, tagsM, ints]
  · obtain ⟨i, hi, rfl, hg⟩ := stands_at hr.ok h hA
    unfold tagD
    have : ¬ ((i : Int) < 0 ∨ (Nat.min x.tags.length x.next.length : Int) ≤ (i : Int)) := by
      rw [hr.ht, hr.hn]
      have : Nat.min n n = n := Nat.min_self n
      rw [this]; omega
    rw [if_neg this, Int.toNat_natCast, hr.tag i (by omega), hg]
theorem dfa_of_run {G : List St} {cls : List Nat} {B : List Nat} (hc : Normal cls) (hal : Alike G cls) {D : Dfa} (h : dfaOf G cls B = some D) (bs : List Nat) (hb : ∀ b ∈ bs, b < 256) :
    runD D bs = tagsM G (ints (bs.foldl (fun a b => stepM G (ints a) b) B)) := by
  unfold dfaOf at h
  split at h
  · rename_i hB
    have hD : D = ⟨ints cls, [[-1]], [0]⟩ := by simpa using h.symm
    have h0 : ∀ (bs : List Nat), (bs.foldl (fun a b => stepM G (ints a) b) ([] : List Nat)) = [] := by
      intro bs
      induction bs with
      | nil => rfl
      | cons b bs ih => rw [List.foldl_cons, step_nil]; exact ih
    rw [hB, h0]
    have hz : tagsM G (ints []) = 0 := by simp [tagsM, ints]
    rw [hz]
    have key : ∀ (bs : List Nat) (at_ : Int), at_ = 0 ∨ at_ = -1 → tagD D (atD D at_ bs) = 0 := by
      intro bs
      induction bs with
      | nil =>
        intro at_ h
        rcases h with rfl | rfl <;> simp [hD, tagD, atD]
      | cons b bs ih =>
        intro at_ h
        show tagD D (atD D (goM D at_ b) bs) = 0
        refine ih _ (.inr ?_)
        rw [hD]
        unfold goM
        rcases h with rfl | rfl
        · simp only []
          split
          · rfl
          · rename_i hh
            have hc0 : (ints cls).getD b 0 = 0 := by
              have h1 : ¬ ((ints cls).getD b 0 < 0) := fun x => hh (.inr (.inr (.inl x)))
              have h2 : ¬ ((1 : Int) ≤ (ints cls).getD b 0) := fun x => hh (.inr (.inr (.inr x)))
              omega
            rw [hc0]
            simp
        · simp
    exact key bs 0 (.inl rfl)
  · rename_i hB
    cases he : endD G (firstsM cls 256) B 2002 0 with
    | none => rw [he] at h; simp at h
    | some m =>
      rw [he] at h
      have hD : D = ⟨ints cls, (roundD G (firstsM cls 256) B m).next, (roundD G (firstsM cls 256) B m).tags⟩ := by simpa using h.symm
      obtain ⟨hr, hm⟩ := endD_some hB 2002 0 m (rounds_zero G _ B hB) he
      have key : ∀ (bs : List Nat), (∀ b ∈ bs, b < 256) → ∀ (at_ : Int) (A : List Nat), Stands (roundD G (firstsM cls 256) B m).sets at_ A → tagD D (atD D at_ bs) = tagsM G (ints (bs.foldl (fun a b => stepM G (ints a) b) A)) := by
        intro bs
        induction bs with
        | nil => intro _ at_ A h; rw [hD]; exact tag_stands _ hr hm h
        | cons b bs ih =>
          intro hb at_ A h
          show tagD D (atD D (goM D at_ b) bs) = tagsM G (ints (bs.foldl (fun a b => stepM G (ints a) b) (stepM G (ints A) b)))
          refine ih (fun c hc => hb c (by simp [hc])) _ _ ?_
          rw [hD]
          exact go_stands hr hm hc hal h (hb b (by simp))
      refine key bs hb 0 B ?_
      obtain ⟨m2, hm2⟩ := rounds_begin G (firstsM cls 256) B m
      rw [hm2]
      exact ⟨by simp [noIn, hB, idxM_head], .inr (by simp)⟩

/-! ### The machine's bytes are those of the regexes. -/
theorem Leafy.free {P : Rx → Prop} {G : List St} (h : Leafy P G) (i to : Nat) : Leafy P (freeM G i to) := by
  intro s hs
  rcases mem_modify hs with hs | ⟨y, hy, rfl⟩
  · exact h s hs
  · exact h y hy
theorem Leafy.tag {P : Rx → Prop} {G : List St} (h : Leafy P G) (i t : Nat) : Leafy P (tagM G i t) := by
  intro s hs
  rcases mem_modify hs with hs | ⟨y, hy, rfl⟩
  · exact h s hs
  · exact h y hy
theorem Leafy.bytes {P : Rx → Prop} {G : List St} (h : Leafy P G) (i : Nat) (r : Rx) (to : Nat) (hr : P r) : Leafy P (bytesM G i r to) := by
  intro s hs
  rcases mem_modify hs with hs | ⟨y, hy, rfl⟩
  · exact h s hs
  · exact .inr hr
theorem Leafy.snoc {P : Rx → Prop} {G : List St} (h : Leafy P G) : Leafy P (G ++ [St.none]) := by
  intro s hs
  rcases List.mem_append.1 hs with hs | hs
  · exact h s hs
  · have : s = St.none := by simpa using hs
    rw [this]; exact .inl rfl
mutual
theorem lay_leafy {P : Rx → Prop} : ∀ (r : Rx) (G : List St) (i : Nat), (∀ q, Leaf q r → P q) → Leafy P G → Leafy P (layM r G i).1
  | .mk k b0 b1 b2 b3 kids, G, i, hp, h => by
    rw [layM]
    by_cases h0 : k = 0
    · simp only [h0, if_true]; exact h.snoc.free _ _
    by_cases h1 : k = 1
    · simp only [h0, h1, if_true, if_false]
      refine Leafy.bytes (h.snoc.snoc.free _ _) _ _ _ (hp _ ?_)
      rw [Leaf]
      exact .inl ⟨h1, by rw [h1]⟩
    have hk : ∀ q, LeafL q kids → P q := fun q hq => hp q (by rw [Leaf]; exact .inr ⟨h1, hq⟩)
    by_cases h2 : k = 2
    · simp only [h0, h1, h2, if_true, if_false]
      exact (cat_leafy kids _ _ hk h.snoc).free _ _
    by_cases h3 : k = 3
    · simp only [h0, h1, h2, h3, if_true, if_false]
      exact alt_leafy kids _ _ _ hk h.snoc
    by_cases h4 : k = 4
    · simp only [h0, h1, h2, h3, h4, if_true, if_false]
      exact head_leafy kids _ _ hk ((h.snoc.snoc.free _ _).free _ _)
    · simp only [h0, h1, h2, h3, h4, if_false]
      exact h.snoc
theorem cat_leafy {P : Rx → Prop} : ∀ (l : List Rx) (G : List St) (i : Nat), (∀ q, LeafL q l → P q) → Leafy P G → Leafy P (catM l G i).1
  | [], G, i, _, h => h
  | r :: rs, G, i, hp, h => by
    rw [catM]
    exact cat_leafy rs _ _ (fun q hq => hp q (by rw [LeafL]; exact .inr hq)) (lay_leafy r G i (fun q hq => hp q (by rw [LeafL]; exact .inl hq)) h)
theorem alt_leafy {P : Rx → Prop} : ∀ (l : List Rx) (G : List St) (i fin : Nat), (∀ q, LeafL q l → P q) → Leafy P G → Leafy P (altM l G i fin)
  | [], G, i, _, _, h => h
  | r :: rs, G, i, fin, hp, h => by
    rw [altM]
    exact alt_leafy rs _ _ _ (fun q hq => hp q (by rw [LeafL]; exact .inr hq)) ((lay_leafy r G i (fun q hq => hp q (by rw [LeafL]; exact .inl hq)) h).free _ _)
theorem head_leafy {P : Rx → Prop} : ∀ (l : List Rx) (G : List St) (i : Nat), (∀ q, LeafL q l → P q) → Leafy P G → Leafy P (headM l G i)
  | [], G, i, _, h => h
  | r :: rs, G, i, hp, h => by
    rw [headM]
    exact (lay_leafy r G i (fun q hq => hp q (by rw [LeafL]; exact .inl hq)) h).free _ _
end
theorem build_leafy {P : Rx → Prop} : ∀ (l : List Rx) (i : Nat) (G : List St) (starts : List Nat), (∀ q, LeafL q l → P q) → Leafy P G → Leafy P (buildM l i G starts).1
  | [], _, G, _, _, h => h
  | r :: rs, i, G, starts, hp, h => by
    rw [buildM]
    exact build_leafy rs _ _ _ (fun q hq => hp q (by rw [LeafL]; exact .inr hq)) ((lay_leafy r _ _ (fun q hq => hp q (by rw [LeafL]; exact .inl hq)) h.snoc).tag _ _)
theorem build_alike (l : List Rx) : Alike (buildM l 0 [] []).1 (classesM l) := by
  intro b c hb hc he s hs
  rcases build_leafy (P := fun q => LeafL q l) l 0 [] [] (fun q hq => hq) (fun s hs => absurd hs (by simp)) s hs with e | e
  · rw [e, has_zero, has_zero]
  · exact classes_fine l hb hc he _ e
/-- An automaton of regexes tells what their machine tells. -/
theorem dfa_run (l : List Rx) {D : Dfa} (h : dfaM l = some D) (bs : List Nat) (hb : ∀ b ∈ bs, b < 256) : runD D bs = runM (buildM l 0 [] []).1 (buildM l 0 [] []).2 bs :=
  dfa_of_run (normal_classes l) (build_alike l) h bs hb
end Go.Proofs.YtglflmkkecephaaDoor
