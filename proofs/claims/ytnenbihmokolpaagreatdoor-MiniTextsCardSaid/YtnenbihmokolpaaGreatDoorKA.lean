/-
  Classes of bytes, in plain Lean: how they are numbered, and that bytes of one class are alike to each regex.
  An automaton that is in one state, in plain Lean: how it is made of a machine, and that it tells what the machine tells.
  The key of a set of states: its numbers, each with a blank behind it; two sets of one key are one.
  An automaton in memory; Go.
  Run of an automaton.
-/
import Derived.Test.YtnenbihmokolpaaGreatDoorNu
import Derived.Lib.ItoaNum
import Derived.Test.YtnenbihmokolpaaGreatDoorNp
import Derived.Deep.MidRow
namespace Go.Proofs.YtnenbihmokolpaaGreatDoor set_option linter.unusedVariables false set_option linter.unusedSimpArgs false

/-- The number of a key: the one that it has, or the next one. -/
def keyM {α : Type} [DecidableEq α] (ks : List α) (k : α) : List α × Nat := if k ∈ ks then (ks, ks.idxOf k) else (ks ++ [k], ks.length)
def idxM {α : Type} [DecidableEq α] (l : List α) (x : α) : Nat := l.idxOf x
/-- The keys of the first n, and their numbers. -/
def numsM {α : Type} [DecidableEq α] (f : Nat → α) : Nat → List α × List Nat
  | 0 => ([], [])
  | n + 1 => ((keyM (numsM f n).1 (f n)).1, (numsM f n).2 ++ [(keyM (numsM f n).1 (f n)).2])
def pairOf (cls : List Nat) (r : Rx) (b : Nat) : Nat × Bool := (cls.getD b 0, r.has b)
def splitB (cls : List Nat) (r : Rx) : List Nat := (numsM (pairOf cls r) 256).2
mutual
def splitM : List Nat → Rx → List Nat
  | cls, .mk k b0 b1 b2 b3 kids => if k = 1 then splitB cls (.mk k b0 b1 b2 b3 kids) else splitsM cls kids
def splitsM : List Nat → List Rx → List Nat
  | cls, [] => cls
  | cls, r :: rs => splitsM (splitM cls r) rs
end
def classesM (l : List Rx) : List Nat := splitsM (List.replicate 256 0) l
def firstsM (cls : List Nat) : Nat → List Nat
  | 0 => []
  | n + 1 => if cls.getD n 0 = (firstsM cls n).length then firstsM cls n ++ [n] else firstsM cls n

theorem getD_left {α : Type} {l m : List α} {d : α} {i : Nat} (h : i < l.length) : (l ++ m).getD i d = l.getD i d := by
  simp only [List.getD, List.getElem?_append_left h]
theorem getD_right {α : Type} {l m : List α} {d : α} {i : Nat} (h : l.length ≤ i) : (l ++ m).getD i d = m.getD (i - l.length) d := by
  simp only [List.getD, List.getElem?_append_right h]
section
variable {α : Type} [DecidableEq α] (f : Nat → α)
theorem numsM_length (n : Nat) : (numsM f n).2.length = n := by
  induction n with
  | zero => rfl
  | succ n ih => simp [numsM, ih]
theorem keyM_mem (ks : List α) (k : α) : k ∈ (keyM ks k).1 := by
  unfold keyM; split
  · assumption
  · simp
theorem keyM_sub (ks : List α) (k x : α) (h : x ∈ ks) : x ∈ (keyM ks k).1 := by
  unfold keyM; split
  · exact h
  · simp [h]
theorem keyM_idx (ks : List α) (k x : α) (h : x ∈ ks) : (keyM ks k).1.idxOf x = ks.idxOf x := by
  unfold keyM; split
  · rfl
  · simp [List.idxOf_append, h]
theorem keyM_no (ks : List α) (k : α) : (keyM ks k).2 = (keyM ks k).1.idxOf k := by
  unfold keyM; split
  · rfl
  · rename_i h
    simp [List.idxOf_append, h]
theorem idxM_lt {l : List α} {x : α} (h : x ∈ l) : idxM l x < l.length := List.idxOf_lt_length_of_mem h
theorem idxM_get {l : List α} {x : α} (h : x ∈ l) (d : α) : l.getD (idxM l x) d = x := by
  have hl := idxM_lt h
  simp only [List.getD, List.getElem?_eq_getElem hl, Option.getD_some]
  exact List.getElem_idxOf hl
theorem idxM_more {l m : List α} {x : α} (h : x ∈ l) : idxM (l ++ m) x = idxM l x := by
  unfold idxM; rw [List.idxOf_append, if_pos h]
theorem idxM_head (l : List α) (x : α) : idxM (x :: l) x = 0 := by simp [idxM, List.idxOf_cons]
theorem keyM_idxM (ks : List α) (k : α) : (keyM ks k).2 = idxM (keyM ks k).1 k := keyM_no ks k
theorem numsM_mem (n b : Nat) (h : b < n) : f b ∈ (numsM f n).1 := by
  induction n with
  | zero => omega
  | succ n ih =>
    by_cases e : b = n
    · subst e; exact keyM_mem _ _
    · exact keyM_sub _ _ _ (ih (by omega))
theorem numsM_get (n b : Nat) (h : b < n) : (numsM f n).2.getD b 0 = (numsM f n).1.idxOf (f b) := by
  induction n with
  | zero => omega
  | succ n ih =>
    have hl := numsM_length f n
    simp only [numsM]
    by_cases e : b = n
    · subst e
      rw [getD_right (by omega), hl, Nat.sub_self, ← keyM_no]
      rfl
    · rw [getD_left (by omega), ih (by omega), keyM_idx _ _ _ (numsM_mem f n b (by omega))]
/-- Numbers are alike just where keys are. -/
theorem numsM_eq (n b c : Nat) (hb : b < n) (hc : c < n) (h : (numsM f n).2.getD b 0 = (numsM f n).2.getD c 0) : f b = f c := by
  rw [numsM_get f n b hb, numsM_get f n c hc] at h
  have h1 := List.getElem_idxOf (List.idxOf_lt_length_of_mem (numsM_mem f n b hb))
  have h2 := List.getElem_idxOf (List.idxOf_lt_length_of_mem (numsM_mem f n c hc))
  rw [← h1, ← h2]
  congr 1
theorem numsM_take (n m : Nat) (h : n ≤ m) : (numsM f m).2.take n = (numsM f n).2 := by
  induction m with
  | zero =>
    have : n = 0 := by omega
    subst this; rfl
  | succ m ih =>
    by_cases e : n = m + 1
    · subst e
      rw [List.take_of_length_le]
      rw [numsM_length]; exact Nat.le_refl _
    · have hl := numsM_length f m
      simp only [numsM]
      rw [List.take_append_of_le_length (by omega)]
      exact ih (by omega)
theorem numsM_getD (n m b : Nat) (h : n ≤ m) (hb : b < n) : (numsM f m).2.getD b 0 = (numsM f n).2.getD b 0 := by
  rw [← numsM_take f n m h]
  simp only [List.getD, List.getElem?_take_of_lt hb]
/-- As many classes as keys. -/
theorem firsts_keys (m n : Nat) (h : n ≤ m) : (firstsM (numsM f m).2 n).length = (numsM f n).1.length := by
  induction n with
  | zero => rfl
  | succ n ih =>
    have ih := ih (by omega)
    have e : (numsM f m).2.getD n 0 = (keyM (numsM f n).1 (f n)).2 := by
      rw [numsM_getD f (n + 1) m n h (by omega)]
      simp only [numsM]
      rw [getD_right (by rw [numsM_length]; exact Nat.le_refl _), numsM_length, Nat.sub_self]
      rfl
    simp only [firstsM, numsM]
    rw [e, ih]
    unfold keyM
    by_cases hk : f n ∈ (numsM f n).1
    · rw [if_pos hk]
      have := List.idxOf_lt_length_of_mem hk
      rw [if_neg (by simp only; omega)]
      exact ih
    · rw [if_neg hk]
      simp [ih]
theorem nums_le (m n : Nat) (h : n < m) : (numsM f m).2.getD n 0 ≤ (firstsM (numsM f m).2 n).length := by
  rw [firsts_keys f m n (by omega), numsM_getD f (n + 1) m n (by omega) (by omega)]
  simp only [numsM]
  rw [getD_right (by rw [numsM_length]; exact Nat.le_refl _), numsM_length, Nat.sub_self]
  show (keyM (numsM f n).1 (f n)).2 ≤ _
  unfold keyM
  by_cases hk : f n ∈ (numsM f n).1
  · rw [if_pos hk]
    exact Nat.le_of_lt (List.idxOf_lt_length_of_mem hk)
  · rw [if_neg hk]
    exact Nat.le_refl _
end

/-- Classes that are numbered as they come. -/
def Normal (cls : List Nat) : Prop := cls.length = 256 ∧ ∀ n, n < 256 → cls.getD n 0 ≤ (firstsM cls n).length
theorem normal_split (cls : List Nat) (r : Rx) : Normal (splitB cls r) := ⟨numsM_length _ _, fun n hn => nums_le _ 256 n hn⟩
theorem getD_zero (m n : Nat) : (List.replicate m 0).getD n 0 = 0 := by
  simp only [List.getD, List.getElem?_replicate]
  split <;> rfl
theorem normal_zero : Normal (List.replicate 256 0) := ⟨List.length_replicate, fun n _ => by rw [getD_zero]; exact Nat.zero_le _⟩
mutual
theorem normal_splitM : ∀ (r : Rx) (cls : List Nat), Normal cls → Normal (splitM cls r)
  | .mk k b0 b1 b2 b3 kids, cls, h => by
    rw [splitM]
    split
    · exact normal_split _ _
    · exact normal_splitsM kids cls h
theorem normal_splitsM : ∀ (l : List Rx) (cls : List Nat), Normal cls → Normal (splitsM cls l)
  | [], cls, h => h
  | r :: rs, cls, h => normal_splitsM rs _ (normal_splitM r cls h)
end
theorem normal_classes (l : List Rx) : Normal (classesM l) := normal_splitsM l _ normal_zero

theorem firsts_mono (cls : List Nat) (n m : Nat) (h : n ≤ m) : (firstsM cls n).length ≤ (firstsM cls m).length := by
  induction m with
  | zero =>
    have : n = 0 := by omega
    subst this; exact Nat.le_refl _
  | succ m ih =>
    by_cases e : n = m + 1
    · subst e; exact Nat.le_refl _
    · have := ih (by omega)
      simp only [firstsM]
      split
      · simp; omega
      · exact this
theorem firsts_le (cls : List Nat) (n : Nat) : (firstsM cls n).length ≤ n := by
  induction n with
  | zero => exact Nat.le_refl _
  | succ n ih =>
    simp only [firstsM]
    split
    · simp; omega
    · omega
/-- The first byte of a class is of it. -/
theorem firsts_at (cls : List Nat) (n i : Nat) (h : i < (firstsM cls n).length) : (firstsM cls n).getD i 0 < n ∧ cls.getD ((firstsM cls n).getD i 0) 0 = i := by
  induction n with
  | zero => simp [firstsM] at h
  | succ n ih =>
    simp only [firstsM] at h ⊢
    split at h
    · rename_i e
      rw [if_pos e]
      by_cases hi : i < (firstsM cls n).length
      · rw [getD_left hi]
        have := ih hi
        omega
      · simp at h
        have : i = (firstsM cls n).length := by omega
        subst this
        rw [getD_right (Nat.le_refl _), Nat.sub_self]
        exact ⟨by show n < n + 1; omega, e⟩
    · rename_i e
      rw [if_neg e]
      have := ih h
      omega
theorem normal_lt {cls : List Nat} (h : Normal cls) {b : Nat} (hb : b < 256) : cls.getD b 0 < (firstsM cls 256).length := by
  have h1 := h.2 b hb
  have h2 := firsts_mono cls (b + 1) 256 (by omega)
  have h3 : cls.getD b 0 < (firstsM cls (b + 1)).length := by
    simp only [firstsM]
    split
    · rw [List.length_append, List.length_singleton]; omega
    · omega
  omega

mutual
/-- A regex of bytes inside another one. -/
def Leaf (q : Rx) : Rx → Prop
  | .mk k b0 b1 b2 b3 kids => (k = 1 ∧ q = .mk k b0 b1 b2 b3 kids) ∨ (k ≠ 1 ∧ LeafL q kids)
def LeafL (q : Rx) : List Rx → Prop
  | [] => False
  | r :: rs => Leaf q r ∨ LeafL q rs
end
mutual
theorem split_fine : ∀ (r : Rx) (cls : List Nat) (b c : Nat), b < 256 → c < 256 → (splitM cls r).getD b 0 = (splitM cls r).getD c 0 → cls.getD b 0 = cls.getD c 0 ∧ ∀ q, Leaf q r → q.has b = q.has c
  | .mk k b0 b1 b2 b3 kids, cls, b, c, hb, hc, h => by
    rw [splitM] at h
    by_cases hk : k = 1
    · rw [if_pos hk] at h
      have := numsM_eq (pairOf cls (.mk k b0 b1 b2 b3 kids)) 256 b c hb hc h
      simp only [pairOf, Prod.mk.injEq] at this
      refine ⟨this.1, fun q hq => ?_⟩
      rw [Leaf] at hq
      rcases hq with ⟨_, rfl⟩ | ⟨h2, _⟩
      · exact this.2
      · exact absurd hk h2
    · rw [if_neg hk] at h
      have := splits_fine kids cls b c hb hc h
      refine ⟨this.1, fun q hq => ?_⟩
      rw [Leaf] at hq
      rcases hq with ⟨h2, _⟩ | ⟨_, h2⟩
      · exact absurd h2 hk
      · exact this.2 q h2
theorem splits_fine : ∀ (l : List Rx) (cls : List Nat) (b c : Nat), b < 256 → c < 256 → (splitsM cls l).getD b 0 = (splitsM cls l).getD c 0 → cls.getD b 0 = cls.getD c 0 ∧ ∀ q, LeafL q l → q.has b = q.has c
  | [], cls, b, c, _, _, h => ⟨h, fun q hq => absurd hq (by simp [LeafL])⟩
  | r :: rs, cls, b, c, hb, hc, h => by
    have h1 := splits_fine rs (splitM cls r) b c hb hc h
    have h2 := split_fine r cls b c hb hc h1.1
    refine ⟨h2.1, fun q hq => ?_⟩
    rw [LeafL] at hq
    rcases hq with hq | hq
    · exact h2.2 q hq
    · exact h1.2 q hq
end
/-- Bytes of one class are alike to each regex of bytes. -/
theorem classes_fine (l : List Rx) {b c : Nat} (hb : b < 256) (hc : c < 256) (h : (classesM l).getD b 0 = (classesM l).getD c 0) : ∀ q, LeafL q l → q.has b = q.has c := (splits_fine l _ b c hb hc h).2

/-- Each state's bytes are those of a regex inside, or none. -/
def Leafy (P : Rx → Prop) (G : List St) : Prop := ∀ s ∈ G, s.bytes = Rx.zero ∨ P s.bytes
end Go.Proofs.YtnenbihmokolpaaGreatDoor

namespace Go.Proofs.YtnenbihmokolpaaGreatDoor set_option linter.unusedVariables false set_option linter.unusedSimpArgs false

structure Dfa where
  cls : List Int
  next : List (List Int)
  tags : List Nat
def goM (D : Dfa) (at_ : Int) (b : Nat) : Int :=
  let c := D.cls.getD b 0
  if at_ < 0 ∨ (D.next.length : Int) ≤ at_ ∨ c < 0 ∨ ((D.next.getD at_.toNat []).length : Int) ≤ c then -1 else
    let to := (D.next.getD at_.toNat []).getD c.toNat 0
    if to < 0 ∨ (D.next.length : Int) ≤ to then -1 else to
def tagD (D : Dfa) (at_ : Int) : Nat := if at_ < 0 ∨ (Nat.min D.tags.length D.next.length : Int) ≤ at_ then 0 else D.tags.getD at_.toNat 0
def atD (D : Dfa) (at_ : Int) (bs : List Nat) : Int := bs.foldl (goM D) at_
def runD (D : Dfa) (bs : List Nat) : Nat := tagD D (atD D 0 bs)

/-- The number of a set. -/
def setNo (sets : List (List Nat)) (A : List Nat) : List (List Nat) × Int := if A = [] then (sets, -1) else ((keyM sets A).1, ((keyM sets A).2 : Int))
def rowM (G : List St) (A : List Nat) (bytes : List Nat) (sets : List (List Nat)) : Nat → List (List Nat) × List Int
  | 0 => (sets, [])
  | n + 1 => ((setNo (rowM G A bytes sets n).1 (stepM G (ints A) (bytes.getD n 0))).1, (rowM G A bytes sets n).2 ++ [(setNo (rowM G A bytes sets n).1 (stepM G (ints A) (bytes.getD n 0))).2])
structure Found where
  sets : List (List Nat)
  next : List (List Int)
  tags : List Nat
def roundD (G : List St) (bytes : List Nat) (B : List Nat) : Nat → Found
  | 0 => ⟨[B], [], []⟩
  | n + 1 =>
    let x := roundD G bytes B n
    let y := rowM G (x.sets.getD n []) bytes x.sets bytes.length
    ⟨y.1, x.next ++ [y.2], x.tags ++ [tagsM G (ints (x.sets.getD n []))]⟩
/-- How many rounds there are; none, if there are too many sets. -/
def endD (G : List St) (bytes : List Nat) (B : List Nat) : Nat → Nat → Option Nat
  | 0, _ => none
  | f + 1, n => if n < (roundD G bytes B n).sets.length then (if 2000 < (roundD G bytes B n).sets.length then none else endD G bytes B f (n + 1)) else some n
def dfaOf (G : List St) (cls : List Nat) (B : List Nat) : Option Dfa :=
  if B = [] then some ⟨ints cls, [[-1]], [0]⟩ else
    (endD G (firstsM cls 256) B 2002 0).map fun n => ⟨ints cls, (roundD G (firstsM cls 256) B n).next, (roundD G (firstsM cls 256) B n).tags⟩
def dfaM (l : List Rx) : Option Dfa := dfaOf (buildM l 0 [] []).1 (classesM l) (closedM (buildM l 0 [] []).1 (ints (buildM l 0 [] []).2))

/-- The number of a set that is there. -/
def noIn (sets : List (List Nat)) (A : List Nat) : Int := if A = [] then -1 else (idxM sets A : Int)
def Has_ (sets : List (List Nat)) (A : List Nat) : Prop := A = [] ∨ A ∈ sets
structure Sets (sets : List (List Nat)) : Prop where
  nodup : sets.Nodup
  some_ : ∀ A ∈ sets, A ≠ []
theorem setNo_len (sets : List (List Nat)) (A : List Nat) : ∃ m, (setNo sets A).1 = sets ++ m := by
  unfold setNo keyM
  split
  · exact ⟨[], by simp⟩
  · split
    · exact ⟨[], by simp⟩
    · exact ⟨[A], rfl⟩
theorem setNo_sets {sets : List (List Nat)} (h : Sets sets) (A : List Nat) : Sets (setNo sets A).1 := by
  unfold setNo keyM
  split
  · exact h
  · rename_i hA
    split
    · exact h
    · rename_i hm
      refine ⟨List.nodup_append.2 ⟨h.nodup, by simp, fun x hx y hy e => ?_⟩, fun x hx => ?_⟩
      · have : y = A := by simpa using hy
        subst e; subst this; exact hm hx
      · rcases List.mem_append.1 hx with hx | hx
        · exact h.some_ x hx
        · have : x = A := by simpa using hx
          rw [this]; exact hA
theorem setNo_no (sets : List (List Nat)) (A : List Nat) : (setNo sets A).2 = noIn (setNo sets A).1 A ∧ Has_ (setNo sets A).1 A := by
  unfold setNo
  split
  · rename_i h
    exact ⟨by simp [noIn, h], .inl h⟩
  · rename_i h
    exact ⟨by simp only [noIn, if_neg h]; rw [keyM_idxM], .inr (keyM_mem _ _)⟩
theorem noIn_more {sets m : List (List Nat)} {A : List Nat} (h : Has_ sets A) : noIn (sets ++ m) A = noIn sets A ∧ Has_ (sets ++ m) A := by
  rcases h with h | h
  · exact ⟨by simp [noIn, h], .inl h⟩
  · refine ⟨?_, .inr (by simp [h])⟩
    unfold noIn
    split
    · rfl
    · rw [idxM_more h]
theorem row_len (G : List St) (A : List Nat) (bytes : List Nat) (sets : List (List Nat)) (n : Nat) : (∃ m, (rowM G A bytes sets n).1 = sets ++ m) ∧ (rowM G A bytes sets n).2.length = n := by
  induction n with
  | zero => exact ⟨⟨[], by simp [rowM]⟩, rfl⟩
  | succ n ih =>
    obtain ⟨⟨m, hm⟩, hl⟩ := ih
    obtain ⟨m2, hm2⟩ := setNo_len (rowM G A bytes sets n).1 (stepM G (ints A) (bytes.getD n 0))
    refine ⟨⟨m ++ m2, ?_⟩, by simp [rowM, hl]⟩
    simp only [rowM]
    rw [hm2, hm, List.append_assoc]
theorem row_sets (G : List St) (A : List Nat) (bytes : List Nat) (sets : List (List Nat)) (h : Sets sets) (n : Nat) : Sets (rowM G A bytes sets n).1 := by
  induction n with
  | zero => exact h
  | succ n ih => exact setNo_sets ih _
theorem row_at (G : List St) (A : List Nat) (bytes : List Nat) (sets : List (List Nat)) (n i : Nat) (h : i < n) :
    (rowM G A bytes sets n).2.getD i 0 = noIn (rowM G A bytes sets n).1 (stepM G (ints A) (bytes.getD i 0)) ∧ Has_ (rowM G A bytes sets n).1 (stepM G (ints A) (bytes.getD i 0)) := by
  induction n with
  | zero => omega
  | succ n ih =>
    have hl := (row_len G A bytes sets n).2
    by_cases e : i = n
    · subst e
      simp only [rowM]
      rw [getD_right (by omega), hl, Nat.sub_self]
      exact setNo_no _ _
    · obtain ⟨h1, h2⟩ := ih (by omega)
      obtain ⟨m, hm⟩ := setNo_len (rowM G A bytes sets n).1 (stepM G (ints A) (bytes.getD n 0))
      simp only [rowM]
      rw [getD_left (by omega), h1, hm]
      exact ⟨(noIn_more h2).1.symm, (noIn_more h2).2⟩

/-- What stands behind n rounds. -/
structure Rounds (G : List St) (bytes : List Nat) (n : Nat) (x : Found) : Prop where
  ok : Sets x.sets
  hn : x.next.length = n
  ht : x.tags.length = n
  le : n ≤ x.sets.length
  row : ∀ i, i < n → (x.next.getD i []).length = bytes.length
  tag : ∀ i, i < n → x.tags.getD i 0 = tagsM G (ints (x.sets.getD i []))
  to : ∀ i c, i < n → c < bytes.length → (x.next.getD i []).getD c 0 = noIn x.sets (stepM G (ints (x.sets.getD i [])) (bytes.getD c 0)) ∧ Has_ x.sets (stepM G (ints (x.sets.getD i [])) (bytes.getD c 0))
theorem rounds_zero (G : List St) (bytes B : List Nat) (h : B ≠ []) : Rounds G bytes 0 (roundD G bytes B 0) :=
  ⟨⟨by simp [roundD], fun A hA => by simp [roundD] at hA; rw [hA]; exact h⟩, rfl, rfl, Nat.zero_le _, fun i h => by omega, fun i h => by omega, fun i c h => by omega⟩
theorem rounds_succ {G : List St} {bytes B : List Nat} {n : Nat} (h : Rounds G bytes n (roundD G bytes B n)) (hlt : n < (roundD G bytes B n).sets.length) : Rounds G bytes (n + 1) (roundD G bytes B (n + 1)) := by
  obtain ⟨x, hx⟩ : ∃ x, roundD G bytes B n = x := ⟨_, rfl⟩
  have e : roundD G bytes B (n + 1) = ⟨(rowM G (x.sets.getD n []) bytes x.sets bytes.length).1, x.next ++ [(rowM G (x.sets.getD n []) bytes x.sets bytes.length).2], x.tags ++ [tagsM G (ints (x.sets.getD n []))]⟩ := by
    rw [← hx]; rfl
  rw [e]
  rw [hx] at h hlt
  obtain ⟨⟨m, hm⟩, hl⟩ := row_len G (x.sets.getD n []) bytes x.sets bytes.length
  have hs := row_sets G (x.sets.getD n []) bytes x.sets h.ok bytes.length
  have hr := row_at G (x.sets.getD n []) bytes x.sets bytes.length
  have hget : ∀ i, i < x.sets.length → (x.sets ++ m).getD i [] = x.sets.getD i [] := fun i hi => getD_left hi
  constructor
  · exact hs
  · simp [h.hn]
  · simp [h.ht]
  · show n + 1 ≤ (rowM G (x.sets.getD n []) bytes x.sets bytes.length).1.length
    rw [hm, List.length_append]; omega
  · intro i hi
    show ((x.next ++ [(rowM G (x.sets.getD n []) bytes x.sets bytes.length).2]).getD i []).length = bytes.length
    by_cases e : i = n
    · subst e
      rw [getD_right (by rw [h.hn]; exact Nat.le_refl _), h.hn, Nat.sub_self]
      exact hl
    · rw [getD_left (by rw [h.hn]; omega)]
      exact h.row i (by omega)
  · intro i hi
    show (x.tags ++ [tagsM G (ints (x.sets.getD n []))]).getD i 0 = tagsM G (ints ((rowM G (x.sets.getD n []) bytes x.sets bytes.length).1.getD i []))
    rw [hm, hget i (by have := h.le; omega)]
    by_cases e : i = n
    · subst e
      rw [getD_right (by rw [h.ht]; exact Nat.le_refl _), h.ht, Nat.sub_self]
      rfl
    · rw [getD_left (by rw [h.ht]; omega)]
      exact h.tag i (by omega)
  · intro i c hi hc
    show ((x.next ++ [(rowM G (x.sets.getD n []) bytes x.sets bytes.length).2]).getD i []).getD c 0 = noIn (rowM G (x.sets.getD n []) bytes x.sets bytes.length).1 (stepM G (ints ((rowM G (x.sets.getD n []) bytes x.sets bytes.length).1.getD i [])) (bytes.getD c 0)) ∧ Has_ (rowM G (x.sets.getD n []) bytes x.sets bytes.length).1 (stepM G (ints ((rowM G (x.sets.getD n []) bytes x.sets bytes.length).1.getD i [])) (bytes.getD c 0))
    have hg : (rowM G (x.sets.getD n []) bytes x.sets bytes.length).1.getD i [] = x.sets.getD i [] := by rw [hm]; exact hget i (by have := h.le; omega)
    rw [hg]
    by_cases e : i = n
    · subst e
      rw [getD_right (by rw [h.hn]; exact Nat.le_refl _), h.hn, Nat.sub_self]
      exact hr c hc
    · rw [getD_left (by rw [h.hn]; omega)]
      obtain ⟨h1, h2⟩ := h.to i c (by omega) hc
      rw [hm, h1]
      exact ⟨(noIn_more h2).1.symm, (noIn_more h2).2⟩
theorem endD_some {G : List St} {bytes B : List Nat} (hB : B ≠ []) : ∀ (f n m : Nat), Rounds G bytes n (roundD G bytes B n) → endD G bytes B f n = some m → Rounds G bytes m (roundD G bytes B m) ∧ (roundD G bytes B m).sets.length = m := by
  intro f
  induction f with
  | zero => intro n m _ h; simp [endD] at h
  | succ f ih =>
    intro n m hr h
    simp only [endD] at h
    split at h
    · rename_i hlt
      split at h
      · cases h
      · exact ih (n + 1) m (rounds_succ hr hlt) h
    · rename_i hge
      have : n = m := by simpa using h
      subst this
      exact ⟨hr, by have := hr.le; omega⟩
theorem rounds_begin (G : List St) (bytes B : List Nat) (n : Nat) : ∃ m, (roundD G bytes B n).sets = B :: m := by
  induction n with
  | zero => exact ⟨[], rfl⟩
  | succ n ih =>
    obtain ⟨m, hm⟩ := ih
    obtain ⟨⟨m2, hm2⟩, _⟩ := row_len G ((roundD G bytes B n).sets.getD n []) bytes (roundD G bytes B n).sets bytes.length
    refine ⟨m ++ m2, ?_⟩
    show (rowM G ((roundD G bytes B n).sets.getD n []) bytes (roundD G bytes B n).sets bytes.length).1 = _
    rw [hm2, hm]; rfl

/-- The bytes of a class are alike to the machine. -/
def Alike (G : List St) (cls : List Nat) : Prop := ∀ b c, b < 256 → c < 256 → cls.getD b 0 = cls.getD c 0 → ∀ s ∈ G, s.bytes.has b = s.bytes.has c
def viaB (G : List St) (b : Nat) (n : Int) : Option Int :=
  if 0 ≤ n then match G[n.toNat]? with | some s => if s.bytes.has b then some s.to else none | none => none else none
theorem stepW_via (G : List St) (A : List Int) (b : Nat) : stepW G A b = A.filterMap (viaB G b) := rfl
theorem step_alike {G : List St} {cls : List Nat} (h : Alike G cls) {b c : Nat} (hb : b < 256) (hc : c < 256) (he : cls.getD b 0 = cls.getD c 0) (A : List Nat) : stepM G (ints A) b = stepM G (ints A) c := by
  have : viaB G b = viaB G c := by
    funext n
    unfold viaB
    split
    · split
      · rename_i s hs
        rw [h b c hb hc he s (List.mem_of_getElem? hs)]
      · rfl
    · rfl
  unfold stepM
  rw [stepW_via, stepW_via, this]
theorem step_nil (G : List St) (b : Nat) : stepM G (ints []) b = [] := by
  show closedM G (stepW G [] b) = []
  have : stepW G [] b = [] := rfl
  rw [this, closed_nil]
/-- A state stands for a set. -/
def Stands (sets : List (List Nat)) (at_ : Int) (A : List Nat) : Prop := at_ = noIn sets A ∧ Has_ sets A
theorem stands_nil {sets : List (List Nat)} {at_ : Int} (h : Stands sets at_ []) : at_ = -1 := by rw [h.1]; simp [noIn]
theorem stands_at {sets : List (List Nat)} (hs : Sets sets) {at_ : Int} {A : List Nat} (h : Stands sets at_ A) (hA : A ≠ []) : ∃ i, i < sets.length ∧ at_ = i ∧ sets.getD i [] = A := by
  rcases h.2 with e | e
  · exact absurd e hA
  · exact ⟨idxM sets A, idxM_lt e, by rw [h.1, noIn, if_neg hA], idxM_get e []⟩
theorem go_stands {G : List St} {cls : List Nat} {n : Nat} {x : Found} (hr : Rounds G (firstsM cls 256) n x) (hn : x.sets.length = n) (hc : Normal cls) (hal : Alike G cls) {at_ : Int} {A : List Nat} (h : Stands x.sets at_ A) {b : Nat} (hb : b < 256) :
    Stands x.sets (goM ⟨ints cls, x.next, x.tags⟩ at_ b) (stepM G (ints A) b) := by
  by_cases hA : A = []
  · subst hA
    rw [stands_nil h, step_nil]
    refine ⟨?_, .inl rfl⟩
    simp [goM, noIn]
  · obtain ⟨i, hi, rfl, hg⟩ := stands_at hr.ok h hA
    have hcl := normal_lt hc hb
    have hcb : (ints cls).getD b 0 = ((cls.getD b 0 : Nat) : Int) := by
      have : b < cls.length := by rw [hc.1]; exact hb
      simp [ints, List.getD, List.getElem?_map, List.getElem?_eq_getElem this]
    have hf := firsts_at cls 256 (cls.getD b 0) hcl
    obtain ⟨h1, h2⟩ := hr.to i (cls.getD b 0) (by omega) hcl
    rw [hg] at h1 h2
    rw [step_alike hal hb hf.1 hf.2.symm A]
    have hrow := hr.row i (by omega)
    have hto : noIn x.sets (stepM G (ints A) ((firstsM cls 256).getD (cls.getD b 0) 0)) < x.next.length := by
      rw [hr.hn, ← hn]
      unfold noIn
      split
      · omega
      · rename_i hne
        rcases h2 with e | e
        · exact absurd e hne
        · exact_mod_cast idxM_lt e
    refine ⟨?_, h2⟩
    unfold goM
    simp only [hcb, Int.toNat_natCast, hrow, h1]
    rw [if_neg (by rw [hr.hn]; omega)]
    by_cases hneg : noIn x.sets (stepM G (ints A) ((firstsM cls 256).getD (cls.getD b 0) 0)) < 0
    · rw [if_pos (.inl hneg)]
      unfold noIn at hneg ⊢
      split at hneg
      · rename_i e; rw [if_pos e]
      · omega
    · rw [if_neg (by omega)]
theorem tag_stands {G : List St} {bytes : List Nat} {n : Nat} {x : Found} (cls : List Int) (hr : Rounds G bytes n x) (hn : x.sets.length = n) {at_ : Int} {A : List Nat} (h : Stands x.sets at_ A) : tagD ⟨cls, x.next, x.tags⟩ at_ = tagsM G (ints A) := by
  by_cases hA : A = []
  · subst hA
    rw [stands_nil h]
    simp [tagD, tagsM, ints]
  · obtain ⟨i, hi, rfl, hg⟩ := stands_at hr.ok h hA
    unfold tagD
    have : ¬ ((i : Int) < 0 ∨ (Nat.min x.tags.length x.next.length : Int) ≤ (i : Int)) := by
      rw [hr.ht, hr.hn]
      have : Nat.min n n = n := Nat.min_self n
      rw [this]; omega
    rw [if_neg this, Int.toNat_natCast, hr.tag i (by omega), hg]
theorem dfa_of_run {G : List St} {cls : List Nat} {B : List Nat} (hc : Normal cls) (hal : Alike G cls) {D : Dfa} (h : dfaOf G cls B = some D) (bs : List Nat) (hb : ∀ b ∈ bs, b < 256) :
    runD D bs = tagsM G (ints (bs.foldl (fun a b => stepM G (ints a) b) B)) := by
  unfold dfaOf at h
  split at h
  · rename_i hB
    have hD : D = ⟨ints cls, [[-1]], [0]⟩ := by simpa using h.symm
    have h0 : ∀ (bs : List Nat), (bs.foldl (fun a b => stepM G (ints a) b) ([] : List Nat)) = [] := by
      intro bs
      induction bs with
      | nil => rfl
      | cons b bs ih => rw [List.foldl_cons, step_nil]; exact ih
    rw [hB, h0]
    have hz : tagsM G (ints []) = 0 := by simp [tagsM, ints]
    rw [hz]
    have key : ∀ (bs : List Nat) (at_ : Int), at_ = 0 ∨ at_ = -1 → tagD D (atD D at_ bs) = 0 := by
      intro bs
      induction bs with
      | nil =>
        intro at_ h
        rcases h with rfl | rfl <;> simp [hD, tagD, atD]
      | cons b bs ih =>
        intro at_ h
        show tagD D (atD D (goM D at_ b) bs) = 0
        refine ih _ (.inr ?_)
        rw [hD]
        unfold goM
        rcases h with rfl | rfl
        · simp only []
          split
          · rfl
          · rename_i hh
            have hc0 : (ints cls).getD b 0 = 0 := by
              have h1 : ¬ ((ints cls).getD b 0 < 0) := fun x => hh (.inr (.inr (.inl x)))
              have h2 : ¬ ((1 : Int) ≤ (ints cls).getD b 0) := fun x => hh (.inr (.inr (.inr x)))
              omega
            rw [hc0]
            simp
        · simp
    exact key bs 0 (.inl rfl)
  · rename_i hB
    cases he : endD G (firstsM cls 256) B 2002 0 with
    | none => rw [he] at h; simp at h
    | some m =>
      rw [he] at h
      have hD : D = ⟨ints cls, (roundD G (firstsM cls 256) B m).next, (roundD G (firstsM cls 256) B m).tags⟩ := by simpa using h.symm
      obtain ⟨hr, hm⟩ := endD_some hB 2002 0 m (rounds_zero G _ B hB) he
      have key : ∀ (bs : List Nat), (∀ b ∈ bs, b < 256) → ∀ (at_ : Int) (A : List Nat), Stands (roundD G (firstsM cls 256) B m).sets at_ A → tagD D (atD D at_ bs) = tagsM G (ints (bs.foldl (fun a b => stepM G (ints a) b) A)) := by
        intro bs
        induction bs with
        | nil => intro _ at_ A h; rw [hD]; exact tag_stands _ hr hm h
        | cons b bs ih =>
          intro hb at_ A h
          show tagD D (atD D (goM D at_ b) bs) = tagsM G (ints (bs.foldl (fun a b => stepM G (ints a) b) (stepM G (ints A) b)))
          refine ih (fun c hc => hb c (by simp [hc])) _ _ ?_
          rw [hD]
          exact go_stands hr hm hc hal h (hb b (by simp))
      refine key bs hb 0 B ?_
      obtain ⟨m2, hm2⟩ := rounds_begin G (firstsM cls 256) B m
      rw [hm2]
      exact ⟨by simp [noIn, hB, idxM_head], .inr (by simp)⟩

/-! ### The machine's bytes are those of the regexes. -/
theorem Leafy.free {P : Rx → Prop} {G : List St} (h : Leafy P G) (i to : Nat) : Leafy P (freeM G i to) := by
  intro s hs
  rcases mem_modify hs with hs | ⟨y, hy, rfl⟩
  · exact h s hs
  · exact h y hy
theorem Leafy.tag {P : Rx → Prop} {G : List St} (h : Leafy P G) (i t : Nat) : Leafy P (tagM G i t) := by
  intro s hs
  rcases mem_modify hs with hs | ⟨y, hy, rfl⟩
  · exact h s hs
  · exact h y hy
theorem Leafy.bytes {P : Rx → Prop} {G : List St} (h : Leafy P G) (i : Nat) (r : Rx) (to : Nat) (hr : P r) : Leafy P (bytesM G i r to) := by
  intro s hs
  rcases mem_modify hs with hs | ⟨y, hy, rfl⟩
  · exact h s hs
  · exact .inr hr
theorem Leafy.snoc {P : Rx → Prop} {G : List St} (h : Leafy P G) : Leafy P (G ++ [St.none]) := by
  intro s hs
  rcases List.mem_append.1 hs with hs | hs
  · exact h s hs
  · have : s = St.none := by simpa using hs
    rw [this]; exact .inl rfl
mutual
theorem lay_leafy {P : Rx → Prop} : ∀ (r : Rx) (G : List St) (i : Nat), (∀ q, Leaf q r → P q) → Leafy P G → Leafy P (layM r G i).1
  | .mk k b0 b1 b2 b3 kids, G, i, hp, h => by
    rw [layM]
    by_cases h0 : k = 0
    · simp only [h0, if_true]; exact h.snoc.free _ _
    by_cases h1 : k = 1
    · simp only [h0, h1, if_true, if_false]
      refine Leafy.bytes (h.snoc.snoc.free _ _) _ _ _ (hp _ ?_)
      rw [Leaf]
      exact .inl ⟨h1, by rw [h1]⟩
    have hk : ∀ q, LeafL q kids → P q := fun q hq => hp q (by rw [Leaf]; exact .inr ⟨h1, hq⟩)
    by_cases h2 : k = 2
    · simp only [h0, h1, h2, if_true, if_false]
      exact (cat_leafy kids _ _ hk h.snoc).free _ _
    by_cases h3 : k = 3
    · simp only [h0, h1, h2, h3, if_true, if_false]
      exact alt_leafy kids _ _ _ hk h.snoc
    by_cases h4 : k = 4
    · simp only [h0, h1, h2, h3, h4, if_true, if_false]
      exact head_leafy kids _ _ hk ((h.snoc.snoc.free _ _).free _ _)
    · simp only [h0, h1, h2, h3, h4, if_false]
      exact h.snoc
theorem cat_leafy {P : Rx → Prop} : ∀ (l : List Rx) (G : List St) (i : Nat), (∀ q, LeafL q l → P q) → Leafy P G → Leafy P (catM l G i).1
  | [], G, i, _, h => h
  | r :: rs, G, i, hp, h => by
    rw [catM]
    exact cat_leafy rs _ _ (fun q hq => hp q (by rw [LeafL]; exact .inr hq)) (lay_leafy r G i (fun q hq => hp q (by rw [LeafL]; exact .inl hq)) h)
theorem alt_leafy {P : Rx → Prop} : ∀ (l : List Rx) (G : List St) (i fin : Nat), (∀ q, LeafL q l → P q) → Leafy P G → Leafy P (altM l G i fin)
  | [], G, i, _, _, h => h
  | r :: rs, G, i, fin, hp, h => by
    rw [altM]
    exact alt_leafy rs _ _ _ (fun q hq => hp q (by rw [LeafL]; exact .inr hq)) ((lay_leafy r G i (fun q hq => hp q (by rw [LeafL]; exact .inl hq)) h).free _ _)
theorem head_leafy {P : Rx → Prop} : ∀ (l : List Rx) (G : List St) (i : Nat), (∀ q, LeafL q l → P q) → Leafy P G → Leafy P (headM l G i)
  | [], G, i, _, h => h
  | r :: rs, G, i, hp, h => by
    rw [headM]
    exact (lay_leafy r G i (fun q hq => hp q (by rw [LeafL]; exact .inl hq)) h).free _ _
end
theorem build_leafy {P : Rx → Prop} : ∀ (l : List Rx) (i : Nat) (G : List St) (starts : List Nat), (∀ q, LeafL q l → P q) → Leafy P G → Leafy P (buildM l i G starts).1
  | [], _, G, _, _, h => h
  | r :: rs, i, G, starts, hp, h => by
    rw [buildM]
    exact build_leafy rs _ _ _ (fun q hq => hp q (by rw [LeafL]; exact .inr hq)) ((lay_leafy r _ _ (fun q hq => hp q (by rw [LeafL]; exact .inl hq)) h.snoc).tag _ _)
theorem build_alike (l : List Rx) : Alike (buildM l 0 [] []).1 (classesM l) := by
  intro b c hb hc he s hs
  rcases build_leafy (P := fun q => LeafL q l) l 0 [] [] (fun q hq => hq) (fun s hs => absurd hs (by simp)) s hs with e | e
  · rw [e, has_zero, has_zero]
  · exact classes_fine l hb hc he _ e
/-- An automaton of regexes tells what their machine tells. -/
theorem dfa_run (l : List Rx) {D : Dfa} (h : dfaM l = some D) (bs : List Nat) (hb : ∀ b ∈ bs, b < 256) : runD D bs = runM (buildM l 0 [] []).1 (buildM l 0 [] []).2 bs :=
  dfa_of_run (normal_classes l) (build_alike l) h bs hb
end Go.Proofs.YtnenbihmokolpaaGreatDoor

namespace Go.Proofs.YtnenbihmokolpaaGreatDoor set_option linter.unusedVariables false set_option linter.unusedSimpArgs false

def keyS (A : List Nat) : List UInt8 := A.flatMap fun n => Lib.decDigits n ++ [32]
def valD (l : List UInt8) : Nat := l.foldl (fun a c => a * 10 + (c.toNat - 48)) 0
theorem digits_facts (u : Nat) : valD (Lib.decDigits u) = u ∧ ∀ c ∈ Lib.decDigits u, c ≠ 32 := by
  induction u using Nat.strongRecOn with
  | _ u ih =>
    have hd : ∀ k, k < 10 → (UInt8.ofNat (48 + k)).toNat = 48 + k := by intro k hk; simp; omega
    have hn : ∀ k, k < 10 → UInt8.ofNat (48 + k) ≠ 32 := by
      intro k hk e
      have := hd k hk
      rw [e] at this
      have : (32 : UInt8).toNat = 48 + k := this
      have h32 : (32 : UInt8).toNat = 32 := rfl
      omega
    rw [Lib.decDigits]
    by_cases h : u < 10
    · rw [dif_pos h]
      refine ⟨?_, fun c hc => ?_⟩
      · simp only [valD, List.foldl_cons, List.foldl_nil]
        rw [hd u h]; omega
      · have : c = UInt8.ofNat (48 + u) := by simpa using hc
        rw [this]; exact hn u h
    · rw [dif_neg h]
      obtain ⟨h1, h2⟩ := ih (u / 10) (by omega)
      refine ⟨?_, fun c hc => ?_⟩
      · unfold valD at h1 ⊢
        rw [List.foldl_append, h1]
        simp only [List.foldl_cons, List.foldl_nil]
        rw [hd (u % 10) (by omega)]; omega
      · rcases List.mem_append.1 hc with hc | hc
        · exact h2 c hc
        · have : c = UInt8.ofNat (48 + u % 10) := by simpa using hc
          rw [this]; exact hn _ (by omega)
theorem digits_inj {a b : Nat} (h : Lib.decDigits a = Lib.decDigits b) : a = b := by
  rw [← (digits_facts a).1, ← (digits_facts b).1, h]
theorem split_sep {c : UInt8} : ∀ {x y s t : List UInt8}, (∀ d ∈ x, d ≠ c) → (∀ d ∈ y, d ≠ c) → x ++ c :: s = y ++ c :: t → x = y ∧ s = t := by
  intro x
  induction x with
  | nil =>
    intro y s t _ hy h
    cases y with
    | nil => simpa using h
    | cons d y =>
      have : c = d := by simp at h; exact h.1
      exact absurd this.symm (hy d (by simp))
  | cons d x ih =>
    intro y s t hx hy h
    cases y with
    | nil =>
      have : d = c := by simp at h; exact h.1
      exact absurd this (hx d (by simp))
    | cons e y =>
      simp only [List.cons_append, List.cons.injEq] at h
      obtain ⟨h1, h2⟩ := ih (fun z hz => hx z (by simp [hz])) (fun z hz => hy z (by simp [hz])) h.2
      exact ⟨by rw [h.1, h1], h2⟩
theorem keyS_inj : ∀ {A B : List Nat}, keyS A = keyS B → A = B := by
  intro A
  induction A with
  | nil =>
    intro B h
    cases B with
    | nil => rfl
    | cons b B => simp [keyS] at h
  | cons a A ih =>
    intro B h
    cases B with
    | nil => simp [keyS] at h
    | cons b B =>
      have h : Lib.decDigits a ++ 32 :: keyS A = Lib.decDigits b ++ 32 :: keyS B := by
        simpa [keyS] using h
      obtain ⟨h1, h2⟩ := split_sep (digits_facts a).2 (digits_facts b).2 h
      rw [digits_inj h1, ih h2]
theorem keyS_snoc (A : List Nat) (n : Nat) : keyS (A ++ [n]) = keyS A ++ (Lib.decDigits n ++ [32]) := by
  simp [keyS]
end Go.Proofs.YtnenbihmokolpaaGreatDoor

namespace Go.Proofs.YtnenbihmokolpaaGreatDoor set_option linter.unusedVariables false set_option linter.unusedSimpArgs false
open Go.RowKit

/-- A row of numbers that lies in memory (it may be a part of a greater row). -/
def NumsIn (w : World) (v : Value) (l : List Int) : Prop := ∃ a cap, v = .slice a l.length cap ∧ ∀ j z, l[j]? = some z → ∃ ad, a = some ad ∧ w.cell? (ad.add j) = some (.int .i64 z)
/-- A row of rows. -/
def RowsIn (w : World) (v : Value) (l : List (List Int)) : Prop := ∃ a cap, v = .slice a l.length cap ∧ ∀ j r, l[j]? = some r → ∃ ad rv, a = some ad ∧ w.cell? (ad.add j) = some rv ∧ NumsIn w rv r
def SetsIn (w : World) (v : Value) (l : List Nat) : Prop := ∃ a cap, v = .slice a l.length cap ∧ ∀ (j : Nat) (z : Nat), l[j]? = some z → ∃ ad, a = some ad ∧ w.cell? (ad.add j) = some (.int .u64 (z : Int))
/-- An automaton, as a value. -/
def dfaC (cls : List Int) (nv tv : Value) : List Value := intsV cls ++ [nv, tv]
structure DfaIn (w : World) (v : Value) (D : Dfa) : Prop where
  ex : ∃ nv tv, v = .agg (dfaC D.cls nv tv).toArray ∧ RowsIn w nv D.next ∧ SetsIn w tv D.tags
  len : D.cls.length = 256
  small : D.next.length ≤ 9223372036854775807 ∧ ∀ r ∈ D.next, r.length ≤ 9223372036854775807
theorem cell_move {w w' : World} (hf : Fr none_ w w') {ad : Addr} {v : Value} (h : w.cell? ad = some v) : w'.cell? ad = some v := by
  exact hf.cell h (fun h => h)
theorem NumsIn.move {w w' : World} {v : Value} {l : List Int} (h : NumsIn w v l) (hf : Fr none_ w w') : NumsIn w' v l := by
  obtain ⟨a, cap, rfl, h⟩ := h
  refine ⟨a, cap, rfl, fun j z hz => ?_⟩
  obtain ⟨ad, ha, hc⟩ := h j z hz
  exact ⟨ad, ha, cell_move hf hc⟩
theorem RowsIn.move {w w' : World} {v : Value} {l : List (List Int)} (h : RowsIn w v l) (hf : Fr none_ w w') : RowsIn w' v l := by
  obtain ⟨a, cap, rfl, h⟩ := h
  refine ⟨a, cap, rfl, fun j z hz => ?_⟩
  obtain ⟨ad, rv, ha, hc, hr⟩ := h j z hz
  exact ⟨ad, rv, ha, cell_move hf hc, hr.move hf⟩
theorem SetsIn.move {w w' : World} {v : Value} {l : List Nat} (h : SetsIn w v l) (hf : Fr none_ w w') : SetsIn w' v l := by
  obtain ⟨a, cap, rfl, h⟩ := h
  refine ⟨a, cap, rfl, fun j z hz => ?_⟩
  obtain ⟨ad, ha, hc⟩ := h j z hz
  exact ⟨ad, ha, cell_move hf hc⟩
theorem DfaIn.move {w w' : World} {v : Value} {D : Dfa} (h : DfaIn w v D) (hf : Fr none_ w w') : DfaIn w' v D := by
  obtain ⟨nv, tv, e, h1, h2⟩ := h.ex
  exact ⟨⟨nv, tv, e, h1.move hf, h2.move hf⟩, h.len, h.small⟩
theorem dfaC_at {cls : List Int} (hl : cls.length = 256) (nv tv : Value) : (dfaC cls nv tv)[256]? = some nv ∧ (dfaC cls nv tv)[257]? = some tv := by
  have : (intsV cls).length = 256 := by rw [intsV_length, hl]
  constructor
  · rw [dfaC, List.getElem?_append_right (by omega), this]; rfl
  · rw [dfaC, List.getElem?_append_right (by omega), this]; rfl
theorem dfaC_cls {cls : List Int} (hl : cls.length = 256) (nv tv : Value) {b : Nat} (hb : b < 256) : (dfaC cls nv tv)[b]? = some (.int .i64 (cls.getD b 0)) := by
  have : (intsV cls).length = 256 := by rw [intsV_length, hl]
  rw [dfaC, List.getElem?_append_left (by omega)]
  have hb2 : b < cls.length := by omega
  simp [intsV, List.getD, List.getElem?_eq_getElem hb2]

set_option maxRecDepth 100000 in
set_option maxHeartbeats 4000000 in
theorem dgo_any (D : Dfa) (v : Value) (at_ : Int) (b : Nat) (w : World) (h : DfaIn w v D) (hb : b < 256) :
    Calls Tryz.prog 44 #[v, .int .i64 at_, .int .u8 b] w fun e w' => e = .returned (.int .i64 (goM D at_ b)) ∧ Fr none_ w w' := by
  obtain ⟨nv, tv, rfl, hn, ht⟩ := h.ex
  obtain ⟨na, ncap, rfl, hrow⟩ := hn
  have HL := h.len
  obtain ⟨h256, h257⟩ := dfaC_at HL (.slice na D.next.length ncap) tv
  have hcb := dfaC_cls HL (.slice na D.next.length ncap) tv hb
  obtain ⟨C, hC⟩ : ∃ C, dfaC D.cls (.slice na D.next.length ncap) tv = C := ⟨_, rfl⟩
  rw [hC] at h256 h257 hcb ⊢
  obtain ⟨c, hc⟩ : ∃ c, D.cls.getD b 0 = c := ⟨_, rfl⟩
  rw [hc] at hcb
  have hbi : (b : Int) < 256 := by omega
  have hG : goM D at_ b = if at_ < 0 ∨ (D.next.length : Int) ≤ at_ ∨ c < 0 ∨ ((D.next.getD at_.toNat []).length : Int) ≤ c then -1 else
      if (D.next.getD at_.toNat []).getD c.toNat 0 < 0 ∨ (D.next.length : Int) ≤ (D.next.getD at_.toNat []).getD c.toNat 0 then -1 else (D.next.getD at_.toNat []).getD c.toNat 0 := by
    unfold goM; rw [hc]
  have HG := Lib.hid hG
  have HR := Lib.hid hrow
  clear hG hrow hC hc ht h
  have NB := alloc_new w (.cells C.toArray 26)
  have f1 : (w.alloc (.cells C.toArray 26)).cell? ⟨w.heap.size, b, none⟩ = some (.int .i64 c) := by
    rw [Lib.cell_of_heap NB]; simpa using hcb
  have f2 : (w.alloc (.cells C.toArray 26)).cell? ⟨w.heap.size, 256, none⟩ = some (.slice na D.next.length ncap) := by
    rw [Lib.cell_of_heap NB]; simpa using h256
  have HF := Lib.hid ((Fr.refl none_ w).alloc (.cells C.toArray 26))
  clear NB hcb h256 h257
  obtain ⟨N, hN⟩ : ∃ N, D.next.length = N := ⟨_, rfl⟩
  have HN := Lib.hid hN
  rw [hN] at HG f2
  clear hN
  by_cases h1 : at_ < 0
  · have HV := Lib.hid (show goM D at_ b = -1 by rw [HG.out, if_pos (.inl h1)])
    go_enter Tryz.func44, Tryz.ntmps44
    go_wp2_with fail
    go_ret
    exact ⟨by rw [HV.out]; rfl, HF.out⟩
  obtain ⟨i, rfl⟩ := Int.eq_ofNat_of_zero_le (show 0 ≤ at_ by omega)
  have hi0 : (0 : Int) ≤ (i : Int) := by omega
  by_cases h2 : N ≤ i
  · have HV := Lib.hid (show goM D i b = -1 by rw [HG.out, if_pos (.inr (.inl (by omega)))])
    have h2' : (N : Int) ≤ (i : Int) := by omega
    clear h1
    go_enter Tryz.func44, Tryz.ntmps44
    go_wp2_with fail
    go_ret
    exact ⟨by rw [HV.out]; rfl, HF.out⟩
  have h2' : (i : Int) < (N : Int) := by omega
  by_cases h3 : c < 0
  · have HV := Lib.hid (show goM D i b = -1 by rw [HG.out, if_pos (.inr (.inr (.inl h3)))])
    clear h1 h2
    go_enter Tryz.func44, Tryz.ntmps44
    go_wp2_with fail
    go_ret
    exact ⟨by rw [HV.out]; rfl, HF.out⟩
  obtain ⟨k, rfl⟩ := Int.eq_ofNat_of_zero_le (show 0 ≤ c by omega)
  have hk0 : (0 : Int) ≤ (k : Int) := by omega
  obtain ⟨row, hrow⟩ : ∃ row, D.next[i]? = some row := ⟨_, List.getElem?_eq_getElem (by rw [HN.out]; omega)⟩
  have hget : D.next.getD i [] = row := by simp [List.getD, hrow]
  obtain ⟨ad, rv, rfl, hcell, ra, rcap, rfl, hr⟩ := HR.out i row hrow
  have f3 := cell_move HF.out hcell
  have hG2 := HG.out
  simp only [Int.toNat_natCast, hget] at hG2
  obtain ⟨M, hM⟩ : ∃ M, row.length = M := ⟨_, rfl⟩
  have HM := Lib.hid hM
  rw [hM] at hG2 f3
  have HG2 := Lib.hid hG2
  have HR2 := Lib.hid hr
  clear h1 h2 h3 hget hcell hG2 hr hM
  by_cases h4 : M ≤ k
  · have HV := Lib.hid (show goM D i b = -1 by rw [HG2.out, if_pos (.inr (.inr (.inr (by omega))))])
    have h4' : (M : Int) ≤ (k : Int) := by omega
    go_enter Tryz.func44, Tryz.ntmps44
    go_wp2_with fail
    go_ret
    exact ⟨by rw [HV.out]; rfl, HF.out⟩
  have h4' : (k : Int) < (M : Int) := by omega
  obtain ⟨to, hto⟩ : ∃ to, row[k]? = some to := ⟨_, List.getElem?_eq_getElem (by rw [HM.out]; omega)⟩
  have hget2 : row.getD k 0 = to := by simp [List.getD, hto]
  obtain ⟨rad, rfl, hcell2⟩ := HR2.out k to hto
  have f4 := cell_move HF.out hcell2
  have hG3 := HG2.out
  rw [if_neg (by omega)] at hG3
  rw [hget2] at hG3
  have HG3 := Lib.hid hG3
  clear h4 hcell2 hG3 hget2 hto
  by_cases h5 : to < 0
  · have HV := Lib.hid (show goM D i b = -1 by rw [HG3.out, if_pos (.inl h5)])
    go_enter Tryz.func44, Tryz.ntmps44
    go_wp2_with fail
    go_ret
    exact ⟨by rw [HV.out]; rfl, HF.out⟩
  have h5' : 0 ≤ to := by omega
  by_cases h6 : (N : Int) ≤ to
  · have HV := Lib.hid (show goM D i b = -1 by rw [HG3.out, if_pos (.inr h6)])
    clear h5
    go_enter Tryz.func44, Tryz.ntmps44
    go_wp2_with fail
    go_ret
    exact ⟨by rw [HV.out]; rfl, HF.out⟩
  have HV := Lib.hid (show goM D i b = to by rw [HG3.out, if_neg (by omega)])
  have h6' : to < (N : Int) := by omega
  clear h5 h6
  go_enter Tryz.func44, Tryz.ntmps44
  go_wp2_with fail
  go_ret
  exact ⟨by rw [HV.out]; rfl, HF.out⟩
end Go.Proofs.YtnenbihmokolpaaGreatDoor

namespace Go.Proofs.YtnenbihmokolpaaGreatDoor set_option linter.unusedVariables false set_option linter.unusedSimpArgs false
open Go.RowKit

theorem lot0 {α : Type} {x0 : α} {l : List α} : (x0 :: l).toArray[0]? = some x0 := rfl
theorem lot1 {α : Type} {x0 x1 : α} {l : List α} : (x0 :: x1 :: l).toArray[1]? = some x1 := rfl
theorem lot2 {α : Type} {x0 x1 x2 : α} {l : List α} : (x0 :: x1 :: x2 :: l).toArray[2]? = some x2 := rfl
theorem lot3 {α : Type} {x0 x1 x2 x3 : α} {l : List α} : (x0 :: x1 :: x2 :: x3 :: l).toArray[3]? = some x3 := rfl
theorem lot4 {α : Type} {x0 x1 x2 x3 x4 : α} {l : List α} : (x0 :: x1 :: x2 :: x3 :: x4 :: l).toArray[4]? = some x4 := rfl
theorem lot5 {α : Type} {x0 x1 x2 x3 x4 x5 : α} {l : List α} : (x0 :: x1 :: x2 :: x3 :: x4 :: x5 :: l).toArray[5]? = some x5 := rfl
theorem lot6 {α : Type} {x0 x1 x2 x3 x4 x5 x6 : α} {l : List α} : (x0 :: x1 :: x2 :: x3 :: x4 :: x5 :: x6 :: l).toArray[6]? = some x6 := rfl
theorem lot7 {α : Type} {x0 x1 x2 x3 x4 x5 x6 x7 : α} {l : List α} : (x0 :: x1 :: x2 :: x3 :: x4 :: x5 :: x6 :: x7 :: l).toArray[7]? = some x7 := rfl
theorem lot8 {α : Type} {x0 x1 x2 x3 x4 x5 x6 x7 x8 : α} {l : List α} : (x0 :: x1 :: x2 :: x3 :: x4 :: x5 :: x6 :: x7 :: x8 :: l).toArray[8]? = some x8 := rfl
theorem lot9 {α : Type} {x0 x1 x2 x3 x4 x5 x6 x7 x8 x9 : α} {l : List α} : (x0 :: x1 :: x2 :: x3 :: x4 :: x5 :: x6 :: x7 :: x8 :: x9 :: l).toArray[9]? = some x9 := rfl
theorem lot10 {α : Type} {x0 x1 x2 x3 x4 x5 x6 x7 x8 x9 x10 : α} {l : List α} : (x0 :: x1 :: x2 :: x3 :: x4 :: x5 :: x6 :: x7 :: x8 :: x9 :: x10 :: l).toArray[10]? = some x10 := rfl
theorem lot11 {α : Type} {x0 x1 x2 x3 x4 x5 x6 x7 x8 x9 x10 x11 : α} {l : List α} : (x0 :: x1 :: x2 :: x3 :: x4 :: x5 :: x6 :: x7 :: x8 :: x9 :: x10 :: x11 :: l).toArray[11]? = some x11 := rfl
theorem lot12 {α : Type} {x0 x1 x2 x3 x4 x5 x6 x7 x8 x9 x10 x11 x12 : α} {l : List α} : (x0 :: x1 :: x2 :: x3 :: x4 :: x5 :: x6 :: x7 :: x8 :: x9 :: x10 :: x11 :: x12 :: l).toArray[12]? = some x12 := rfl
theorem lot13 {α : Type} {x0 x1 x2 x3 x4 x5 x6 x7 x8 x9 x10 x11 x12 x13 : α} {l : List α} : (x0 :: x1 :: x2 :: x3 :: x4 :: x5 :: x6 :: x7 :: x8 :: x9 :: x10 :: x11 :: x12 :: x13 :: l).toArray[13]? = some x13 := rfl
theorem lot14 {α : Type} {x0 x1 x2 x3 x4 x5 x6 x7 x8 x9 x10 x11 x12 x13 x14 : α} {l : List α} : (x0 :: x1 :: x2 :: x3 :: x4 :: x5 :: x6 :: x7 :: x8 :: x9 :: x10 :: x11 :: x12 :: x13 :: x14 :: l).toArray[14]? = some x14 := rfl
theorem lot15 {α : Type} {x0 x1 x2 x3 x4 x5 x6 x7 x8 x9 x10 x11 x12 x13 x14 x15 : α} {l : List α} : (x0 :: x1 :: x2 :: x3 :: x4 :: x5 :: x6 :: x7 :: x8 :: x9 :: x10 :: x11 :: x12 :: x13 :: x14 :: x15 :: l).toArray[15]? = some x15 := rfl
theorem lot16 {α : Type} {x0 x1 x2 x3 x4 x5 x6 x7 x8 x9 x10 x11 x12 x13 x14 x15 x16 : α} {l : List α} : (x0 :: x1 :: x2 :: x3 :: x4 :: x5 :: x6 :: x7 :: x8 :: x9 :: x10 :: x11 :: x12 :: x13 :: x14 :: x15 :: x16 :: l).toArray[16]? = some x16 := rfl
theorem lot17 {α : Type} {x0 x1 x2 x3 x4 x5 x6 x7 x8 x9 x10 x11 x12 x13 x14 x15 x16 x17 : α} {l : List α} : (x0 :: x1 :: x2 :: x3 :: x4 :: x5 :: x6 :: x7 :: x8 :: x9 :: x10 :: x11 :: x12 :: x13 :: x14 :: x15 :: x16 :: x17 :: l).toArray[17]? = some x17 := rfl
theorem lot18 {α : Type} {x0 x1 x2 x3 x4 x5 x6 x7 x8 x9 x10 x11 x12 x13 x14 x15 x16 x17 x18 : α} {l : List α} : (x0 :: x1 :: x2 :: x3 :: x4 :: x5 :: x6 :: x7 :: x8 :: x9 :: x10 :: x11 :: x12 :: x13 :: x14 :: x15 :: x16 :: x17 :: x18 :: l).toArray[18]? = some x18 := rfl
theorem lot19 {α : Type} {x0 x1 x2 x3 x4 x5 x6 x7 x8 x9 x10 x11 x12 x13 x14 x15 x16 x17 x18 x19 : α} {l : List α} : (x0 :: x1 :: x2 :: x3 :: x4 :: x5 :: x6 :: x7 :: x8 :: x9 :: x10 :: x11 :: x12 :: x13 :: x14 :: x15 :: x16 :: x17 :: x18 :: x19 :: l).toArray[19]? = some x19 := rfl
theorem lot20 {α : Type} {x0 x1 x2 x3 x4 x5 x6 x7 x8 x9 x10 x11 x12 x13 x14 x15 x16 x17 x18 x19 x20 : α} {l : List α} : (x0 :: x1 :: x2 :: x3 :: x4 :: x5 :: x6 :: x7 :: x8 :: x9 :: x10 :: x11 :: x12 :: x13 :: x14 :: x15 :: x16 :: x17 :: x18 :: x19 :: x20 :: l).toArray[20]? = some x20 := rfl
theorem lot21 {α : Type} {x0 x1 x2 x3 x4 x5 x6 x7 x8 x9 x10 x11 x12 x13 x14 x15 x16 x17 x18 x19 x20 x21 : α} {l : List α} : (x0 :: x1 :: x2 :: x3 :: x4 :: x5 :: x6 :: x7 :: x8 :: x9 :: x10 :: x11 :: x12 :: x13 :: x14 :: x15 :: x16 :: x17 :: x18 :: x19 :: x20 :: x21 :: l).toArray[21]? = some x21 := rfl
theorem lot22 {α : Type} {x0 x1 x2 x3 x4 x5 x6 x7 x8 x9 x10 x11 x12 x13 x14 x15 x16 x17 x18 x19 x20 x21 x22 : α} {l : List α} : (x0 :: x1 :: x2 :: x3 :: x4 :: x5 :: x6 :: x7 :: x8 :: x9 :: x10 :: x11 :: x12 :: x13 :: x14 :: x15 :: x16 :: x17 :: x18 :: x19 :: x20 :: x21 :: x22 :: l).toArray[22]? = some x22 := rfl
theorem lot23 {α : Type} {x0 x1 x2 x3 x4 x5 x6 x7 x8 x9 x10 x11 x12 x13 x14 x15 x16 x17 x18 x19 x20 x21 x22 x23 : α} {l : List α} : (x0 :: x1 :: x2 :: x3 :: x4 :: x5 :: x6 :: x7 :: x8 :: x9 :: x10 :: x11 :: x12 :: x13 :: x14 :: x15 :: x16 :: x17 :: x18 :: x19 :: x20 :: x21 :: x22 :: x23 :: l).toArray[23]? = some x23 := rfl
theorem lot24 {α : Type} {x0 x1 x2 x3 x4 x5 x6 x7 x8 x9 x10 x11 x12 x13 x14 x15 x16 x17 x18 x19 x20 x21 x22 x23 x24 : α} {l : List α} : (x0 :: x1 :: x2 :: x3 :: x4 :: x5 :: x6 :: x7 :: x8 :: x9 :: x10 :: x11 :: x12 :: x13 :: x14 :: x15 :: x16 :: x17 :: x18 :: x19 :: x20 :: x21 :: x22 :: x23 :: x24 :: l).toArray[24]? = some x24 := rfl
theorem range_of {w : World} {g : Nat} {C : List Value} {t : TypeId} (h : w.heap[g]? = some (.cells C.toArray t (0, 0))) : w.rangeAt g 0 C := fun j v hv => by
  rw [Nat.zero_add, Lib.cell_of_heap h]
  simpa using hv
theorem dfa_info : (Tryz.prog.info? 26).map (·.size) = some 258 := by kernel_rfl
theorem atD_snoc (D : Dfa) (a : Int) (l : List Nat) (b : Nat) : atD D a (l ++ [b]) = goM D (atD D a l) b := by simp [atD]
theorem dfaC_length (cls : List Int) (nv tv : Value) (h : cls.length = 256) : (dfaC cls nv tv).length = 258 := by
  rw [dfaC, List.length_append, intsV_length, h]; rfl
set_option maxRecDepth 100000 in
set_option maxHeartbeats 4000000 in
theorem drun_any (D : Dfa) (v : Value) (s : ByteArray) (w : World) (h : DfaIn w v D) (hs : s.size < 4611686018427387904) :
    Calls Tryz.prog 18 #[v, .string s] w fun e w' => e = .returned (.int .u64 (runD D (bytesN s))) ∧ Fr none_ w w' := by
  have HD := Lib.hid h
  obtain ⟨nv, tv, rfl, hn, ht⟩ := h.ex
  obtain ⟨na, ncap, rfl, _⟩ := hn
  obtain ⟨ta, tcap, rfl, htag⟩ := ht
  have HT := Lib.hid htag
  obtain ⟨h256, h257⟩ := dfaC_at h.len (.slice na D.next.length ncap) (.slice ta D.tags.length tcap)
  have HC := Lib.hid (dfaC_length D.cls (.slice na D.next.length ncap) (.slice ta D.tags.length tcap) h.len)
  obtain ⟨C, hC⟩ : ∃ C, dfaC D.cls (.slice na D.next.length ncap) (.slice ta D.tags.length tcap) = C := ⟨_, rfl⟩
  rw [hC] at h256 h257 HC HD ⊢
  clear hC h htag
  have NB := Lib.hid (alloc_new w (.cells C.toArray 26))
  have H256 := Lib.hid h256
  have H257 := Lib.hid h257
  have HF := Lib.hid ((Fr.refl none_ w).alloc (.cells C.toArray 26))
  clear h256 h257
  go_enter Tryz.func18, Tryz.ntmps18
  go_wp2_with fail
  go_loopw [5, 9] (fun x5 x9 wr => ∃ i : Nat, i ≤ s.size ∧ x9 = .int .i64 i ∧ x5 = .int .i64 (atD D 0 ((bytesN s).take i)) ∧ Aside (Fr none_ (w.alloc (.cells C.toArray 26)) wr)) (fun _ x9 _ => s.size - (intOf x9).toNat)
  case atStart => exact ⟨0, Nat.zero_le _, rfl, rfl, Fr.refl _ _⟩
  case round =>
    obtain ⟨i, hi', rfl, rfl, hF'⟩ := hrel
    have HFr := Lib.hid hF'.out
    clear hF'
    obtain ⟨at_, hat⟩ : ∃ a, atD D 0 ((bytesN s).take i) = a := ⟨_, rfl⟩
    have HAT := Lib.hid hat
    rw [hat]
    clear hat
    by_cases hlt : i < s.size
    · have hil : (i : Int) < (s.size : Int) := by omega
      have hi0 : (0 : Int) ≤ (i : Int) := by omega
      have HS := Lib.hid (show atD D 0 ((bytesN s).take (i + 1)) = goM D at_ (byteAt s i) by
        rw [bytesN_take s i hlt, atD_snoc, HAT.out])
      have hbl := byteAt_lt s i
      have hbe := byteAt_eq s i hlt
      have HBE := Lib.hid hbe
      clear hbe
      go_wp2_with fail
      refine wp_region_held_drew (S := fun w' => w'.rangeAt w.heap.size 0 C) (by kernel_rfl) (range_of (HFr.out.drew.at_ NB.out (fun h => h))) (fun hHeld => ?_)
      refine wpAnyH_take (i := 0) lot0 (by kernel_rfl) (by kernel_rfl) (by kernel_rfl) (fun _ _ _ h => h) (yieldsIf_load_mid (by rfl) _ _ rfl _ _ rfl C _ (fun _ h => h) Tryz.underlying26 rfl (by rw [HC.out]; exact dfa_info)) (by assumption) ?_
      try simp only [Act.put, List.setIfInBounds_toArray, List.set_cons_zero, List.set_cons_succ]
      refine wpAnyH_take (i := 1) (v := ?_) lot1 (by kernel_rfl) (by kernel_rfl) (by kernel_rfl) (fun _ _ _ h => h) (Or.inl ⟨by rfl, ?_⟩) (by assumption) ?_
      rotate_left
      · (intro w hSw; (try dsimp only at hSw); go_simp) <;> with_reducible rfl
      try simp only [Act.put, List.setIfInBounds_toArray, List.set_cons_zero, List.set_cons_succ]
      refine wpAnyH_take (i := 2) (v := ?_) lot2 (by kernel_rfl) (by kernel_rfl) (by kernel_rfl) (fun _ _ _ h => h) (Or.inl ⟨by rfl, ?_⟩) (by assumption) ?_
      rotate_left
      · (intro w hSw; (try dsimp only at hSw); go_simp) <;> with_reducible rfl
      try simp only [Act.put, List.setIfInBounds_toArray, List.set_cons_zero, List.set_cons_succ]
      refine wpAnyH_take (i := 3) (v := ?_) lot3 (by kernel_rfl) (by kernel_rfl) (by kernel_rfl) (fun _ _ _ h => h) (Or.inl ⟨by rfl, ?_⟩) (by assumption) ?_
      rotate_left
      · (intro w hSw; (try dsimp only at hSw); go_simp) <;> with_reducible rfl
      try simp only [Act.put, List.setIfInBounds_toArray, List.set_cons_zero, List.set_cons_succ]
      refine wpAnyH_take (i := 4) (v := ?_) lot4 (by kernel_rfl) (by kernel_rfl) (by kernel_rfl) (fun _ _ _ h => h) (Or.inl ⟨by rfl, ?_⟩) (by assumption) ?_
      rotate_left
      · (intro w hSw; (try dsimp only at hSw); go_simp) <;> with_reducible rfl
      try simp only [Act.put, List.setIfInBounds_toArray, List.set_cons_zero, List.set_cons_succ]
      refine wpAnyH_ready (rs := [5]) (by kernel_rfl) (by simp) ?_
      refine AllReadyH.cons lot5 (fun K hK => ?_) AllReadyH.nil
      go_simp
      go_at_call 44
      rw [HBE.out]
      refine (dgo_any D _ at_ (byteAt s i) _ (HD.out.move (HF.out.tr HFr.out.drew)) hbl).mono ?_
      rintro e wx ⟨rfl, Fx⟩
      have Gx := Lib.hid ((HFr.out.drew).tr Fx)
      clear Fx
      refine hK.out _ _ (range_of (Gx.out.at_ NB.out (fun h => h))) (fun hHeld => ?_)
      clear hK K
      try simp only [Act.put, List.setIfInBounds_toArray, List.set_cons_zero, List.set_cons_succ]
      refine wpAnyH_take (i := 6) (v := ?_) lot6 (by kernel_rfl) (by kernel_rfl) (by kernel_rfl) (fun _ _ _ h => h) (Or.inl ⟨by rfl, ?_⟩) (by assumption) ?_
      rotate_left
      · (intro w hSw; (try dsimp only at hSw); go_simp) <;> with_reducible rfl
      try simp only [Act.put, List.setIfInBounds_toArray, List.set_cons_zero, List.set_cons_succ]
      refine wpAnyH_done (by kernel_rfl) ?_ _
      go_wp2_with fail
      go_roundw
      case rel => exact ⟨i + 1, by omega, by go_num, by rw [HS.out], Gx.out⟩
      case measure => simp [intOf]; omega
    · obtain rfl : i = s.size := by omega
      have htk : (bytesN s).take s.size = bytesN s := List.take_of_length_le (by rw [bytesN_length]; exact Nat.le_refl _)
      have HAT2 := HAT.out
      rw [htk] at HAT2
      have HR := Lib.hid (show runD D (bytesN s) = tagD D at_ by rw [runD, HAT2])
      clear HAT2 htk
      have NBr := HFr.out.at_ NB.out (fun h => h)
      have f1 : wr.cell? ⟨w.heap.size, 256, none⟩ = some (.slice na D.next.length ncap) := by rw [Lib.cell_of_heap NBr]; simpa using H256.out
      have f2 : wr.cell? ⟨w.heap.size, 257, none⟩ = some (.slice ta D.tags.length tcap) := by rw [Lib.cell_of_heap NBr]; simpa using H257.out
      have HW := Lib.hid (HF.out.tr HFr.out)
      obtain ⟨N, hN⟩ : ∃ N, D.next.length = N := ⟨_, rfl⟩
      obtain ⟨M, hM⟩ : ∃ M, D.tags.length = M := ⟨_, rfl⟩
      have HTD := Lib.hid (show tagD D at_ = if at_ < 0 ∨ (Nat.min M N : Int) ≤ at_ then 0 else D.tags.getD at_.toNat 0 by rw [tagD, hN, hM])
      have HM := Lib.hid hM
      rw [hN] at f1
      rw [hM] at f2
      clear NBr hN hM
      by_cases h1 : at_ < 0
      · have HV := Lib.hid (show tagD D at_ = 0 by rw [HTD.out, if_pos (.inl h1)])
        go_wp2_with fail
        go_ret
        exact ⟨by rw [HR.out, HV.out]; rfl, HW.out⟩
      obtain ⟨k, rfl⟩ := Int.eq_ofNat_of_zero_le (show 0 ≤ at_ by omega)
      by_cases h2 : M ≤ N
      · have hmin : Nat.min M N = M := Nat.min_eq_left h2
        have h2' : (M : Int) ≤ (N : Int) := by omega
        by_cases h3 : M ≤ k
        · have HV := Lib.hid (show tagD D k = 0 by rw [HTD.out, hmin, if_pos (.inr (by omega))])
          have h3' : (M : Int) ≤ (k : Int) := by omega
          clear hmin h1
          go_wp2_with fail
          go_ret
          exact ⟨by rw [HR.out, HV.out]; rfl, HW.out⟩
        · obtain ⟨z, hz⟩ : ∃ z, D.tags[k]? = some z := ⟨_, List.getElem?_eq_getElem (by rw [HM.out]; omega)⟩
          have HV := Lib.hid (show tagD D k = z by rw [HTD.out, hmin, if_neg (by omega)]; simp [List.getD, hz])
          obtain ⟨ad, rfl, hc⟩ := HT.out k z hz
          have f3 := cell_move HW.out hc
          have h3' : (k : Int) < (M : Int) := by omega
          clear hmin h1 hc hz
          go_wp2_with fail
          go_ret
          exact ⟨by rw [HR.out, HV.out]; rfl, HW.out⟩
      · have hmin : Nat.min M N = N := Nat.min_eq_right (by omega)
        have h2' : (N : Int) < (M : Int) := by omega
        by_cases h3 : N ≤ k
        · have HV := Lib.hid (show tagD D k = 0 by rw [HTD.out, hmin, if_pos (.inr (by omega))])
          have h3' : (N : Int) ≤ (k : Int) := by omega
          clear hmin h1
          go_wp2_with fail
          go_ret
          exact ⟨by rw [HR.out, HV.out]; rfl, HW.out⟩
        · obtain ⟨z, hz⟩ : ∃ z, D.tags[k]? = some z := ⟨_, List.getElem?_eq_getElem (by rw [HM.out]; omega)⟩
          have HV := Lib.hid (show tagD D k = z by rw [HTD.out, hmin, if_neg (by omega)]; simp [List.getD, hz])
          obtain ⟨ad, rfl, hc⟩ := HT.out k z hz
          have f3 := cell_move HW.out hc
          have h3' : (k : Int) < (N : Int) := by omega
          have h4' : (k : Int) < (M : Int) := by omega
          clear hmin h1 hc hz
          go_wp2_with fail
          go_ret
          exact ⟨by rw [HR.out, HV.out]; rfl, HW.out⟩
end Go.Proofs.YtnenbihmokolpaaGreatDoor
