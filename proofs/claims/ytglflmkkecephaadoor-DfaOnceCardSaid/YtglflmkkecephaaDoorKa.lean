/-
  Classes of bytes, in plain Lean: how they are numbered, and that bytes of one class are alike to each regex.
-/
import Derived.Test.YtglflmkkecephaaDoorNu
namespace Go.Proofs.YtglflmkkecephaaDoor

/-- The number of a key: the one that it has, or the next one. -/
def keyM {α : Type} [DecidableEq α] (ks : List α) (k : α) : List α × Nat := if k ∈ ks then (ks, ks.idxOf k) else (ks ++ [k], ks.length)
def idxM {α : Type} [DecidableEq α] (l : List α) (x : α) : Nat := l.idxOf x
/-- The keys of the first n, and their numbers. -/
def numsM {α : Type} [DecidableEq α] (f : Nat → α) : Nat → List α × List Nat
  | 0 => ([], [])
  | n + 1 => ((keyM (numsM f n).1 (f n)).1, (numsM f n).2 ++ [(keyM (numsM f n).1 (f n)).2])
def pairOf (cls : List Nat) (r : Rx) (b : Nat) : Nat × Bool := (cls.getD b 0, r.has b)
def splitB (cls : List Nat) (r : Rx) : List Nat := (numsM (pairOf cls r) 256).2
mutual
def splitM : List Nat → Rx → List Nat
  | cls, .mk k b0 b1 b2 b3 kids => if k = 1 then splitB cls (.mk k b0 b1 b2 b3 kids) else splitsM cls kids
def splitsM : List Nat → List Rx → List Nat
  | cls, [] => cls
  | cls, r :: rs => splitsM (splitM cls r) rs
end
def classesM (l : List Rx) : List Nat := splitsM (List.replicate 256 0) l
def firstsM (cls : List Nat) : Nat → List Nat
  | 0 => []
  | n + 1 => if cls.getD n 0 = (firstsM cls n).length then firstsM cls n ++ [n] else firstsM cls n

theorem getD_left {α : Type} {l m : List α} {d : α} {i : Nat} (h : i < l.length) : (l ++ m).getD i d = l.getD i d := by
  simp only [List.getD, List.getElem?_append_left h]
theorem getD_right {α : Type} {l m : List α} {d : α} {i : Nat} (h : l.length ≤ i) : (l ++ m).getD i d = m.getD (i - l.length) d := by
  simp only [List.getD, List.getElem?_append_right h]
section
variable {α : Type} [DecidableEq α] (f : Nat → α)
theorem numsM_length (n : Nat) : (numsM f n).2.length = n := by
  induction n with
  | zero => rfl
  | succ n ih => simp [numsM, ih]
theorem keyM_mem (ks : List α) (k : α) : k ∈ (keyM ks k).1 := by
  unfold keyM; split
  · assumption
  · simp
theorem keyM_sub (ks : List α) (k x : α) (h : x ∈ ks) : x ∈ (keyM ks k).1 := by
  unfold keyM; split
  · exact h
  · simp [h]
theorem keyM_idx (ks : List α) (k x : α) (h : x ∈ ks) : (keyM ks k).1.idxOf x = ks.idxOf x := by
  unfold keyM; split
  · rfl
  · simp [List.idxOf_append, h]
theorem keyM_no (ks : List α) (k : α) : (keyM ks k).2 = (keyM ks k).1.idxOf k := by
  unfold keyM; split
  · rfl
  · rename_i h
    simp [List.idxOf_append, h]
theorem idxM_lt {l : List α} {x : α} (h : x ∈ l) : idxM l x < l.length := List.idxOf_lt_length_of_mem h
theorem idxM_get {l : List α} {x : α} (h : x ∈ l) (d : α) : l.getD (idxM l x) d = x := by
  have hl := idxM_lt h
  simp only [List.getD, List.getElem?_eq_getElem hl, Option.getD_some]
  exact List.getElem_idxOf hl
theorem idxM_more {l m : List α} {x : α} (h : x ∈ l) : idxM (l ++ m) x = idxM l x := by
  unfold idxM; rw [List.idxOf_append, if_pos h]
theorem idxM_head (l : List α) (x : α) : idxM (x :: l) x = 0 := by simp [idxM, List.idxOf_cons]
theorem keyM_idxM (ks : List α) (k : α) : (keyM ks k).2 = idxM (keyM ks k).1 k := keyM_no ks k
theorem numsM_mem (n b : Nat) (h : b < n) : f b ∈ (numsM f n).1 := by
  induction n with
  | zero => omega
  | succ n ih =>
    by_cases e : b = n
    · subst e; exact keyM_mem _ _
    · exact keyM_sub _ _ _ (ih (by omega))
theorem numsM_get (n b : Nat) (h : b < n) : (numsM f n).2.getD b 0 = (numsM f n).1.idxOf (f b) := by
  induction n with
  | zero => omega
  | succ n ih =>
    have hl := numsM_length f n
    simp only [numsM]
    by_cases e : b = n
    · subst e
      rw [getD_right (by omega), hl, Nat.sub_self, ← keyM_no]
      rfl
    · rw [getD_left (by omega), ih (by omega), keyM_idx _ _ _ (numsM_mem f n b (by omega))]
/-- Numbers are alike just where keys are. -/
theorem numsM_eq (n b c : Nat) (hb : b < n) (hc : c < n) (h : (numsM f n).2.getD b 0 = (numsM f n).2.getD c 0) : f b = f c := by
  rw [numsM_get f n b hb, numsM_get f n c hc] at h
  have h1 := List.getElem_idxOf (List.idxOf_lt_length_of_mem (numsM_mem f n b hb))
  have h2 := List.getElem_idxOf (List.idxOf_lt_length_of_mem (numsM_mem f n c hc))
  rw [← h1, ← h2]
  congr 1
theorem numsM_take (n m : Nat) (h : n ≤ m) : (numsM f m).2.take n = (numsM f n).2 := by
  induction m with
  | zero =>
    have : n = 0 := by omega
    subst this; rfl
  | succ m ih =>
    by_cases e : n = m + 1
    · subst e
      rw [List.take_of_length_le]
      rw [numsM_length]; exact Nat.le_refl _
    · have hl := numsM_length f m
      simp only [numsM]
      rw [List.take_append_of_le_length (by omega)]
      exact ih (by omega)
theorem numsM_getD (n m b : Nat) (h : n ≤ m) (hb : b < n) : (numsM f m).2.getD b 0 = (numsM f n).2.getD b 0 := by
  rw [← numsM_take f n m h]
  simp only [List.getD, List.getElem?_take_of_lt hb]
/-- As many classes as keys. -/
theorem firsts_keys (m n : Nat) (h : n ≤ m) : (firstsM (numsM f m).2 n).length = (numsM f n).1.length := by
  induction n with
  | zero => rfl
  | succ n ih =>
    have ih := ih (by omega)
    have e : (numsM f m).2.getD n 0 = (keyM (numsM f n).1 (f n)).2 := by
      rw [numsM_getD f (n + 1) m n h (by omega)]
      simp only [numsM]
      rw [getD_right (by rw [numsM_length]; exact Nat.le_refl _), numsM_length, Nat.sub_self]
      rfl
    simp only [firstsM, numsM]
    rw [e, ih]
    unfold keyM
    by_cases hk : f n ∈ (numsM f n).1
    · rw [if_pos hk]
      have := List.idxOf_lt_length_of_mem hk
      rw [if_neg (by simp only; omega)]
      exact ih
    · rw [if_neg hk]
      simp [ih]
theorem nums_le (m n : Nat) (h : n < m) : (numsM f m).2.getD n 0 ≤ (firstsM (numsM f m).2 n).length := by
  rw [firsts_keys f m n (by omega), numsM_getD f (n + 1) m n (by omega) (by omega)]
  simp only [numsM]
  rw [getD_right (by rw [numsM_length]; exact Nat.le_refl _), numsM_length, Nat.sub_self]
  show (keyM (numsM f n).1 (f n)).2 ≤ _
  unfold keyM
  by_cases hk : f n ∈ (numsM f n).1
  · rw [if_pos hk]
    exact Nat.le_of_lt (List.idxOf_lt_length_of_mem hk)
  · rw [if_neg hk]
    exact Nat.le_refl _
end

/-- Classes that are numbered as they come. -/
def Normal (cls : List Nat) : Prop := cls.length = 256 ∧ ∀ n, n < 256 → cls.getD n 0 ≤ (firstsM cls n).length
theorem normal_split (cls : List Nat) (r : Rx) : Normal (splitB cls r) := ⟨numsM_length _ _, fun n hn => nums_le _ 256 n hn⟩
theorem getD_zero (m n : Nat) : (List.replicate m 0).getD n 0 = 0 := by
  simp only [List.getD, List.getElem?_replicate]
  split <;> rfl
theorem normal_zero : Normal (List.replicate 256 0) := ⟨List.length_replicate, fun n _ => by rw [getD_zero]; exact Nat.zero_le _⟩
mutual
theorem normal_splitM : ∀ (r : Rx) (cls : List Nat), Normal cls → Normal (splitM cls r)
  | .mk k b0 b1 b2 b3 kids, cls, h => by
    rw [splitM]
    split
    · exact normal_split _ _
    · exact normal_splitsM kids cls h
theorem normal_splitsM : ∀ (l : List Rx) (cls : List Nat), Normal cls → Normal (splitsM cls l)
  | [], cls, h => h
  | r :: rs, cls, h => normal_splitsM rs _ (normal_splitM r cls h)
end
theorem normal_classes (l : List Rx) : Normal (classesM l) := normal_splitsM l _ normal_zero

theorem firsts_mono (cls : List Nat) (n m : Nat) (h : n ≤ m) : (firstsM cls n).length ≤ (firstsM cls m).length := by
  induction m with
  | zero =>
    have : n = 0 := by omega
    subst this; exact Nat.le_refl _
  | succ m ih =>
    by_cases e : n = m + 1
    · subst e; exact Nat.le_refl _
    · have := ih (by omega)
      simp only [firstsM]
      split
      · simp; omega
      · exact this
theorem firsts_le (cls : List Nat) (n : Nat) : (firstsM cls n).length ≤ n := by
  induction n with
  | zero => exact Nat.le_refl _
  | succ n ih =>
    simp only [firstsM]
    split
    · simp; omega
    · omega
/-- The first byte of a class is of it. -/
theorem firsts_at (cls : List Nat) (n i : Nat) (h : i < (firstsM cls n).length) : (firstsM cls n).getD i 0 < n ∧ cls.getD ((firstsM cls n).getD i 0) 0 = i := by
  induction n with
  | zero => simp [firstsM] at h
  | succ n ih =>
    simp only [firstsM] at h ⊢
    split at h
    · rename_i e
      rw [if_pos e]
      by_cases hi : i < (firstsM cls n).length
      · rw [getD_left hi]
        have := ih hi
        omega
      · simp at h
        have : i = (firstsM cls n).length := by omega
        subst this
        rw [getD_right (Nat.le_refl _), Nat.sub_self]
        exact ⟨by show n < n + 1; omega, e⟩
    · rename_i e
      rw [if_neg e]
      have := ih h
      omega
theorem normal_lt {cls : List Nat} (h : Normal cls) {b : Nat} (hb : b < 256) : cls.getD b 0 < (firstsM cls 256).length := by
  have h1 := h.2 b hb
  have h2 := firsts_mono cls (b + 1) 256 (by omega)
  have h3 : cls.getD b 0 < (firstsM cls (b + 1)).length := by
    simp only [firstsM]
    split
    · rw [List.length_append, List.length_singleton]; omega
    · omega
  omega

mutual
/-- A regex of bytes inside another one. -/
def Leaf (q : Rx) : Rx → Prop
  | .mk k b0 b1 b2 b3 kids => (k = 1 ∧ q = .mk k b0 b1 b2 b3 kids) ∨ (k ≠ 1 ∧ LeafL q kids)
def LeafL (q : Rx) : List Rx → Prop
  | [] => False
  | r :: rs => Leaf q r ∨ LeafL q rs
end
mutual
theorem split_fine : ∀ (r : Rx) (cls : List Nat) (b c : Nat), b < 256 → c < 256 → (splitM cls r).getD b 0 = (splitM cls r).getD c 0 → cls.getD b 0 = cls.getD c 0 ∧ ∀ q, Leaf q r → q.has b = q.has c
  | .mk k b0 b1 b2 b3 kids, cls, b, c, hb, hc, h => by
    rw [splitM] at h
    by_cases hk : k = 1
    · rw [if_pos hk] at h
      have := numsM_eq (pairOf cls (.mk k b0 b1 b2 b3 kids)) 256 b c hb hc h
      simp only [pairOf, Prod.mk.injEq] at this
      refine ⟨this.1, fun q hq => ?_⟩
      rw [Leaf] at hq
      rcases hq with ⟨_, rfl⟩ | ⟨h2, _⟩
      · exact this.2
      · exact absurd hk h2
    · rw [if_neg hk] at h
      have := splits_fine kids cls b c hb hc h
      refine ⟨this.1, fun q hq => ?_⟩
      rw [Leaf] at hq
      rcases hq with ⟨h2, _⟩ | ⟨_, h2⟩
      · exact absurd h2 hk
      · exact this.2 q h2
theorem splits_fine : ∀ (l : List Rx) (cls : List Nat) (b c : Nat), b < 256 → c < 256 → (splitsM cls l).getD b 0 = (splitsM cls l).getD c 0 → cls.getD b 0 = cls.getD c 0 ∧ ∀ q, LeafL q l → q.has b = q.has c
  | [], cls, b, c, _, _, h => ⟨h, fun q hq => absurd hq (by simp [LeafL])⟩
  | r :: rs, cls, b, c, hb, hc, h => by
    have h1 := splits_fine rs (splitM cls r) b c hb hc h
    have h2 := split_fine r cls b c hb hc h1.1
    refine ⟨h2.1, fun q hq => ?_⟩
    rw [LeafL] at hq
    rcases hq with hq | hq
    · exact h2.2 q hq
    · exact h1.2 q hq
end
/-- Bytes of one class are alike to each regex of bytes. -/
theorem classes_fine (l : List Rx) {b c : Nat} (hb : b < 256) (hc : c < 256) (h : (classesM l).getD b 0 = (classesM l).getD c 0) : ∀ q, LeafL q l → q.has b = q.has c := (splits_fine l _ b c hb hc h).2

/-- Each state's bytes are those of a regex inside, or none. -/
def Leafy (P : Rx → Prop) (G : List St) : Prop := ∀ s ∈ G, s.bytes = Rx.zero ∨ P s.bytes
end Go.Proofs.YtglflmkkecephaaDoor
