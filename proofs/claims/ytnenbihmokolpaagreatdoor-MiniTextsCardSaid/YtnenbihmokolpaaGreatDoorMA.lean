/-
  The least automaton, in plain Lean: which states are live, and which go together.
  The least automaton, in plain Lean: blocks of states that go together.
  The least automaton, in plain Lean: how it is made; it is told by what is accepted.
  The least automaton, in plain Lean: it may be, accepts the same, and no two states are alike.
  Which states are told apart, level by level; there are no more levels than states (Moore).
-/
import Derived.Test.YtnenbihmokolpaaGreatDoorKA
namespace Go.Proofs.YtnenbihmokolpaaGreatDoor set_option linter.unusedVariables false set_option linter.unusedSimpArgs false

/-- Where a state goes by a class; nowhere is -1. -/
def toD (D : Dfa) (q : Int) (c : Nat) : Int := if q < 0 then -1 else (D.next.getD q.toNat []).getD c (-1)
def tagQ (D : Dfa) (q : Int) : Nat := if q < 0 then 0 else D.tags.getD q.toNat 0
/-- What is accepted from a state on, behind a row of classes. -/
def behD (D : Dfa) (q : Int) (cs : List Nat) : Nat := tagQ D (cs.foldl (toD D) q)
def EqD (D : Dfa) (p : Int) (D' : Dfa) (q : Int) : Prop := ∀ cs, behD D p cs = behD D' q cs
def LiveD (D : Dfa) (q : Int) : Prop := ∃ cs, behD D q cs ≠ 0
/-- It may be: n states, k classes. -/
structure DV (D : Dfa) (n k : Nat) : Prop where
  hn : D.next.length = n
  ht : D.tags.length = n
  pos : 0 < n
  row : ∀ r ∈ D.next, r.length = k ∧ ∀ t ∈ r, -1 ≤ t ∧ t < n
  cls : ∀ c ∈ D.cls, 0 ≤ c ∧ c < k
theorem beh_cons (D : Dfa) (q : Int) (c : Nat) (cs : List Nat) : behD D q (c :: cs) = behD D (toD D q c) cs := rfl
theorem EqD.step {D D' : Dfa} {p q : Int} (h : EqD D p D' q) (c : Nat) : EqD D (toD D p c) D' (toD D' q c) := fun cs => h (c :: cs)
theorem EqD.tag {D D' : Dfa} {p q : Int} (h : EqD D p D' q) : tagQ D p = tagQ D' q := h []
theorem EqD.refl (D : Dfa) (p : Int) : EqD D p D p := fun _ => rfl
theorem EqD.symm {D D' : Dfa} {p q : Int} (h : EqD D p D' q) : EqD D' q D p := fun cs => (h cs).symm
theorem EqD.trans {D D' D'' : Dfa} {p q r : Int} (h : EqD D p D' q) (h2 : EqD D' q D'' r) : EqD D p D'' r := fun cs => (h cs).trans (h2 cs)
theorem EqD.live {D D' : Dfa} {p q : Int} (h : EqD D p D' q) : LiveD D p ↔ LiveD D' q := ⟨fun ⟨cs, hc⟩ => ⟨cs, by rw [← h cs]; exact hc⟩, fun ⟨cs, hc⟩ => ⟨cs, by rw [h cs]; exact hc⟩⟩
theorem to_neg (D : Dfa) {q : Int} (h : q < 0) (c : Nat) : toD D q c = -1 := if_pos h
theorem beh_neg (D : Dfa) (cs : List Nat) : ∀ {q : Int}, q < 0 → behD D q cs = 0 := by
  induction cs with
  | nil => exact fun h => if_pos h
  | cons c cs ih => exact fun h => by rw [beh_cons, to_neg D h]; exact ih (by omega)
theorem not_live_neg (D : Dfa) {q : Int} (h : q < 0) : ¬ LiveD D q := fun ⟨cs, hc⟩ => hc (beh_neg D cs h)
theorem dead_eq {D D' : Dfa} {p q : Int} (hp : ¬ LiveD D p) (hq : ¬ LiveD D' q) : EqD D p D' q := fun cs => by
  have h1 : behD D p cs = 0 := Decidable.byContradiction fun h => hp ⟨cs, h⟩
  have h2 : behD D' q cs = 0 := Decidable.byContradiction fun h => hq ⟨cs, h⟩
  rw [h1, h2]
theorem dead_step {D : Dfa} {p : Int} (hp : ¬ LiveD D p) (c : Nat) : ¬ LiveD D (toD D p c) := fun ⟨cs, hc⟩ => hp ⟨c :: cs, hc⟩
theorem DV.rowAt {D : Dfa} {n k : Nat} (h : DV D n k) {i : Nat} (hi : i < n) : (D.next.getD i []).length = k ∧ ∀ t ∈ D.next.getD i [], -1 ≤ t ∧ t < n := by
  have hl : i < D.next.length := by rw [h.hn]; exact hi
  have e : D.next.getD i [] = D.next[i] := by simp [List.getD, List.getElem?_eq_getElem hl]
  rw [e]
  exact h.row _ (List.getElem_mem hl)
theorem to_at (D : Dfa) (i c : Nat) : toD D i c = (D.next.getD i []).getD c (-1) := by
  rw [toD, if_neg (by omega), Int.toNat_natCast]
theorem tag_at_nat (D : Dfa) (i : Nat) : tagQ D i = D.tags.getD i 0 := by
  rw [tagQ, if_neg (by omega), Int.toNat_natCast]
theorem getD_mem {α : Type} {l : List α} {c : Nat} (h : c < l.length) (d : α) : l.getD c d ∈ l := by
  simp only [List.getD, List.getElem?_eq_getElem h, Option.getD_some]
  exact List.getElem_mem h
theorem getD_ge {α : Type} {l : List α} {c : Nat} (h : l.length ≤ c) (d : α) : l.getD c d = d := by
  simp [List.getD, List.getElem?_eq_none h]
theorem DV.to_lt {D : Dfa} {n k : Nat} (h : DV D n k) {q : Int} (hq : q < n) (c : Nat) : -1 ≤ toD D q c ∧ toD D q c < n := by
  by_cases h0 : q < 0
  · rw [to_neg D h0]; omega
  · obtain ⟨i, rfl⟩ := Int.eq_ofNat_of_zero_le (show 0 ≤ q by omega)
    rw [to_at]
    have hr := h.rowAt (i := i) (by omega)
    by_cases hc : c < (D.next.getD i []).length
    · exact hr.2 _ (getD_mem hc _)
    · rw [getD_ge (by omega)]; omega

/-! ### Live states -/
def isLive (D : Dfa) (L : List Bool) (i : Nat) : Bool := decide (D.tags.getD i 0 ≠ 0) || (D.next.getD i []).any fun to => decide (to ≠ -1) && L.getD to.toNat false
def livePass (D : Dfa) (L : List Bool) : Nat → List Bool
  | 0 => L
  | i + 1 => if isLive D (livePass D L i) i then (livePass D L i).set i true else livePass D L i
def livesF (D : Dfa) : Nat → List Bool → List Bool
  | 0, L => L
  | f + 1, L => if livePass D L D.next.length = L then L else livesF D f (livePass D L D.next.length)
def livesM (D : Dfa) : List Bool := livesF D (D.next.length + 1) (List.replicate D.next.length false)
def falses (L : List Bool) : Nat := L.countP fun b => !b
theorem livePass_length (D : Dfa) (L : List Bool) (i : Nat) : (livePass D L i).length = L.length := by
  induction i with
  | zero => rfl
  | succ i ih =>
    rw [livePass]
    split
    · rw [List.length_set, ih]
    · exact ih
theorem set_getD {α : Type} (l : List α) (i j : Nat) (x d : α) (h : i < l.length) : (l.set i x).getD j d = if j = i then x else l.getD j d := by
  simp only [List.getD, List.getElem?_set]
  by_cases e : i = j
  · subst e; simp [h]
  · rw [if_neg e, if_neg (fun h => e h.symm)]
theorem livePass_mono (D : Dfa) (L : List Bool) (i j : Nat) (h : L.getD j false = true) : (livePass D L i).getD j false = true := by
  induction i with
  | zero => exact h
  | succ i ih =>
    rw [livePass]
    split
    · by_cases hi : i < (livePass D L i).length
      · rw [set_getD _ _ _ _ _ hi]
        split
        · rfl
        · exact ih
      · rw [List.set_eq_of_length_le (by omega)]; exact ih
    · exact ih
/-- Of what is not come to yet, nothing has changed. -/
theorem livePass_ahead (D : Dfa) (L : List Bool) (i j : Nat) (h : i ≤ j) : (livePass D L i).getD j false = L.getD j false := by
  induction i with
  | zero => rfl
  | succ i ih =>
    rw [livePass]
    split
    · by_cases hi : i < (livePass D L i).length
      · rw [set_getD _ _ _ _ _ hi, if_neg (by omega)]; exact ih (by omega)
      · rw [List.set_eq_of_length_le (by omega)]; exact ih (by omega)
    · exact ih (by omega)
theorem set_same {α : Type} (l : List α) (i : Nat) (d x : α) (h : l.getD i d = x) : l.set i x = l := by
  apply List.ext_getElem?
  intro j
  rw [List.getElem?_set]
  split
  · rename_i e
    subst e
    split
    · rename_i hl
      simp only [List.getD, List.getElem?_eq_getElem hl, Option.getD_some] at h
      rw [List.getElem?_eq_getElem hl, h]
    · rename_i hl
      rw [List.getElem?_eq_none (by omega)]
  · rfl
theorem livePass_same (D : Dfa) (L : List Bool) (i : Nat) (h : (isLive D (livePass D L i) i && !(livePass D L i).getD i false) = false) : livePass D L (i + 1) = livePass D L i := by
  rw [livePass]
  split
  · rename_i h1
    rw [h1] at h
    exact set_same _ _ false _ (by simpa using h)
  · rfl
theorem livePass_changed (D : Dfa) (L : List Bool) (i : Nat) (hi : i < L.length) (h : (isLive D (livePass D L i) i && !(livePass D L i).getD i false) = true) : livePass D L (i + 1) ≠ L := by
  simp only [Bool.and_eq_true, Bool.not_eq_true'] at h
  intro e
  have h1 := livePass_ahead D L i i (Nat.le_refl _)
  rw [h.2] at h1
  have h2 : (livePass D L (i + 1)).getD i false = true := by
    rw [livePass, if_pos h.1, set_getD _ _ _ _ _ (by rw [livePass_length]; exact hi), if_pos rfl]
  rw [e, ← h1] at h2
  simp at h2
theorem falses_le {L M : List Bool} (hl : M.length = L.length) (h : ∀ j, L.getD j false = true → M.getD j false = true) : falses M ≤ falses L ∧ (falses M = falses L → M = L) := by
  induction L generalizing M with
  | nil =>
    have : M = [] := List.length_eq_zero_iff.1 (by simpa using hl)
    subst this
    exact ⟨Nat.le_refl _, fun _ => rfl⟩
  | cons b L ih =>
    cases M with
    | nil => simp at hl
    | cons c M =>
      obtain ⟨h1, h2⟩ := ih (M := M) (by simpa using hl) (fun j hj => by have := h (j + 1); simpa using this (by simpa using hj))
      have h0 := h 0
      simp only [List.getD_cons_zero] at h0
      simp only [falses, List.countP_cons] at h1 h2 ⊢
      cases b <;> cases c <;> simp at h0 ⊢
      · exact ⟨h1, h2⟩
      · exact ⟨by omega, by omega⟩
      · exact ⟨h1, h2⟩
theorem livePass_falses (D : Dfa) (L : List Bool) (i : Nat) (h : livePass D L i ≠ L) : falses (livePass D L i) < falses L := by
  obtain ⟨h1, h2⟩ := falses_le (livePass_length D L i) (livePass_mono D L i)
  rcases Nat.lt_or_ge (falses (livePass D L i)) (falses L) with h3 | h3
  · exact h3
  · exact absurd (h2 (by omega)) h
/-- A row that tells of live states alone. -/
def SoundL (D : Dfa) (L : List Bool) : Prop := ∀ j, j < L.length → L.getD j false = true → LiveD D (j : Nat)
theorem isLive_live {D : Dfa} {n k : Nat} (hv : DV D n k) {L : List Bool} (hl : L.length = n) (h : SoundL D L) {i : Nat} (hi : i < n) (his : isLive D L i = true) : LiveD D (i : Nat) := by
  simp only [isLive, Bool.or_eq_true, decide_eq_true_eq, List.any_eq_true, Bool.and_eq_true] at his
  rcases his with h1 | ⟨to, hm, h1, h2⟩
  · exact ⟨[], by show tagQ D i ≠ 0; rw [tag_at_nat]; exact h1⟩
  · obtain ⟨c, hc, rfl⟩ := List.getElem_of_mem hm
    have ht := (hv.rowAt hi).2 _ hm
    obtain ⟨t, hte⟩ := Int.eq_ofNat_of_zero_le (show 0 ≤ (D.next.getD i [])[c] by omega)
    have e : toD D (i : Nat) c = (t : Nat) := by
      rw [to_at, List.getD, List.getElem?_eq_getElem hc, Option.getD_some, hte]
    rw [hte] at h2
    obtain ⟨cs, hcs⟩ := h t (by omega) (by simpa using h2)
    exact ⟨c :: cs, by rw [beh_cons, e]; exact hcs⟩
theorem livePass_sound {D : Dfa} {n k : Nat} (hv : DV D n k) {L : List Bool} (hl : L.length = n) (h : SoundL D L) (i : Nat) : i ≤ n → SoundL D (livePass D L i) := by
  induction i with
  | zero => exact fun _ => h
  | succ i ih =>
    intro hi
    have ih := ih (by omega)
    rw [livePass]
    split
    · rename_i his
      intro j hj hjt
      have hlen := livePass_length D L i
      rw [set_getD _ _ _ _ _ (by omega)] at hjt
      split at hjt
      · rename_i e
        subst e
        exact isLive_live hv (by rw [hlen, hl]) ih (by omega) his
      · rw [List.length_set] at hj
        exact ih j hj hjt
    · exact ih
theorem pass_closed {D : Dfa} {L : List Bool} {m : Nat} (hm : m ≤ L.length) (h : livePass D L m = L) : ∀ i, i < m → isLive D L i = true → L.getD i false = true := by
  have key : ∀ i, i ≤ m → livePass D L i = L := by
    intro i hi
    by_cases e : livePass D L i = L
    · exact e
    · exfalso
      have h1 := livePass_falses D L i e
      have h2 : ∀ j, falses (livePass D L (i + j)) ≤ falses (livePass D L i) := by
        intro j
        induction j with
        | zero => exact Nat.le_refl _
        | succ j ih =>
          refine Nat.le_trans ?_ ih
          refine (falses_le ?_ ?_).1
          · rw [livePass_length, livePass_length]
          · intro a ha
            show (livePass D L (i + j + 1)).getD a false = true
            rw [livePass]
            split
            · by_cases hh : i + j < (livePass D L (i + j)).length
              · rw [set_getD _ _ _ _ _ hh]
                split
                · rfl
                · exact ha
              · rw [List.set_eq_of_length_le (by omega)]; exact ha
            · exact ha
      have h3 := h2 (m - i)
      rw [show i + (m - i) = m by omega, h] at h3
      omega
  intro i hi his
  have h1 := key i (by omega)
  have h2 := key (i + 1) (by omega)
  rw [livePass, h1, if_pos his] at h2
  rw [← h2, set_getD _ _ _ _ _ (by omega), if_pos rfl]
theorem closed_live {D : Dfa} {n k : Nat} (hv : DV D n k) {L : List Bool} (hl : L.length = n) (h : ∀ i, i < n → isLive D L i = true → L.getD i false = true) :
    ∀ (cs : List Nat) (i : Nat), i < n → behD D (i : Nat) cs ≠ 0 → L.getD i false = true := by
  intro cs
  induction cs with
  | nil =>
    intro i hi hb
    refine h i hi ?_
    have : D.tags.getD i 0 ≠ 0 := by rw [← tag_at_nat]; exact hb
    rw [isLive, decide_eq_true this, Bool.true_or]
  | cons c cs ih =>
    intro i hi hb
    rw [beh_cons] at hb
    have hlt := hv.to_lt (q := i) (by omega) c
    have hge : 0 ≤ toD D (i : Nat) c := by
      rcases Int.lt_or_le (toD D (i : Nat) c) 0 with h1 | h1
      · exact absurd (beh_neg D cs h1) hb
      · exact h1
    obtain ⟨t, hte⟩ := Int.eq_ofNat_of_zero_le hge
    rw [hte] at hb hlt
    have h1 := ih t (by omega) hb
    refine h i hi ?_
    rw [to_at] at hte
    have hc : c < (D.next.getD i []).length := by
      rcases Nat.lt_or_ge c (D.next.getD i []).length with h2 | h2
      · exact h2
      · rw [getD_ge h2] at hte; omega
    simp only [isLive, Bool.or_eq_true, List.any_eq_true, Bool.and_eq_true, decide_eq_true_eq]
    refine .inr ⟨(D.next.getD i []).getD c (-1), getD_mem hc _, ?_, ?_⟩
    · rw [hte]; omega
    · rw [hte]; simpa using h1
theorem livesF_spec {D : Dfa} {n k : Nat} (hv : DV D n k) : ∀ (f : Nat) (L : List Bool), L.length = n → SoundL D L → falses L < f → (livesF D f L).length = n ∧ ∀ i, i < n → ((livesF D f L).getD i false = true ↔ LiveD D (i : Nat)) := by
  intro f
  induction f with
  | zero => intro L _ _ h; omega
  | succ f ih =>
    intro L hl hs hf
    rw [livesF]
    split
    · rename_i he
      refine ⟨hl, fun i hi => ⟨fun h => hs i (by omega) h, fun ⟨cs, hcs⟩ => ?_⟩⟩
      exact closed_live hv hl (by have := pass_closed (m := D.next.length) (by rw [hl, hv.hn]; exact Nat.le_refl _) he; rw [hv.hn] at this; exact this) cs i hi hcs
    · rename_i he
      have h1 := livePass_falses D L _ he
      exact ih _ (by rw [livePass_length, hl]) (livePass_sound hv hl hs _ (by rw [hv.hn]; exact Nat.le_refl _)) (by omega)
theorem lives_spec {D : Dfa} {n k : Nat} (hv : DV D n k) : (livesM D).length = n ∧ ∀ i, i < n → ((livesM D).getD i false = true ↔ LiveD D (i : Nat)) := by
  refine livesF_spec hv _ _ (by rw [List.length_replicate, hv.hn]) (fun j hj h => ?_) ?_
  · rw [List.length_replicate] at hj
    simp [List.getD, List.getElem?_replicate, hj] at h
  · have := List.countP_le_length (p := fun b => !b) (l := List.replicate D.next.length false)
    rw [List.length_replicate] at this
    show List.countP (fun b => !b) (List.replicate D.next.length false) < _
    omega
end Go.Proofs.YtnenbihmokolpaaGreatDoor

namespace Go.Proofs.YtnenbihmokolpaaGreatDoor set_option linter.unusedVariables false set_option linter.unusedSimpArgs false

def keyQ (D : Dfa) (B : List Int) (i : Nat) : Int × Nat × List Int := (B.getD i 0, D.tags.getD i 0, (D.next.getD i []).map fun to => if to = -1 then -1 else B.getD to.toNat 0)
def blkPass (D : Dfa) (L : List Bool) (B : List Int) : Nat → List (Int × Nat × List Int) × List Int
  | 0 => ([], B)
  | i + 1 => if L.getD i false then ((keyM (blkPass D L B i).1 (keyQ D B i)).1, (blkPass D L B i).2.set i ((keyM (blkPass D L B i).1 (keyQ D B i)).2 : Nat)) else blkPass D L B i
def blkF (D : Dfa) (L : List Bool) : Nat → Nat → List Int → List Int
  | 0, _, B => B
  | f + 1, many, B => if many < (blkPass D L B D.next.length).1.length then blkF D L f (blkPass D L B D.next.length).1.length (blkPass D L B D.next.length).2 else (blkPass D L B D.next.length).2
def blk0 (L : List Bool) : List Int := L.map fun b => if b then 0 else -1
def blocksM (D : Dfa) : List Int := blkF D (livesM D) (D.next.length + 1) 0 (blk0 (livesM D))

theorem row_to {D : Dfa} {n k : Nat} (hv : DV D n k) {i c : Nat} (hi : i < n) (hc : c < k) : (D.next.getD i [])[c]? = some (toD D (i : Nat) c) := by
  have hr := (hv.rowAt hi).1
  rw [to_at]
  have : c < (D.next.getD i []).length := by omega
  generalize D.next.getD i [] = r at *
  simp [List.getD, List.getElem?_eq_getElem this]
theorem idxM_getElem {α : Type} [DecidableEq α] {l : List α} (h : l.Nodup) (i : Nat) (hi : i < l.length) : idxM l l[i] = i := h.idxOf_getElem i hi
theorem keyM_nodup {α : Type} [DecidableEq α] {ks : List α} (h : ks.Nodup) (k : α) : (keyM ks k).1.Nodup := by
  unfold keyM
  split
  · exact h
  · rename_i hk
    refine List.nodup_append.2 ⟨h, by simp, fun x hx y hy e => ?_⟩
    have : y = k := by simpa using hy
    subst e; subst this; exact hk hx
theorem keyM_cases {α : Type} [DecidableEq α] {ks : List α} {k x : α} (h : x ∈ (keyM ks k).1) : x ∈ ks ∨ x = k := by
  unfold keyM at h
  split at h
  · exact .inl h
  · rcases List.mem_append.1 h with h | h
    · exact .inl h
    · exact .inr (by simpa using h)
/-- What stands behind i states of a pass. -/
structure Pass (D : Dfa) (L : List Bool) (B : List Int) (i : Nat) (r : List (Int × Nat × List Int) × List Int) : Prop where
  len : r.2.length = B.length
  nodup : r.1.Nodup
  old : ∀ j, (i ≤ j ∨ L.getD j false = false) → r.2.getD j 0 = B.getD j 0
  mem : ∀ j, j < i → j < B.length → L.getD j false = true → keyQ D B j ∈ r.1 ∧ r.2.getD j 0 = (idxM r.1 (keyQ D B j) : Nat)
  from_ : ∀ x ∈ r.1, ∃ j, j < i ∧ j < B.length ∧ L.getD j false = true ∧ x = keyQ D B j
theorem pass_ok (D : Dfa) (L : List Bool) (B : List Int) (hl : L.length = B.length) : ∀ i, i ≤ B.length → Pass D L B i (blkPass D L B i) := by
  intro i
  induction i with
  | zero => exact fun _ => ⟨rfl, List.nodup_nil, fun _ _ => rfl, fun j hj => by omega, fun x hx => absurd hx (by simp [blkPass])⟩
  | succ i ih =>
    intro hi
    have h := ih (by omega)
    rw [blkPass]
    split
    · rename_i hL
      have hset : ∀ j, ((blkPass D L B i).2.set i (((keyM (blkPass D L B i).1 (keyQ D B i)).2 : Nat) : Int)).getD j 0 = if j = i then (((keyM (blkPass D L B i).1 (keyQ D B i)).2 : Nat) : Int) else (blkPass D L B i).2.getD j 0 := fun j => set_getD _ _ _ _ _ (by rw [h.len]; omega)
      refine ⟨by rw [List.length_set, h.len], keyM_nodup h.nodup _, fun j hj => ?_, fun j hj hb hjl => ?_, fun x hx => ?_⟩
      · rw [hset j]
        split
        · rename_i e
          subst e
          rcases hj with hj | hj
          · omega
          · rw [hL] at hj; simp at hj
        · exact h.old j (by rcases hj with hj | hj; exact .inl (by omega); exact .inr hj)
      · rw [hset j]
        by_cases e : j = i
        · subst e
          rw [if_pos rfl]
          exact ⟨keyM_mem _ _, by rw [keyM_idxM]⟩
        · rw [if_neg e]
          obtain ⟨h1, h2⟩ := h.mem j (by omega) hb hjl
          refine ⟨keyM_sub _ _ _ h1, ?_⟩
          rw [h2]
          unfold idxM
          rw [keyM_idx _ _ _ h1]
      · rcases keyM_cases hx with hx | hx
        · obtain ⟨j, h1, h2⟩ := h.from_ x hx
          exact ⟨j, by omega, h2⟩
        · exact ⟨i, by omega, by omega, hL, hx⟩
    · rename_i hL
      have hL : L.getD i false = false := by simpa using hL
      refine ⟨h.len, h.nodup, fun j hj => ?_, fun j hj hb hjl => ?_, fun x hx => ?_⟩
      · by_cases e : j = i
        · subst e; exact h.old j (.inl (Nat.le_refl _))
        · exact h.old j (by rcases hj with hj | hj; exact .inl (by omega); exact .inr hj)
      · by_cases e : j = i
        · subst e; rw [hL] at hjl; simp at hjl
        · exact h.mem j (by omega) hb hjl
      · obtain ⟨j, h1, h2⟩ := h.from_ x hx
        exact ⟨j, by omega, h2⟩

/-! ### As many pigeons as holes -/
theorem nodup_sub_len {α : Type} [DecidableEq α] : ∀ {l m : List α}, l.Nodup → (∀ x ∈ l, x ∈ m) → l.length ≤ m.length := by
  intro l
  induction l with
  | nil => intro m _ _; simp
  | cons x l ih =>
    intro m hn hs
    obtain ⟨h1, h2⟩ := List.nodup_cons.1 hn
    have hx : x ∈ m := hs x (by simp)
    have := ih (m := m.erase x) h2 (fun y hy => (List.mem_erase_of_ne (fun e => h1 (by rw [← e]; exact hy))).2 (hs y (by simp [hy])))
    rw [List.length_erase_of_mem hx] at this
    have : 0 < m.length := List.length_pos_of_mem hx
    simp; omega
/-- If a row is no longer than a row without twins that it covers, it has no twins. -/
theorem nodup_cover {α : Type} [DecidableEq α] : ∀ {m l : List α}, l.Nodup → (∀ x ∈ l, x ∈ m) → m.length ≤ l.length → m.Nodup := by
  intro m
  induction m with
  | nil => intro l _ _ _; exact List.nodup_nil
  | cons y m ih =>
    intro l hn hs hl
    have hy : y ∉ m := by
      intro hy
      have := nodup_sub_len hn (m := m) (fun x hx => by
        rcases List.mem_cons.1 (hs x hx) with h | h
        · rw [h]; exact hy
        · exact h)
      simp at hl; omega
    refine List.nodup_cons.2 ⟨hy, ih (l := l.erase y) (hn.erase y) (fun x hx => ?_) ?_⟩
    · have h1 := hn.mem_erase_iff.1 hx
      rcases List.mem_cons.1 (hs x h1.2) with h | h
      · exact absurd h h1.1
      · exact h
    · by_cases h : y ∈ l
      · rw [List.length_erase_of_mem h]; simp at hl; omega
      · have := nodup_sub_len hn (m := m) (fun x hx => by
          rcases List.mem_cons.1 (hs x hx) with h1 | h1
          · exact absurd (h1 ▸ hx) h
          · exact h1)
        simp at hl; omega
theorem nodup_map_inj {α β : Type} {f : α → β} : ∀ {l : List α}, (l.map f).Nodup → ∀ x ∈ l, ∀ y ∈ l, f x = f y → x = y := by
  intro l
  induction l with
  | nil => intro _ x hx; simp at hx
  | cons a l ih =>
    intro hn x hx y hy e
    rw [List.map_cons, List.nodup_cons] at hn
    rcases List.mem_cons.1 hx with hx' | hx' <;> rcases List.mem_cons.1 hy with hy' | hy'
    · rw [hx', hy']
    · exact absurd (List.mem_map.2 ⟨y, hy', by rw [← e, hx']⟩) hn.1
    · exact absurd (List.mem_map.2 ⟨x, hx', by rw [e, hy']⟩) hn.1
    · exact ih hn.2 x hx' y hy' e
theorem ints_nodup (n : Nat) : ((List.range n).map fun (b : Nat) => (b : Int)).Nodup := by
  unfold List.Nodup
  rw [List.pairwise_map]
  exact List.nodup_range.imp fun {a b} h e => h (by omega)

/-- Blocks so far: 'many' of them. -/
structure Blk (D : Dfa) (L : List Bool) (n many : Nat) (B : List Int) : Prop where
  len : B.length = n
  dead : ∀ i, i < n → L.getD i false = false → B.getD i 0 = -1
  live : ∀ i, i < n → L.getD i false = true → 0 ≤ B.getD i 0
  sound : ∀ i j, i < n → j < n → L.getD i false = true → L.getD j false = true → EqD D i D j → B.getD i 0 = B.getD j 0
  onto : ∀ b, b < many → ∃ i, i < n ∧ L.getD i false = true ∧ B.getD i 0 = (b : Nat)
/-- All that is told of blocks at the end. -/
structure Blks (D : Dfa) (L : List Bool) (n : Nat) (B : List Int) : Prop where
  len : B.length = n
  dead : ∀ i, i < n → L.getD i false = false → B.getD i 0 = -1
  live : ∀ i, i < n → L.getD i false = true → 0 ≤ B.getD i 0
  same : ∀ i j, i < n → j < n → L.getD i false = true → L.getD j false = true → (B.getD i 0 = B.getD j 0 ↔ EqD D i D j)
theorem blk0_spec {D : Dfa} {L : List Bool} {n : Nat} (hL : L.length = n) : Blk D L n 0 (blk0 L) := by
  have hg : ∀ i, i < n → (blk0 L).getD i 0 = if L.getD i false then 0 else -1 := by
    intro i hi
    have : i < L.length := by omega
    simp only [blk0, List.getD, List.getElem?_map, List.getElem?_eq_getElem this, Option.map_some, Option.getD_some]
  refine ⟨by rw [blk0, List.length_map, hL], fun i hi h => ?_, fun i hi h => ?_, fun i j hi hj hil hjl h => ?_, fun b hb => by omega⟩
  · rw [hg i hi, h]; rfl
  · rw [hg i hi, h]; decide
  · rw [hg i hi, hg j hj, hil, hjl]
section
variable {D : Dfa} {L : List Bool} {n k : Nat} (hv : DV D n k) (hL : L.length = n) (hl : ∀ i, i < n → (L.getD i false = true ↔ LiveD D (i : Nat)))
include hv hL hl
theorem key_sound {B : List Int} {many : Nat} (hb : Blk D L n many B) {i j : Nat} (hi : i < n) (hj : j < n) (hil : L.getD i false = true) (hjl : L.getD j false = true) (h : EqD D i D j) : keyQ D B i = keyQ D B j := by
  have _ := hL
  unfold keyQ
  refine Prod.ext (hb.sound i j hi hj hil hjl h) (Prod.ext ?_ ?_)
  · have := h.tag
    rw [tag_at_nat, tag_at_nat] at this
    exact this
  · have hr1 := hv.rowAt hi
    have hr2 := hv.rowAt hj
    apply List.ext_getElem?
    intro c
    simp only [List.getElem?_map]
    by_cases hc : c < k
    · have e1 : (D.next.getD i [])[c]? = some (toD D (i : Nat) c) := row_to hv (by omega) hc
      have e2 : (D.next.getD j [])[c]? = some (toD D (j : Nat) c) := row_to hv (by omega) hc
      rw [e1, e2]
      simp only [Option.map_some]
      congr 1
      have hs := h.step c
      have l1 := hv.to_lt (q := i) (by omega) c
      have l2 := hv.to_lt (q := j) (by omega) c
      have key : ∀ (x : Int), -1 ≤ x → x < n → (if x = -1 then (-1 : Int) else B.getD x.toNat 0) = if L.getD x.toNat false = true ∧ x ≠ -1 then B.getD x.toNat 0 else -1 := by
        intro x h1 h2
        by_cases e : x = -1
        · rw [if_pos e, if_neg (fun hh => hh.2 e)]
        · rw [if_neg e]
          by_cases hh : L.getD x.toNat false = true
          · rw [if_pos ⟨hh, e⟩]
          · rw [if_neg (fun h3 => hh h3.1)]
            exact hb.dead x.toNat (by omega) (by simpa using hh)
      have live_iff : ∀ (x : Int), -1 ≤ x → x < n → ((L.getD x.toNat false = true ∧ x ≠ -1) ↔ LiveD D x) := by
        intro x h1 h2
        constructor
        · rintro ⟨h3, h4⟩
          obtain ⟨t, rfl⟩ := Int.eq_ofNat_of_zero_le (show 0 ≤ x by omega)
          exact (hl t (by omega)).1 (by simpa using h3)
        · intro h3
          have hne : ¬ x < 0 := fun h4 => not_live_neg D h4 h3
          obtain ⟨t, rfl⟩ := Int.eq_ofNat_of_zero_le (show 0 ≤ x by omega)
          exact ⟨by simpa using (hl t (by omega)).2 h3, by omega⟩
      rw [key _ l1.1 l1.2, key _ l2.1 l2.2]
      by_cases hh : LiveD D (toD D (i : Nat) c)
      · have hh2 := hs.live.1 hh
        have a1 := (live_iff _ l1.1 l1.2).2 hh
        have a2 := (live_iff _ l2.1 l2.2).2 hh2
        rw [if_pos a1, if_pos a2]
        obtain ⟨x, hx⟩ := Int.eq_ofNat_of_zero_le (show 0 ≤ toD D (i : Nat) c by have := a1.2; omega)
        obtain ⟨y, hy⟩ := Int.eq_ofNat_of_zero_le (show 0 ≤ toD D (j : Nat) c by have := a2.2; omega)
        rw [hx] at a1 hs l1 ⊢
        rw [hy] at a2 hs l2 ⊢
        simp only [Int.toNat_natCast] at a1 a2 ⊢
        exact hb.sound x y (by omega) (by omega) a1.1 a2.1 hs
      · rw [if_neg (fun a => hh ((live_iff _ l1.1 l1.2).1 a)), if_neg (fun a => hh (hs.live.2 ((live_iff _ l2.1 l2.2).1 a)))]
    · rw [List.getElem?_eq_none (by omega), List.getElem?_eq_none (by omega)]
theorem blk_next {B : List Int} {many : Nat} (hb : Blk D L n many B) : Blk D L n (blkPass D L B n).1.length (blkPass D L B n).2 := by
  have hp := pass_ok D L B (by rw [hL, hb.len]) n (by rw [hb.len]; exact Nat.le_refl _)
  refine ⟨by rw [hp.len, hb.len], fun i hi h => ?_, fun i hi h => ?_, fun i j hi hj hil hjl h => ?_, fun b hlt => ?_⟩
  · rw [hp.old i (.inr h)]; exact hb.dead i hi h
  · rw [(hp.mem i hi (by rw [hb.len]; exact hi) h).2]; omega
  · rw [(hp.mem i hi (by rw [hb.len]; exact hi) hil).2, (hp.mem j hj (by rw [hb.len]; exact hj) hjl).2, key_sound hv hL hl hb hi hj hil hjl h]
  · obtain ⟨j, h1, _, h2, h3⟩ := hp.from_ _ (getD_mem hlt (0, 0, []))
    refine ⟨j, h1, h2, ?_⟩
    rw [(hp.mem j h1 (by rw [hb.len]; exact h1) h2).2, ← h3]
    congr 1
    have e : (blkPass D L B n).1.getD b (0, 0, []) = (blkPass D L B n).1[b] := by simp [List.getD, List.getElem?_eq_getElem hlt]
    rw [e]
    exact idxM_getElem hp.nodup b hlt
theorem blk_last {B : List Int} {many : Nat} (hb : Blk D L n many B) (h : (blkPass D L B n).1.length ≤ many) : Blks D L n (blkPass D L B n).2 := by
  have hp := pass_ok D L B (by rw [hL, hb.len]) n (by rw [hb.len]; exact Nat.le_refl _)
  have hn := blk_next hv hL hl hb
  -- first cells are pairwise apart
  have hcov : ((blkPass D L B n).1.map (·.1)).Nodup := by
    refine nodup_cover (l := (List.range many).map fun (b : Nat) => (b : Int)) (ints_nodup many) (fun x hx => ?_) (by simpa using h)
    obtain ⟨b, hb1, rfl⟩ := List.mem_map.1 hx
    obtain ⟨i, h1, h2, h3⟩ := hb.onto b (by simpa using hb1)
    exact List.mem_map.2 ⟨keyQ D B i, (hp.mem i h1 (by rw [hb.len]; exact h1) h2).1, h3⟩
  have hkey : ∀ i j, i < n → j < n → L.getD i false = true → L.getD j false = true → B.getD i 0 = B.getD j 0 → keyQ D B i = keyQ D B j := fun i j hi hj hil hjl e =>
    nodup_map_inj hcov _ (hp.mem i hi (by rw [hb.len]; exact hi) hil).1 _ (hp.mem j hj (by rw [hb.len]; exact hj) hjl).1 e
  have hpt : ∀ i j, i < n → j < n → L.getD i false = true → L.getD j false = true → (blkPass D L B n).2.getD i 0 = (blkPass D L B n).2.getD j 0 → keyQ D B i = keyQ D B j := by
    intro i j hi hj hil hjl e
    obtain ⟨m1, e1⟩ := hp.mem i hi (by rw [hb.len]; exact hi) hil
    obtain ⟨m2, e2⟩ := hp.mem j hj (by rw [hb.len]; exact hj) hjl
    rw [e1, e2] at e
    have e' : idxM (blkPass D L B n).1 (keyQ D B i) = idxM (blkPass D L B n).1 (keyQ D B j) := by omega
    rw [← idxM_get m1 (0, 0, []), e', idxM_get m2]
  have sim : ∀ (cs : List Nat) (p q : Int), -1 ≤ p → p < n → -1 ≤ q → q < n → ((¬ LiveD D p ∧ ¬ LiveD D q) ∨ (LiveD D p ∧ LiveD D q ∧ B.getD p.toNat 0 = B.getD q.toNat 0)) → behD D p cs = behD D q cs := by
    intro cs
    induction cs with
    | nil =>
      intro p q h1 h2 h3 h4 h5
      rcases h5 with ⟨h5, h6⟩ | ⟨h5, h6, h7⟩
      · exact dead_eq h5 h6 []
      · have hp0 : ¬ p < 0 := fun h => not_live_neg D h h5
        have hq0 : ¬ q < 0 := fun h => not_live_neg D h h6
        obtain ⟨i, rfl⟩ := Int.eq_ofNat_of_zero_le (show 0 ≤ p by omega)
        obtain ⟨j, rfl⟩ := Int.eq_ofNat_of_zero_le (show 0 ≤ q by omega)
        have := hkey i j (by omega) (by omega) ((hl i (by omega)).2 h5) ((hl j (by omega)).2 h6) (by simpa using h7)
        have ht : D.tags.getD i 0 = D.tags.getD j 0 := congrArg (fun x => x.2.1) this
        show tagQ D (i : Nat) = tagQ D (j : Nat)
        rw [tag_at_nat, tag_at_nat, ht]
    | cons c cs ih =>
      intro p q h1 h2 h3 h4 h5
      rcases h5 with ⟨h5, h6⟩ | ⟨h5, h6, h7⟩
      · exact dead_eq h5 h6 (c :: cs)
      · have hp0 : ¬ p < 0 := fun h => not_live_neg D h h5
        have hq0 : ¬ q < 0 := fun h => not_live_neg D h h6
        obtain ⟨i, rfl⟩ := Int.eq_ofNat_of_zero_le (show 0 ≤ p by omega)
        obtain ⟨j, rfl⟩ := Int.eq_ofNat_of_zero_le (show 0 ≤ q by omega)
        have hk := hkey i j (by omega) (by omega) ((hl i (by omega)).2 h5) ((hl j (by omega)).2 h6) (by simpa using h7)
        have hrow : ((D.next.getD i []).map fun to => if to = -1 then (-1 : Int) else B.getD to.toNat 0) = (D.next.getD j []).map fun to => if to = -1 then (-1 : Int) else B.getD to.toNat 0 := congrArg (fun x => x.2.2) hk
        rw [beh_cons, beh_cons]
        have l1 := hv.to_lt (q := i) (by omega) c
        have l2 := hv.to_lt (q := j) (by omega) c
        refine ih _ _ l1.1 l1.2 l2.1 l2.2 ?_
        have hr1 := hv.rowAt (i := i) (by omega)
        have hr2 := hv.rowAt (i := j) (by omega)
        by_cases hc : c < k
        · have e1 : (D.next.getD i [])[c]? = some (toD D (i : Nat) c) := row_to hv (by omega) hc
          have e2 : (D.next.getD j [])[c]? = some (toD D (j : Nat) c) := row_to hv (by omega) hc
          have e3 := congrArg (fun l => l[c]?) hrow
          simp only [List.getElem?_map, e1, e2, Option.map_some, Option.some.injEq] at e3
          have val : ∀ (x : Int), -1 ≤ x → x < n → ((LiveD D x ∧ 0 ≤ (if x = -1 then (-1 : Int) else B.getD x.toNat 0) ∧ x ≠ -1) ∨ (¬ LiveD D x ∧ (if x = -1 then (-1 : Int) else B.getD x.toNat 0) = -1)) := by
            intro x a1 a2
            by_cases e : x = -1
            · exact .inr ⟨not_live_neg D (by omega), if_pos e⟩
            · rw [if_neg e]
              obtain ⟨t, rfl⟩ := Int.eq_ofNat_of_zero_le (show 0 ≤ x by omega)
              by_cases hh : L.getD t false = true
              · exact .inl ⟨(hl t (by omega)).1 hh, by simpa using hb.live t (by omega) hh, e⟩
              · exact .inr ⟨fun h8 => hh ((hl t (by omega)).2 h8), by simpa using hb.dead t (by omega) (by simpa using hh)⟩
          rcases val _ l1.1 l1.2 with ⟨v1, v2, v3⟩ | ⟨v1, v2⟩ <;> rcases val _ l2.1 l2.2 with ⟨u1, u2, u3⟩ | ⟨u1, u2⟩
          · rw [if_neg v3, if_neg u3] at e3
            exact .inr ⟨v1, u1, e3⟩
          · rw [e3, u2] at v2; omega
          · rw [← e3, v2] at u2; omega
          · exact .inl ⟨v1, u1⟩
        · refine .inl ⟨?_, ?_⟩
          · rw [to_at, getD_ge (by omega)]; exact not_live_neg D (by omega)
          · rw [to_at, getD_ge (by omega)]; exact not_live_neg D (by omega)
  refine ⟨hn.len, hn.dead, hn.live, fun i j hi hj hil hjl => ⟨fun e cs => ?_, hn.sound i j hi hj hil hjl⟩⟩
  have hk := hpt i j hi hj hil hjl e
  exact sim cs i j (by omega) (by omega) (by omega) (by omega) (.inr ⟨(hl i hi).1 hil, (hl j hj).1 hjl, congrArg (fun x => x.1) hk⟩)
theorem blkF_spec : ∀ (f many : Nat) (B : List Int), Blk D L n many B → n < many + f → Blks D L n (blkF D L f many B) := by
  intro f
  induction f with
  | zero =>
    intro many B hb h
    exfalso
    have := nodup_sub_len (l := (List.range many).map fun (b : Nat) => (b : Int)) (m := B) (ints_nodup many) (fun x hx => by
      obtain ⟨b, hb1, rfl⟩ := List.mem_map.1 hx
      obtain ⟨i, h1, _, h3⟩ := hb.onto b (by simpa using hb1)
      rw [← h3]
      exact getD_mem (by rw [hb.len]; exact h1) _)
    rw [hb.len] at this
    simp at this
    omega
  | succ f ih =>
    intro many B hb h
    rw [blkF, hv.hn]
    split
    · rename_i hlt
      exact ih _ _ (blk_next hv hL hl hb) (by omega)
    · rename_i hge
      exact blk_last hv hL hl hb (by omega)
end
theorem blocks_spec {D : Dfa} {n k : Nat} (hv : DV D n k) : Blks D (livesM D) n (blocksM D) := by
  obtain ⟨h1, h2⟩ := lives_spec hv
  exact blkF_spec hv h1 h2 _ _ _ (blk0_spec h1) (by rw [hv.hn]; omega)
end Go.Proofs.YtnenbihmokolpaaGreatDoor

namespace Go.Proofs.YtnenbihmokolpaaGreatDoor set_option linter.unusedVariables false set_option linter.unusedSimpArgs false

def blkAt (B : List Int) (q : Int) : Int := B.getD q.toNat 0
/-- The place of a state: its block's; none, if it is dead. -/
def plM (B : List Int) (S : List Int) (to : Int) : List Int × Int :=
  if to = -1 ∨ blkAt B to = -1 then (S, -1) else if blkAt B to ∈ S.map (blkAt B) then (S, (idxM (S.map (blkAt B)) (blkAt B to) : Nat)) else (S ++ [to], (S.length : Nat))
def lrow (B : List Int) (row : List Int) (S : List Int) : Nat → List Int × List Int
  | 0 => (S, [])
  | i + 1 => ((plM B (lrow B row S i).1 (row.getD i 0)).1, (lrow B row S i).2 ++ [(plM B (lrow B row S i).1 (row.getD i 0)).2])
structure Least where
  states : List Int
  next : List (List Int)
  tags : List Nat
def lround (D : Dfa) (B : List Int) : Nat → Least
  | 0 => ⟨[0], [], []⟩
  | n + 1 =>
    let x := lround D B n
    let q := (x.states.getD n 0).toNat
    let y := lrow B (D.next.getD q []) x.states (D.next.getD q []).length
    ⟨y.1, x.next ++ [y.2], x.tags ++ [D.tags.getD q 0]⟩
def lend (D : Dfa) (B : List Int) : Nat → Nat → Nat
  | 0, n => n
  | f + 1, n => if n < (lround D B n).states.length then lend D B f (n + 1) else n
def leastOf (D : Dfa) (B : List Int) : Dfa := ⟨D.cls, (lround D B (lend D B 100000 0)).next, (lround D B (lend D B 100000 0)).tags⟩
def leastM (D : Dfa) : Dfa := leastOf D (blocksM D)

/-- What blocks tell of states: dead ones, and those that are alike. -/
structure BQ (D : Dfa) (n : Nat) (B : List Int) : Prop where
  dead : ∀ q : Int, -1 ≤ q → q < n → ((q = -1 ∨ blkAt B q = -1) ↔ ¬ LiveD D q)
  same : ∀ p q : Int, 0 ≤ p → p < n → 0 ≤ q → q < n → LiveD D q → (blkAt B p = blkAt B q ↔ EqD D p D q)
theorem Blks.bq {D : Dfa} {n k : Nat} (hv : DV D n k) {B : List Int} (h : Blks D (livesM D) n B) : BQ D n B := by
  obtain ⟨hl, hs⟩ := lives_spec hv
  refine ⟨fun q h1 h2 => ?_, fun p q h1 h2 h3 h4 h5 => ?_⟩
  · by_cases e : q = -1
    · exact ⟨fun _ => not_live_neg D (by omega), fun _ => .inl e⟩
    · obtain ⟨i, rfl⟩ := Int.eq_ofNat_of_zero_le (show 0 ≤ q by omega)
      have hi : i < n := by omega
      show (((i : Int) = -1) ∨ B.getD i 0 = -1) ↔ _
      by_cases hh : (livesM D).getD i false = true
      · have := h.live i hi hh
        exact ⟨fun h6 => by rcases h6 with h6 | h6 <;> omega, fun h6 => absurd ((hs i hi).1 hh) h6⟩
      · exact ⟨fun _ h6 => hh ((hs i hi).2 h6), fun _ => .inr (h.dead i hi (by simpa using hh))⟩
  · obtain ⟨i, rfl⟩ := Int.eq_ofNat_of_zero_le h1
    obtain ⟨j, rfl⟩ := Int.eq_ofNat_of_zero_le h3
    have hi : i < n := by omega
    have hj : j < n := by omega
    show B.getD i 0 = B.getD j 0 ↔ _
    have hjl := (hs j hj).2 h5
    by_cases hh : (livesM D).getD i false = true
    · exact h.same i j hi hj hh hjl
    · have h6 := h.dead i hi (by simpa using hh)
      have h7 := h.live j hj hjl
      exact ⟨fun h8 => by omega, fun h8 => absurd ((hs i hi).2 (h8.live.2 h5)) hh⟩
theorem blocks_bq {D : Dfa} {n k : Nat} (hv : DV D n k) : BQ D n (blocksM D) := (blocks_spec hv).bq hv

/-- States that stand for the same, place by place. -/
structure Rel (D D' : Dfa) (n n' : Nat) (S S' : List Int) : Prop where
  len : S.length = S'.length
  lt : ∀ q ∈ S, 0 ≤ q ∧ q < n
  lt' : ∀ q ∈ S', 0 ≤ q ∧ q < n'
  eq : ∀ i, i < S.length → EqD D (S.getD i 0) D' (S'.getD i 0)
theorem idxM_eq {α β : Type} [DecidableEq α] [DecidableEq β] : ∀ {l : List α} {m : List β} {x : α} {y : β}, l.length = m.length → (∀ (i : Nat) (h1 : i < l.length) (h2 : i < m.length), l[i] = x ↔ m[i] = y) → idxM l x = idxM m y := by
  intro l
  induction l with
  | nil =>
    intro m x y hl _
    cases m with
    | nil => rfl
    | cons b m => simp at hl
  | cons a l ih =>
    intro m x y hl h
    cases m with
    | nil => simp at hl
    | cons b m =>
      have h0 := h 0 (by simp) (by simp)
      simp only [List.getElem_cons_zero] at h0
      have ht := ih (m := m) (x := x) (y := y) (by simpa using hl) (fun i h1 h2 => by
        have := h (i + 1) (by simpa using h1) (by simpa using h2)
        simpa using this)
      unfold idxM at ht ⊢
      rw [List.idxOf_cons, List.idxOf_cons]
      by_cases e : a = x
      · have e2 := h0.1 e
        simp [e, e2]
      · have e2 : b ≠ y := fun e2 => e (h0.2 e2)
        have c1 : (a == x) = false := by simpa using e
        have c2 : (b == y) = false := by simpa using e2
        rw [c1, c2]
        simp [ht]
section
variable {D D' : Dfa} {n n' k : Nat} {B B' : List Int} (hv : DV D n k) (hv' : DV D' n' k) (hb : BQ D n B) (hb' : BQ D' n' B')
include hb hb'
theorem pl_rel {S S' : List Int} (hr : Rel D D' n n' S S') {to to' : Int} (h1 : -1 ≤ to ∧ to < n) (h2 : -1 ≤ to' ∧ to' < n') (he : EqD D to D' to') :
    Rel D D' n n' (plM B S to).1 (plM B' S' to').1 ∧ (plM B S to).2 = (plM B' S' to').2 := by
  unfold plM
  by_cases hl : LiveD D to
  · have hl' := he.live.1 hl
    rw [if_neg (fun h => (hb.dead to h1.1 h1.2).1 h hl), if_neg (fun h => (hb'.dead to' h2.1 h2.2).1 h hl')]
    have p0 : 0 ≤ to := by
      rcases Int.lt_or_le to 0 with h | h
      · exact absurd hl (not_live_neg D h)
      · exact h
    have p1 : 0 ≤ to' := by
      rcases Int.lt_or_le to' 0 with h | h
      · exact absurd hl' (not_live_neg D' h)
      · exact h
    have hat : ∀ (i : Nat) (g1 : i < (S.map (blkAt B)).length) (g2 : i < (S'.map (blkAt B')).length), (S.map (blkAt B))[i] = blkAt B to ↔ (S'.map (blkAt B'))[i] = blkAt B' to' := by
      intro i g1 g2
      simp only [List.length_map] at g1 g2
      rw [List.getElem_map, List.getElem_map]
      have hq := hr.lt _ (List.getElem_mem g1)
      have hq' := hr.lt' _ (List.getElem_mem g2)
      rw [hb.same _ _ hq.1 hq.2 p0 h1.2 hl, hb'.same _ _ hq'.1 hq'.2 p1 h2.2 hl']
      have hE := hr.eq i g1
      have a1 : S.getD i 0 = S[i] := by simp [List.getD, List.getElem?_eq_getElem g1]
      have a2 : S'.getD i 0 = S'[i] := by simp [List.getD, List.getElem?_eq_getElem g2]
      rw [a1, a2] at hE
      exact ⟨fun h => hE.symm.trans (h.trans he), fun h => hE.trans (h.trans he.symm)⟩
    have hmem : blkAt B to ∈ S.map (blkAt B) ↔ blkAt B' to' ∈ S'.map (blkAt B') := by
      rw [List.mem_iff_getElem, List.mem_iff_getElem]
      constructor
      · rintro ⟨i, g, e⟩
        have g2 : i < (S'.map (blkAt B')).length := by rw [List.length_map, ← hr.len]; simpa using g
        exact ⟨i, g2, (hat i g g2).1 e⟩
      · rintro ⟨i, g, e⟩
        have g2 : i < (S.map (blkAt B)).length := by rw [List.length_map, hr.len]; simpa using g
        exact ⟨i, g2, (hat i g2 g).2 e⟩
    by_cases hm : blkAt B to ∈ S.map (blkAt B)
    · rw [if_pos hm, if_pos (hmem.1 hm)]
      exact ⟨hr, by rw [idxM_eq (by rw [List.length_map, List.length_map, hr.len]) hat]⟩
    · rw [if_neg hm, if_neg (fun h => hm (hmem.2 h))]
      refine ⟨⟨by simp [hr.len], fun q hq => ?_, fun q hq => ?_, fun i hi => ?_⟩, by rw [hr.len]⟩
      · rcases List.mem_append.1 hq with hq | hq
        · exact hr.lt q hq
        · obtain rfl : q = to := by simpa using hq
          exact ⟨p0, h1.2⟩
      · rcases List.mem_append.1 hq with hq | hq
        · exact hr.lt' q hq
        · obtain rfl : q = to' := by simpa using hq
          exact ⟨p1, h2.2⟩
      · by_cases e : i < S.length
        · rw [getD_left e, getD_left (by rw [← hr.len]; exact e)]
          exact hr.eq i e
        · have : i = S.length := by simp at hi; omega
          subst this
          rw [getD_right (Nat.le_refl _), getD_right (by rw [hr.len]; exact Nat.le_refl _), hr.len, Nat.sub_self]
          exact he
  · have hl' : ¬ LiveD D' to' := fun h => hl (he.live.2 h)
    rw [if_pos ((hb.dead to h1.1 h1.2).2 hl), if_pos ((hb'.dead to' h2.1 h2.2).2 hl')]
    exact ⟨hr, rfl⟩
theorem lrow_rel {S S' : List Int} (hr : Rel D D' n n' S S') {row row' : List Int} (h1 : ∀ i, i < k → -1 ≤ row.getD i 0 ∧ row.getD i 0 < n) (h2 : ∀ i, i < k → -1 ≤ row'.getD i 0 ∧ row'.getD i 0 < n')
    (he : ∀ i, i < k → EqD D (row.getD i 0) D' (row'.getD i 0)) : ∀ i, i ≤ k → Rel D D' n n' (lrow B row S i).1 (lrow B' row' S' i).1 ∧ (lrow B row S i).2 = (lrow B' row' S' i).2 := by
  intro i
  induction i with
  | zero => exact fun _ => ⟨hr, rfl⟩
  | succ i ih =>
    intro hi
    obtain ⟨h3, h4⟩ := ih (by omega)
    have h5 := pl_rel hb hb' h3 (h1 i (by omega)) (h2 i (by omega)) (he i (by omega))
    simp only [lrow]
    exact ⟨h5.1, by rw [h4, h5.2]⟩
include hv hv'
theorem lround_rel (h0 : EqD D 0 D' 0) : ∀ i, Rel D D' n n' (lround D B i).states (lround D' B' i).states ∧ ((∀ j, j < i → j < (lround D B j).states.length) → (lround D B i).next = (lround D' B' i).next ∧ (lround D B i).tags = (lround D' B' i).tags) := by
  have row0 : ∀ {E : Dfa} {m : Nat}, DV E m k → ∀ (q : Nat), q < m → (∀ i, i < k → (E.next.getD q []).getD i 0 = toD E (q : Nat) i) := by
    intro E m hE q hq i hi
    have := row_to hE hq hi
    simp only [List.getD] at this ⊢
    rw [this]; rfl
  intro i
  induction i with
  | zero =>
    have p := hv.pos
    have p' := hv'.pos
    refine ⟨⟨rfl, fun q hq => ?_, fun q hq => ?_, fun i hi => ?_⟩, fun _ => ⟨rfl, rfl⟩⟩
    · obtain rfl : q = 0 := by simpa [lround] using hq
      omega
    · obtain rfl : q = 0 := by simpa [lround] using hq
      omega
    · have : i = 0 := by simpa [lround] using hi
      subst this
      exact h0
  | succ i ih =>
    obtain ⟨hr, hn⟩ := ih
    -- a place beyond reads as state 0
    have hq : ∀ {E : Dfa} {m : Nat} {S : List Int}, DV E m k → (∀ q ∈ S, 0 ≤ q ∧ q < m) → 0 ≤ S.getD i 0 ∧ S.getD i 0 < m := by
      intro E m S hE hS
      by_cases h : i < S.length
      · exact hS _ (getD_mem h _)
      · rw [getD_ge (by omega)]; have := hE.pos; omega
    have q1 := hq hv hr.lt
    have q2 := hq hv' hr.lt'
    have hE : EqD D ((lround D B i).states.getD i 0) D' ((lround D' B' i).states.getD i 0) := by
      by_cases h : i < (lround D B i).states.length
      · exact hr.eq i h
      · rw [getD_ge (by omega), getD_ge (by rw [← hr.len]; omega)]; exact h0
    obtain ⟨p, hp⟩ := Int.eq_ofNat_of_zero_le q1.1
    obtain ⟨p', hp'⟩ := Int.eq_ofNat_of_zero_le q2.1
    rw [hp] at q1 hE
    rw [hp'] at q2 hE
    have hpn : p < n := by omega
    have hpn' : p' < n' := by omega
    have l1 := (hv.rowAt hpn).1
    have l2 := (hv'.rowAt hpn').1
    have hrow := lrow_rel (k := k) hb hb' hr (row := D.next.getD p []) (row' := D'.next.getD p' [])
      (fun j hj => by rw [row0 hv p hpn j hj]; exact hv.to_lt (by omega) j) (fun j hj => by rw [row0 hv' p' hpn' j hj]; exact hv'.to_lt (by omega) j)
      (fun j hj => by rw [row0 hv p hpn j hj, row0 hv' p' hpn' j hj]; exact hE.step j) k (Nat.le_refl _)
    have ht : D.tags.getD p 0 = D'.tags.getD p' 0 := by
      have := hE.tag
      rw [tag_at_nat, tag_at_nat] at this
      exact this
    simp only [lround, hp, hp', Int.toNat_natCast, l1, l2]
    refine ⟨hrow.1, fun hh => ?_⟩
    obtain ⟨n1, n2⟩ := hn (fun j hj => hh j (by omega))
    exact ⟨by rw [n1, hrow.2], by rw [n2, ht]⟩
theorem lend_rel (h0 : EqD D 0 D' 0) : ∀ f i, lend D B f i = lend D' B' f i := by
  intro f
  induction f with
  | zero => exact fun _ => rfl
  | succ f ih =>
    intro i
    rw [lend, lend, (lround_rel hv hv' hb hb' h0 i).1.len, ih]
theorem lround_eq (h0 : EqD D 0 D' 0) : ∀ i, (lround D B i).next = (lround D' B' i).next ∧ (lround D B i).tags = (lround D' B' i).tags := by
  intro i
  induction i with
  | zero => exact ⟨rfl, rfl⟩
  | succ i ih =>
    have hr := (lround_rel hv hv' hb hb' h0 i).1
    have hq : ∀ {E : Dfa} {m : Nat} {S : List Int}, DV E m k → (∀ q ∈ S, 0 ≤ q ∧ q < m) → 0 ≤ S.getD i 0 ∧ S.getD i 0 < m := by
      intro E m S hE hS
      by_cases h : i < S.length
      · exact hS _ (getD_mem h _)
      · rw [getD_ge (by omega)]; have := hE.pos; omega
    have q1 := hq hv hr.lt
    have q2 := hq hv' hr.lt'
    have hE : EqD D ((lround D B i).states.getD i 0) D' ((lround D' B' i).states.getD i 0) := by
      by_cases h : i < (lround D B i).states.length
      · exact hr.eq i h
      · rw [getD_ge (by omega), getD_ge (by rw [← hr.len]; omega)]; exact h0
    obtain ⟨p, hp⟩ := Int.eq_ofNat_of_zero_le q1.1
    obtain ⟨p', hp'⟩ := Int.eq_ofNat_of_zero_le q2.1
    rw [hp] at q1 hE
    rw [hp'] at q2 hE
    have hpn : p < n := by omega
    have hpn' : p' < n' := by omega
    have l1 := (hv.rowAt hpn).1
    have l2 := (hv'.rowAt hpn').1
    have row0 : ∀ {E : Dfa} {m : Nat}, DV E m k → ∀ (q : Nat), q < m → (∀ i, i < k → (E.next.getD q []).getD i 0 = toD E (q : Nat) i) := by
      intro E m hE q hq i hi
      have := row_to hE hq hi
      simp only [List.getD] at this ⊢
      rw [this]; rfl
    have hrow := lrow_rel (k := k) hb hb' hr (row := D.next.getD p []) (row' := D'.next.getD p' [])
      (fun j hj => by rw [row0 hv p hpn j hj]; exact hv.to_lt (by omega) j) (fun j hj => by rw [row0 hv' p' hpn' j hj]; exact hv'.to_lt (by omega) j)
      (fun j hj => by rw [row0 hv p hpn j hj, row0 hv' p' hpn' j hj]; exact hE.step j) k (Nat.le_refl _)
    have ht : D.tags.getD p 0 = D'.tags.getD p' 0 := by
      have := hE.tag
      rw [tag_at_nat, tag_at_nat] at this
      exact this
    simp only [lround, hp, hp', Int.toNat_natCast, l1, l2]
    exact ⟨by rw [ih.1, hrow.2], by rw [ih.2, ht]⟩
/-- TWO THAT ACCEPT THE SAME HAVE ONE LEAST AUTOMATON. -/
theorem leastOf_rel (h0 : EqD D 0 D' 0) (hc : D.cls = D'.cls) : leastOf D B = leastOf D' B' := by
  unfold leastOf
  rw [lend_rel hv hv' hb hb' h0, (lround_eq hv hv' hb hb' h0 _).1, (lround_eq hv hv' hb hb' h0 _).2, hc]
end
theorem least_canon {D D' : Dfa} {n n' k : Nat} (hv : DV D n k) (hv' : DV D' n' k) (h0 : EqD D 0 D' 0) (hc : D.cls = D'.cls) : leastM D = leastM D' :=
  leastOf_rel hv hv' (blocks_bq hv) (blocks_bq hv') h0 hc
end Go.Proofs.YtnenbihmokolpaaGreatDoor

namespace Go.Proofs.YtnenbihmokolpaaGreatDoor set_option linter.unusedVariables false set_option linter.unusedSimpArgs false

theorem nodup_of_map {α β : Type} {f : α → β} {l : List α} (h : (l.map f).Nodup) : l.Nodup := by
  unfold List.Nodup at h ⊢
  rw [List.pairwise_map] at h
  exact h.imp fun {a b} h e => h (congrArg f e)
/-- What stands in a row for a state. -/
def PlIn (D : Dfa) (S : List Int) (q z : Int) : Prop := (¬ LiveD D q ∧ z = -1) ∨ (LiveD D q ∧ ∃ m : Nat, z = m ∧ m < S.length ∧ EqD D (S.getD m 0) D q)
theorem PlIn.more {D : Dfa} {S : List Int} {q z : Int} (h : PlIn D S q z) (T : List Int) : PlIn D (S ++ T) q z := by
  rcases h with h | ⟨h1, m, h2, h3, h4⟩
  · exact .inl h
  · exact .inr ⟨h1, m, h2, by rw [List.length_append]; omega, by rw [getD_left h3]; exact h4⟩
/-- States found so far. -/
structure StS (D : Dfa) (n : Nat) (B : List Int) (S : List Int) : Prop where
  lt : ∀ q ∈ S, 0 ≤ q ∧ q < n
  head : ∃ T, S = 0 :: T
  nodup : (S.map (blkAt B)).Nodup
  live : ∀ j, 0 < j → j < S.length → LiveD D (S.getD j 0)
section
variable {D : Dfa} {n k : Nat} {B : List Int} (hv : DV D n k) (hb : BQ D n B)
include hb
theorem pl_ok {S : List Int} (h : StS D n B S) {q : Int} (hq : -1 ≤ q ∧ q < n) : StS D n B (plM B S q).1 ∧ (∃ T, (plM B S q).1 = S ++ T) ∧ PlIn D (plM B S q).1 q (plM B S q).2 := by
  unfold plM
  split
  · rename_i hd
    exact ⟨h, ⟨[], by simp⟩, .inl ⟨(hb.dead q hq.1 hq.2).1 hd, rfl⟩⟩
  · rename_i hd
    have hl : LiveD D q := Classical.byContradiction fun h1 => hd ((hb.dead q hq.1 hq.2).2 h1)
    have p0 : 0 ≤ q := by
      rcases Int.lt_or_le q 0 with h1 | h1
      · exact absurd hl (not_live_neg D h1)
      · exact h1
    split
    · rename_i hm
      refine ⟨h, ⟨[], by simp⟩, .inr ⟨hl, _, rfl, ?_, ?_⟩⟩
      · have := idxM_lt hm; simpa using this
      · have h1 := idxM_lt hm
        rw [List.length_map] at h1
        have h2 := idxM_get hm (blkAt B 0)
        have e : (S.map (blkAt B)).getD (idxM (S.map (blkAt B)) (blkAt B q)) (blkAt B 0) = blkAt B (S.getD (idxM (S.map (blkAt B)) (blkAt B q)) 0) := by
          simp only [List.getD, List.getElem?_map, List.getElem?_eq_getElem h1, Option.map_some, Option.getD_some]
        rw [e] at h2
        have h3 := h.lt _ (getD_mem h1 0)
        exact (hb.same _ _ h3.1 h3.2 p0 hq.2 hl).1 h2
    · rename_i hm
      obtain ⟨T, hT⟩ := h.head
      refine ⟨⟨fun x hx => ?_, ⟨T ++ [q], by rw [hT]; rfl⟩, ?_, fun j h1 h2 => ?_⟩, ⟨[q], rfl⟩, .inr ⟨hl, S.length, rfl, by simp, ?_⟩⟩
      · rcases List.mem_append.1 hx with hx | hx
        · exact h.lt x hx
        · obtain rfl : x = q := by simpa using hx
          exact ⟨p0, hq.2⟩
      · rw [List.map_append]
        refine List.nodup_append.2 ⟨h.nodup, by simp, fun x hx y hy e => ?_⟩
        have : y = blkAt B q := by simpa using hy
        rw [e, this] at hx
        exact hm hx
      · by_cases e : j < S.length
        · rw [getD_left e]; exact h.live j h1 e
        · have : j = S.length := by simp at h2; omega
          subst this
          rw [getD_right (Nat.le_refl _), Nat.sub_self]
          exact hl
      · rw [getD_right (Nat.le_refl _), Nat.sub_self]
        exact EqD.refl D q
theorem lrow_ok {row : List Int} (hrow : ∀ c, c < row.length → -1 ≤ row.getD c 0 ∧ row.getD c 0 < n) {S : List Int} (h : StS D n B S) : ∀ i, i ≤ row.length →
    StS D n B (lrow B row S i).1 ∧ (∃ T, (lrow B row S i).1 = S ++ T) ∧ (lrow B row S i).2.length = i ∧ ∀ c, c < i → PlIn D (lrow B row S i).1 (row.getD c 0) ((lrow B row S i).2.getD c 0) := by
  intro i
  induction i with
  | zero => exact fun _ => ⟨h, ⟨[], by simp [lrow]⟩, rfl, fun c hc => by omega⟩
  | succ i ih =>
    intro hi
    obtain ⟨h1, ⟨T, h2⟩, h3, h4⟩ := ih (by omega)
    obtain ⟨g1, ⟨T2, g2⟩, g3⟩ := pl_ok hb h1 (hrow i (by omega))
    simp only [lrow]
    refine ⟨g1, ⟨T ++ T2, by rw [g2, h2, List.append_assoc]⟩, by simp [h3], fun c hc => ?_⟩
    by_cases e : c < i
    · rw [getD_left (by omega), g2]
      exact (h4 c e).more T2
    · have : c = i := by omega
      subst this
      rw [getD_right (by omega), h3, Nat.sub_self]
      exact g3
/-- What stands behind i rounds. -/
structure LR (D : Dfa) (n k : Nat) (B : List Int) (i : Nat) (x : Least) : Prop where
  st : StS D n B x.states
  hn : x.next.length = i
  ht : x.tags.length = i
  le : i ≤ x.states.length
  tag : ∀ j, j < i → x.tags.getD j 0 = tagQ D (x.states.getD j 0)
  row : ∀ j, j < i → (x.next.getD j []).length = k
  to : ∀ j c, j < i → c < k → PlIn D x.states (toD D (x.states.getD j 0) c) ((x.next.getD j []).getD c 0)
include hv
theorem lround_zero : LR D n k B 0 (lround D B 0) :=
  have _ := hb
  ⟨⟨fun q hq => by
    have := hv.pos
    obtain rfl : q = 0 := by simpa [lround] using hq
    omega, ⟨[], rfl⟩, by simp [lround], fun j h1 h2 => by simp [lround] at h2; omega⟩, rfl, rfl, Nat.zero_le _, fun j h => by omega, fun j h => by omega, fun j c h => by omega⟩
theorem lround_succ {i : Nat} (h : LR D n k B i (lround D B i)) (hlt : i < (lround D B i).states.length) : LR D n k B (i + 1) (lround D B (i + 1)) := by
  have hs := h.st.lt _ (getD_mem hlt 0)
  obtain ⟨p, hp⟩ := Int.eq_ofNat_of_zero_le hs.1
  rw [hp] at hs
  have hpn : p < n := by omega
  have hr := hv.rowAt hpn
  have hrow : ∀ c, c < k → (D.next.getD p []).getD c 0 = toD D (p : Nat) c := by
    intro c hc
    have := row_to hv hpn hc
    simp only [List.getD] at this ⊢
    rw [this]; rfl
  obtain ⟨h1, ⟨T, h2⟩, h3, h4⟩ := lrow_ok hb (row := D.next.getD p []) (fun c hc => hr.2 _ (getD_mem hc 0)) h.st k (by rw [hr.1]; exact Nat.le_refl _)
  have e : lround D B (i + 1) = ⟨(lrow B (D.next.getD p []) (lround D B i).states k).1, (lround D B i).next ++ [(lrow B (D.next.getD p []) (lround D B i).states k).2], (lround D B i).tags ++ [D.tags.getD p 0]⟩ := by
    simp only [lround, hp, Int.toNat_natCast, hr.1]
  rw [e]
  have hget : ∀ j, j < (lround D B i).states.length → ((lround D B i).states ++ T).getD j 0 = (lround D B i).states.getD j 0 := fun j hj => getD_left hj
  refine ⟨h1, by simp [h.hn], by simp [h.ht], ?_, fun j hj => ?_, fun j hj => ?_, fun j c hj hc => ?_⟩
  · show i + 1 ≤ (lrow B (D.next.getD p []) (lround D B i).states k).1.length
    rw [h2, List.length_append]; omega
  · show ((lround D B i).tags ++ [D.tags.getD p 0]).getD j 0 = tagQ D ((lrow B (D.next.getD p []) (lround D B i).states k).1.getD j 0)
    rw [h2, hget j (by omega)]
    by_cases ej : j = i
    · subst ej
      rw [getD_right (by rw [h.ht]; exact Nat.le_refl _), h.ht, Nat.sub_self, hp, tag_at_nat]; rfl
    · rw [getD_left (by rw [h.ht]; omega)]; exact h.tag j (by omega)
  · show (((lround D B i).next ++ [(lrow B (D.next.getD p []) (lround D B i).states k).2]).getD j []).length = k
    by_cases ej : j = i
    · subst ej
      rw [getD_right (by rw [h.hn]; exact Nat.le_refl _), h.hn, Nat.sub_self]; exact h3
    · rw [getD_left (by rw [h.hn]; omega)]; exact h.row j (by omega)
  · show PlIn D (lrow B (D.next.getD p []) (lround D B i).states k).1 (toD D ((lrow B (D.next.getD p []) (lround D B i).states k).1.getD j 0) c) ((((lround D B i).next ++ [(lrow B (D.next.getD p []) (lround D B i).states k).2]).getD j []).getD c 0)
    by_cases ej : j = i
    · subst ej
      rw [getD_right (l := (lround D B j).next) (by rw [h.hn]; exact Nat.le_refl _), h.hn, Nat.sub_self]
      have h5 := h4 c hc
      rw [hrow c hc] at h5
      rw [h2, hget j hlt, hp, ← h2]
      exact h5
    · rw [getD_left (l := (lround D B i).next) (by rw [h.hn]; omega), h2, hget j (by omega)]
      exact (h.to j c (by omega) hc).more T
theorem sts_len {S : List Int} (h : StS D n B S) : S.length ≤ n := by
  have hn : S.Nodup := nodup_of_map h.nodup
  have := nodup_sub_len hn (m := (List.range n).map fun (b : Nat) => (b : Int)) (fun q hq => by
    have h1 := h.lt q hq
    obtain ⟨p, rfl⟩ := Int.eq_ofNat_of_zero_le h1.1
    exact List.mem_map.2 ⟨p, by simp; omega, rfl⟩)
  have _ := hv
  have _ := hb
  simpa using this
theorem lend_ok : ∀ (f i : Nat), LR D n k B i (lround D B i) → n < i + f → LR D n k B (lend D B f i) (lround D B (lend D B f i)) ∧ (lround D B (lend D B f i)).states.length = lend D B f i := by
  intro f
  induction f with
  | zero =>
    intro i h hf
    have := sts_len hv hb h.st
    have := h.le
    omega
  | succ f ih =>
    intro i h hf
    rw [lend]
    split
    · rename_i hlt
      exact ih (i + 1) (lround_succ hv hb h hlt) (by omega)
    · rename_i hge
      exact ⟨h, by have := h.le; omega⟩
end
/-- All that is told of the least automaton. -/
structure LeastOk (D : Dfa) (n k N : Nat) (S : List Int) (m : Dfa) : Prop where
  dv : DV m N k
  le : N ≤ n
  len : S.length = N
  eq : ∀ j, j < N → EqD m (j : Nat) D (S.getD j 0)
  head : S.getD 0 0 = 0
  apart : ∀ i j, i < N → j < N → EqD m (i : Nat) m (j : Nat) → i = j
  live : ∀ i, i < N → 1 < N → LiveD m (i : Nat)
  cls : m.cls = D.cls
  dead : ∀ j c, j < N → c < k → toD m (j : Nat) c = -1 ∨ LiveD m (toD m (j : Nat) c)
theorem leastOf_ok {D : Dfa} {n k : Nat} {B : List Int} (hv : DV D n k) (hb : BQ D n B) (h : n < 100000) : ∃ N S, LeastOk D n k N S (leastOf D B) := by
  obtain ⟨hr, hl⟩ := lend_ok hv hb 100000 0 (lround_zero hv hb) (by omega)
  obtain ⟨N, hN⟩ : ∃ N, lend D B 100000 0 = N := ⟨_, rfl⟩
  rw [hN] at hr hl
  obtain ⟨x, hx⟩ : ∃ x, lround D B N = x := ⟨_, rfl⟩
  rw [hx] at hr hl
  have hm : leastOf D B = ⟨D.cls, x.next, x.tags⟩ := by rw [leastOf, hN, hx]
  rw [hm]
  have hNn : N ≤ n := by rw [← hl]; exact sts_len hv hb hr.st
  obtain ⟨T, hT⟩ := hr.st.head
  have hpos : 0 < N := by rw [← hl, hT]; simp
  have rowget : ∀ (r : List Int), r ∈ x.next → ∃ j, j < N ∧ r = x.next.getD j [] := by
    intro r hr1
    obtain ⟨j, hj, rfl⟩ := List.getElem_of_mem hr1
    exact ⟨j, by rw [← hr.hn]; exact hj, by simp [List.getD, List.getElem?_eq_getElem hj]⟩
  have hdv : DV ⟨D.cls, x.next, x.tags⟩ N k := by
    refine ⟨hr.hn, hr.ht, hpos, fun r hr1 => ?_, hv.cls⟩
    obtain ⟨j, hj, rfl⟩ := rowget r hr1
    refine ⟨hr.row j hj, fun t ht => ?_⟩
    obtain ⟨c, hc, rfl⟩ := List.getElem_of_mem ht
    have h1 := hr.to j c hj (by rw [← hr.row j hj]; exact hc)
    have e : (x.next.getD j []).getD c 0 = (x.next.getD j [])[c] := by
      generalize x.next.getD j [] = r at *
      simp [List.getD, List.getElem?_eq_getElem hc]
    rw [e] at h1
    rcases h1 with ⟨_, h1⟩ | ⟨_, m, h1, h2, _⟩
    · rw [h1]; omega
    · rw [h1]; rw [hl] at h2; omega
  have heq : ∀ (cs : List Nat) (j : Nat), j < N → behD ⟨D.cls, x.next, x.tags⟩ (j : Nat) cs = behD D (x.states.getD j 0) cs := by
    intro cs
    induction cs with
    | nil =>
      intro j hj
      show tagQ _ (j : Nat) = tagQ D _
      rw [tag_at_nat]
      exact hr.tag j hj
    | cons c cs ih =>
      intro j hj
      rw [beh_cons, beh_cons]
      by_cases hc : c < k
      · have h1 := hr.to j c hj hc
        have e : toD ⟨D.cls, x.next, x.tags⟩ (j : Nat) c = (x.next.getD j []).getD c 0 := by
          rw [to_at]
          show (x.next.getD j []).getD c (-1) = (x.next.getD j []).getD c 0
          have h2 := hr.row j hj
          generalize x.next.getD j [] = r at *
          have : c < r.length := by omega
          simp [List.getD, List.getElem?_eq_getElem this]
        rw [e]
        rcases h1 with ⟨h1, h2⟩ | ⟨_, m, h2, h3, h4⟩
        · rw [h2, beh_neg _ _ (by omega)]
          exact (Decidable.byContradiction fun h => h1 ⟨cs, fun e => h e.symm⟩)
        · rw [h2, ih m (by rw [← hl]; exact h3)]
          exact h4 cs
      · have e1 : toD ⟨D.cls, x.next, x.tags⟩ (j : Nat) c = -1 := by
          rw [to_at]
          show (x.next.getD j []).getD c (-1) = -1
          rw [getD_ge (by rw [hr.row j hj]; omega)]
        have h3 := hr.st.lt _ (getD_mem (show j < x.states.length by omega) 0)
        obtain ⟨p, hp⟩ := Int.eq_ofNat_of_zero_le h3.1
        have e2 : toD D (x.states.getD j 0) c = -1 := by
          rw [hp, to_at, getD_ge (by rw [(hv.rowAt (by omega)).1]; omega)]
        rw [e1, e2, beh_neg _ _ (by omega), beh_neg _ _ (by omega)]
  have hEq : ∀ j, j < N → EqD ⟨D.cls, x.next, x.tags⟩ (j : Nat) D (x.states.getD j 0) := fun j hj cs => heq cs j hj
  have hlive : ∀ j, 0 < j → j < N → LiveD D (x.states.getD j 0) := fun j h1 h2 => hr.st.live j h1 (by omega)
  have hat : ∀ j, j < N → 0 ≤ x.states.getD j 0 ∧ x.states.getD j 0 < n := fun j hj => hr.st.lt _ (getD_mem (by omega) 0)
  have hap : ∀ i j, i < j → j < N → ¬ EqD (⟨D.cls, x.next, x.tags⟩ : Dfa) (i : Nat) ⟨D.cls, x.next, x.tags⟩ (j : Nat) := by
    intro i j hij hj he
    have h1 : EqD D (x.states.getD i 0) D (x.states.getD j 0) := (hEq i (by omega)).symm.trans (he.trans (hEq j hj))
    have h2 := (hb.same _ _ (hat i (by omega)).1 (hat i (by omega)).2 (hat j hj).1 (hat j hj).2 (hlive j (by omega) hj)).2 h1
    have li : i < (x.states.map (blkAt B)).length := by rw [List.length_map]; omega
    have lj : j < (x.states.map (blkAt B)).length := by rw [List.length_map]; omega
    have h3 := List.pairwise_iff_getElem.1 hr.st.nodup i j li lj hij
    rw [List.getElem_map, List.getElem_map] at h3
    rw [List.length_map] at li lj
    have a1 : x.states.getD i 0 = x.states[i] := by simp [List.getD, List.getElem?_eq_getElem li]
    have a2 : x.states.getD j 0 = x.states[j] := by simp [List.getD, List.getElem?_eq_getElem lj]
    rw [a1, a2] at h2
    exact h3 h2
  have hdd : ∀ j c, j < N → c < k → toD ⟨D.cls, x.next, x.tags⟩ (j : Nat) c = -1 ∨ LiveD ⟨D.cls, x.next, x.tags⟩ (toD ⟨D.cls, x.next, x.tags⟩ (j : Nat) c) := by
    intro j c hj hc
    have h1 := hr.to j c hj hc
    have e : toD ⟨D.cls, x.next, x.tags⟩ (j : Nat) c = (x.next.getD j []).getD c 0 := by
      rw [to_at]
      show (x.next.getD j []).getD c (-1) = (x.next.getD j []).getD c 0
      have h2 := hr.row j hj
      generalize x.next.getD j [] = r at *
      have : c < r.length := by omega
      simp [List.getD, List.getElem?_eq_getElem this]
    rw [e]
    rcases h1 with ⟨h1, h2⟩ | ⟨h1, m, h2, h3, h4⟩
    · exact .inl h2
    · refine .inr ?_
      rw [h2]
      exact (hEq m (by omega)).live.2 (h4.live.2 h1)
  refine ⟨N, x.states, hdv, hNn, hl, hEq, by rw [hT]; rfl, fun i j hi hj he => ?_, fun i hi h1 => ?_, rfl, hdd⟩
  · rcases Nat.lt_trichotomy i j with h1 | h1 | h1
    · exact absurd he (hap i j h1 hj)
    · exact h1
    · exact absurd he.symm (hap j i h1 hi)
  · by_cases e : i = 0
    · subst e
      -- state 0 leads to state 1, or else there would be it alone
      refine Classical.byContradiction fun hd => ?_
      have h0 : ¬ LiveD D 0 := by
        have h2 := (hEq 0 hpos).live
        rw [hT] at h2
        exact fun h3 => hd (h2.2 h3)
      -- with a dead beginning nothing is found
      have key : ∀ i, (lround D B i).states = [0] := by
        intro i
        induction i with
        | zero => rfl
        | succ i ih =>
          have hz : (lround D B i).states.getD i 0 = 0 := by
            rw [ih]
            cases i with
            | zero => rfl
            | succ i => rfl
          have hrow : ∀ t ∈ D.next.getD 0 [], ¬ LiveD D t ∧ -1 ≤ t ∧ t < n := by
            intro t ht
            obtain ⟨c, hc, rfl⟩ := List.getElem_of_mem ht
            have h5 := (hv.rowAt hv.pos).1
            have h6 := row_to hv hv.pos (c := c) (by omega)
            rw [List.getElem?_eq_getElem hc] at h6
            have h7 := Option.some.inj h6
            refine ⟨?_, (hv.rowAt hv.pos).2 _ ht⟩
            rw [h7]
            exact dead_step h0 c
          have hl2 : ∀ j, j ≤ (D.next.getD 0 []).length → (lrow B (D.next.getD 0 []) [0] j).1 = [0] := by
            intro j
            induction j with
            | zero => exact fun _ => rfl
            | succ j ihj =>
              intro hj
              simp only [lrow]
              rw [ihj (by omega)]
              have h8 := hrow _ (getD_mem (show j < (D.next.getD 0 []).length by omega) 0)
              unfold plM
              rw [if_pos ((hb.dead _ h8.2.1 h8.2.2).2 h8.1)]
          simp only [lround, hz]
          show (lrow B (D.next.getD 0 []) (lround D B i).states (D.next.getD 0 []).length).1 = [0]
          rw [ih]
          exact hl2 _ (Nat.le_refl _)
      have h9 := key N
      rw [hx] at h9
      rw [h9] at hl
      simp at hl
      omega
    · exact (hEq i hi).live.2 (hlive i (by omega) hi)
theorem least_ok {D : Dfa} {n k : Nat} (hv : DV D n k) (h : n < 100000) : ∃ N S, LeastOk D n k N S (leastM D) := leastOf_ok hv (blocks_bq hv) h
theorem LeastOk.zero {D : Dfa} {n k N : Nat} {S : List Int} {m : Dfa} (h : LeastOk D n k N S m) : EqD m 0 D 0 := by
  have := h.eq 0 h.dv.pos
  rw [h.head] at this
  exact this
theorem least_least {D : Dfa} {n k : Nat} (hv : DV D n k) (h : n < 100000) : leastM (leastM D) = leastM D := by
  obtain ⟨N, S, hm⟩ := least_ok hv h
  exact least_canon hm.dv hv hm.zero hm.cls
end Go.Proofs.YtnenbihmokolpaaGreatDoor

namespace Go.Proofs.YtnenbihmokolpaaGreatDoor set_option linter.unusedVariables false set_option linter.unusedSimpArgs false

/-- Of places the last one, n, is nowhere. -/
def plQ (n i : Nat) : Int := if i < n then i else -1
def toP (D : Dfa) (n i c : Nat) : Nat := if toD D (plQ n i) c < 0 then n else (toD D (plQ n i) c).toNat
def tagP (D : Dfa) (n i : Nat) : Nat := tagQ D (plQ n i)
def ApL (D : Dfa) (n k : Nat) : Nat → Nat → Nat → Prop
  | 0, _, _ => False
  | l + 1, i, j => tagP D n i ≠ tagP D n j ∨ ∃ c, c < k ∧ ApL D n k l (toP D n i c) (toP D n j c)

section
variable {D : Dfa} {n k : Nat} (hv : DV D n k)
theorem plQ_lt (n i : Nat) (h : 0 < n) : -1 ≤ plQ n i ∧ plQ n i < n := by unfold plQ; split <;> omega
include hv in
theorem toP_le (i c : Nat) : toP D n i c ≤ n := by
  have := hv.to_lt (plQ_lt n i hv.pos).2 c
  unfold toP; split <;> omega
include hv in
theorem plQ_toP (i c : Nat) : plQ n (toP D n i c) = toD D (plQ n i) c := by
  have := hv.to_lt (plQ_lt n i hv.pos).2 c
  unfold toP
  split
  · unfold plQ at *; rw [if_neg (by omega)]; omega
  · rw [plQ, if_pos (by omega)]; omega
theorem ApL.mono {l : Nat} : ∀ {i j : Nat}, ApL D n k l i j → ApL D n k (l + 1) i j := by
  induction l with
  | zero => exact fun h => h.elim
  | succ l ih =>
    rintro i j (h | ⟨c, hc, h⟩)
    · exact .inl h
    · exact .inr ⟨c, hc, ih h⟩
theorem ApL.le {l m : Nat} (hlm : l ≤ m) {i j : Nat} (h : ApL D n k l i j) : ApL D n k m i j := by
  induction hlm with
  | refl => exact h
  | step _ ih => exact ih.mono
theorem ApL.symm {l : Nat} : ∀ {i j : Nat}, ApL D n k l i j → ApL D n k l j i := by
  induction l with
  | zero => exact fun h => h
  | succ l ih =>
    rintro i j (h | ⟨c, hc, h⟩)
    · exact .inl (fun e => h e.symm)
    · exact .inr ⟨c, hc, ih h⟩
theorem ApL.irrefl {l : Nat} : ∀ {i : Nat}, ¬ ApL D n k l i i := by
  induction l with
  | zero => exact fun h => h
  | succ l ih =>
    rintro i (h | ⟨c, hc, h⟩)
    · exact h rfl
    · exact ih h
theorem ApL.co {l : Nat} : ∀ {i j : Nat} (m : Nat), ApL D n k l i j → ApL D n k l i m ∨ ApL D n k l m j := by
  induction l with
  | zero => exact fun _ h => h.elim
  | succ l ih =>
    rintro i j m (h | ⟨c, hc, h⟩)
    · by_cases e : tagP D n i = tagP D n m
      · exact .inr (.inl (fun e2 => h (e.trans e2)))
      · exact .inl (.inl e)
    · rcases ih (toP D n m c) h with h | h
      · exact .inl (.inr ⟨c, hc, h⟩)
      · exact .inr (.inr ⟨c, hc, h⟩)
include hv in
theorem eqd_of_not : ∀ (cs : List Nat) (i j : Nat), (∀ l, ¬ ApL D n k l i j) → behD D (plQ n i) cs = behD D (plQ n j) cs := by
  intro cs
  induction cs with
  | nil =>
    intro i j h
    exact Decidable.byContradiction fun e => h 1 (.inl e)
  | cons c cs ih =>
    intro i j h
    rw [beh_cons, beh_cons]
    by_cases hc : c < k
    · rw [← plQ_toP hv, ← plQ_toP hv]
      exact ih _ _ (fun l hl => h (l + 1) (.inr ⟨c, hc, hl⟩))
    · have hn : ∀ i, toD D (plQ n i) c = -1 := by
        intro i
        unfold plQ
        split
        · rename_i hi
          rw [to_at, getD_ge (by rw [(hv.rowAt hi).1]; omega)]
        · exact to_neg D (by decide) c
      rw [hn, hn]

open Classical in
noncomputable def repsL (D : Dfa) (n k l : Nat) : List Nat := (List.range (n + 1)).filter fun i => decide (∀ j, j < i → ApL D n k l j i)
theorem mem_reps {l i : Nat} : i ∈ repsL D n k l ↔ i ≤ n ∧ ∀ j, j < i → ApL D n k l j i := by
  simp only [repsL, List.mem_filter, List.mem_range, decide_eq_true_eq]
  exact ⟨fun h => ⟨by omega, h.2⟩, fun h => ⟨by omega, h.2⟩⟩
theorem reps_nodup (l : Nat) : (repsL D n k l).Nodup := List.Nodup.sublist List.filter_sublist List.nodup_range
theorem reps_of (l : Nat) : ∀ i, i ≤ n → ∃ a, a ∈ repsL D n k l ∧ ¬ ApL D n k l a i := by
  intro i hi
  have : ∀ m, m ≤ i → (∀ j, j < m → ApL D n k l j i) ∨ ∃ a, a ∈ repsL D n k l ∧ ¬ ApL D n k l a i := by
    intro m
    induction m with
    | zero => exact fun _ => .inl (fun j hj => absurd hj (by omega))
    | succ m ih =>
      intro hm
      rcases ih (by omega) with h | h
      · by_cases hmi : ApL D n k l m i
        · exact .inl fun j hj => by
            by_cases e : j = m
            · rw [e]; exact hmi
            · exact h j (by omega)
        · refine .inr ⟨m, mem_reps.2 ⟨by omega, fun j hj => ?_⟩, hmi⟩
          rcases (h j hj).co m with h2 | h2
          · exact h2
          · exact (hmi h2).elim
      · exact .inr h
  rcases this i (Nat.le_refl _) with h | h
  · exact ⟨i, mem_reps.2 ⟨hi, h⟩, ApL.irrefl⟩
  · exact h
theorem reps_more {l i j : Nat} (hi : i ≤ n) (hj : j ≤ n) (h : ApL D n k (l + 1) i j) (hn : ¬ ApL D n k l i j) : (repsL D n k l).length < (repsL D n k (l + 1)).length := by
  have hsub : ∀ x ∈ repsL D n k l, x ∈ repsL D n k (l + 1) := fun x hx => by
    obtain ⟨h1, h2⟩ := mem_reps.1 hx
    exact mem_reps.2 ⟨h1, fun j hj => (h2 j hj).mono⟩
  obtain ⟨x, hx, hxn⟩ : ∃ x, x ∈ repsL D n k (l + 1) ∧ x ∉ repsL D n k l := by
    obtain ⟨a, ha, hai⟩ := reps_of (D := D) (k := k) (l + 1) i hi
    obtain ⟨b, hb, hbj⟩ := reps_of (D := D) (k := k) (l + 1) j hj
    by_cases h1 : a ∈ repsL D n k l
    · by_cases h2 : b ∈ repsL D n k l
      · exfalso
        have hab : ¬ ApL D n k l a b := fun hab => by
          rcases hab.co i with q | q
          · exact hai q.mono
          · rcases q.co j with q | q
            · exact hn q
            · exact hbj q.mono.symm
        rcases Nat.lt_trichotomy a b with e | e | e
        · exact hab ((mem_reps.1 h2).2 a e)
        · subst e
          rcases h.co a with q | q
          · exact hai q.symm
          · exact hbj q
        · exact hab ((mem_reps.1 h1).2 b e).symm
      · exact ⟨b, hb, h2⟩
    · exact ⟨a, ha, h1⟩
  have := nodup_sub_len (l := x :: repsL D n k l) (m := repsL D n k (l + 1)) (List.nodup_cons.2 ⟨hxn, reps_nodup l⟩) (fun y hy => by
    rcases List.mem_cons.1 hy with e | e
    · rw [e]; exact hx
    · exact hsub y e)
  simp at this
  omega
def StableL (D : Dfa) (n k m : Nat) : Prop := ∀ i j, i ≤ n → j ≤ n → ApL D n k (m + 1) i j → ApL D n k m i j
theorem reps_many (l : Nat) : l + 1 ≤ (repsL D n k l).length ∨ ∃ m, m < l ∧ StableL D n k m := by
  induction l with
  | zero => exact .inl (List.length_pos_of_mem (mem_reps.2 ⟨Nat.zero_le _, fun j hj => absurd hj (by omega)⟩))
  | succ l ih =>
    rcases ih with h | ⟨m, h1, h2⟩
    · by_cases hs : StableL D n k l
      · exact .inr ⟨l, by omega, hs⟩
      · simp only [StableL, Classical.not_forall] at hs
        obtain ⟨i, j, hi, hj, h1, h2⟩ := hs
        have := reps_more hi hj h1 h2
        exact .inl (by omega)
    · exact .inr ⟨m, by omega, h2⟩
theorem stable_ex : ∃ m, m ≤ n ∧ StableL D n k m := by
  rcases reps_many (D := D) (n := n) (k := k) (n + 1) with h | ⟨m, h1, h2⟩
  · have := nodup_sub_len (reps_nodup (D := D) (n := n) (k := k) (n + 1)) (m := List.range (n + 1)) (fun x hx => by
      have := (mem_reps.1 hx).1
      simp; omega)
    simp at this
    omega
  · exact ⟨m, by omega, h2⟩
include hv in
theorem stable_all {m : Nat} (hs : StableL D n k m) : ∀ (l i j : Nat), i ≤ n → j ≤ n → ApL D n k l i j → ApL D n k m i j := by
  intro l
  induction l with
  | zero => exact fun _ _ _ _ h => h.elim
  | succ l ih =>
    rintro i j hi hj (h | ⟨c, hc, h⟩)
    · exact hs i j hi hj (.inl h)
    · exact hs i j hi hj (.inr ⟨c, hc, ih _ _ (toP_le hv i c) (toP_le hv j c) h⟩)
include hv in
/-- What is told apart at all is so after n + 2 rounds. -/
theorem apart_by {i j : Nat} (hi : i ≤ n) (hj : j ≤ n) (h : ¬ EqD D (plQ n i) D (plQ n j)) : ApL D n k (n + 2) i j := by
  obtain ⟨m, hm, hs⟩ := stable_ex (D := D) (n := n) (k := k)
  by_cases hl : ∃ l, ApL D n k l i j
  · obtain ⟨l, hl⟩ := hl
    exact (stable_all hv hs l i j hi hj hl).le (by omega)
  · exact (h (fun cs => eqd_of_not hv cs i j (fun l hx => hl ⟨l, hx⟩))).elim
end
end Go.Proofs.YtnenbihmokolpaaGreatDoor
