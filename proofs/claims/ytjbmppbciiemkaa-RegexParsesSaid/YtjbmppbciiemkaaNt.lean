/-
  A machine of regexes accepts just what its regexes match.
-/
import Derived.Test.YtjbmppbciiemkaaNr
import Derived.Test.YtjbmppbciiemkaaNw
namespace Go.Proofs.Ytjbmppbciiemkaa set_option linter.unusedVariables false set_option linter.unusedSimpArgs false

/-- Any number of times. -/
inductive Star (P : List Nat → Prop) : List Nat → Prop where
  | nil : Star P []
  | cons (a b : List Nat) (ha : P a) (hb : Star P b) : Star P (a ++ b)

mutual
/-- What a regex matches. -/
def Rx.lang : Rx → List Nat → Prop
  | .mk kind b0 b1 b2 b3 kids, s =>
    if kind = 0 then s = [] else if kind = 1 then ∃ b, s = [b] ∧ Rx.has (.mk kind b0 b1 b2 b3 []) b = true
    else if kind = 2 then catL kids s else if kind = 3 then altL kids s else if kind = 4 then Star (fun t => headL kids t) s else False
def catL : List Rx → List Nat → Prop
  | [], s => s = []
  | k :: ks, s => ∃ a b, s = a ++ b ∧ Rx.lang k a ∧ catL ks b
def altL : List Rx → List Nat → Prop
  | [], _ => False
  | k :: ks, s => Rx.lang k s ∨ altL ks s
def headL : List Rx → List Nat → Prop
  | [], _ => False
  | k :: _, s => Rx.lang k s
end
theorem has_kids (kind : Int) (b0 b1 b2 b3 : Nat) (k1 k2 : List Rx) (b : Nat) : Rx.has (.mk kind b0 b1 b2 b3 k1) b = Rx.has (.mk kind b0 b1 b2 b3 k2) b := rfl
theorem has_zero (b : Nat) : Rx.has Rx.zero b = false := rfl

/-- A state with ways by nothing alone, of no number. -/
def Only (G : List St) (i : Nat) (en : List Nat) : Prop := ∃ s, G[i]? = some s ∧ s.free = en ∧ s.bytes = Rx.zero ∧ s.tag = -1
mutual
/-- How a regex lies in a machine: where it ends, where it is entered. -/
def Shape (G : List St) : Rx → Nat → List Nat → Prop
  | .mk kind b0 b1 b2 b3 kids, fin, en =>
    if kind = 0 then en = [fin]
    else if kind = 1 then ∃ a s, en = [a] ∧ G[a]? = some s ∧ s.free = [] ∧ s.bytes = .mk kind b0 b1 b2 b3 kids ∧ s.to = fin ∧ s.tag = -1
    else if kind = 2 then ShapeCat G kids fin en
    else if kind = 3 then ShapeAlt G kids fin en
    else if kind = 4 then ∃ p, en = [p] ∧ ShapeStar G kids p fin
    else en = []
def ShapeCat (G : List St) : List Rx → Nat → List Nat → Prop
  | [], fin, en => en = [fin]
  | k :: ks, fin, en => ∃ f en', Shape G k f en ∧ Only G f en' ∧ ShapeCat G ks fin en'
def ShapeAlt (G : List St) : List Rx → Nat → List Nat → Prop
  | [], _, en => en = []
  | k :: ks, fin, en => ∃ f e1 e2, en = e1 ++ e2 ∧ Shape G k f e1 ∧ Only G f [fin] ∧ ShapeAlt G ks fin e2
def ShapeStar (G : List St) : List Rx → Nat → Nat → Prop
  | [], p, fin => Only G p [fin]
  | k :: _, p, fin => ∃ f e1, Shape G k f e1 ∧ Only G p (fin :: e1) ∧ Only G f [p]
end

/-- From a state to another one, in n moves. -/
inductive Moves (G : List St) (t : Nat) : Nat → Nat → List Nat → Prop where
  | here : Moves G t 0 t []
  | free (n i j : Nat) (s : List Nat) (hj : j ∈ freeOf G i) (h : Moves G t n j s) : Moves G t (n + 1) i s
  | byte (n i b j : Nat) (s : List Nat) (st : St) (hs : G[i]? = some st) (hb : st.bytes.has b = true) (ht : st.to = j) (h : Moves G t n j s) : Moves G t (n + 1) i (b :: s)

/-- From a state with ways by nothing alone one goes on by one of them. -/
theorem Moves.only {G : List St} {t n i : Nat} {en s : List Nat} (h : Moves G t n i s) (ho : Only G i en) (ht : i ≠ t) : ∃ j m, j ∈ en ∧ n = m + 1 ∧ Moves G t m j s := by
  obtain ⟨st, h1, h2, h3, _⟩ := ho
  cases h with
  | here => exact absurd rfl ht
  | free n i j s hj h => rw [freeOf_some h1, h2] at hj; exact ⟨j, n, hj, rfl, h⟩
  | byte n i b j s st' hs hb _ h =>
    rw [h1] at hs
    cases hs
    rw [h3] at hb
    simp [has_zero] at hb
theorem Moves.of_only {G : List St} {t i j : Nat} {en s : List Nat} (ho : Only G i en) (hj : j ∈ en) (h : ∃ n, Moves G t n j s) : ∃ n, Moves G t n i s := by
  obtain ⟨st, h1, h2, _⟩ := ho
  obtain ⟨n, h⟩ := h
  exact ⟨n + 1, .free n i j s (by rw [freeOf_some h1, h2]; exact hj) h⟩
theorem Only.ne {G : List St} {t i : Nat} {en : List Nat} {st : St} (ho : Only G i en) (ht : G[t]? = some st) (h0 : 0 ≤ st.tag) : i ≠ t := by
  obtain ⟨s, h1, _, _, h4⟩ := ho
  intro e
  subst e
  rw [h1] at ht
  cases ht
  omega

section
variable {G : List St} {t : Nat} {st : St} (ht : G[t]? = some st) (h0 : 0 ≤ st.tag)
include ht h0
mutual
theorem shape_sound : ∀ (r : Rx) (fin : Nat) (en : List Nat), Shape G r fin en → ∀ n s e, e ∈ en → Moves G t n e s → ∃ a b m, s = a ++ b ∧ m ≤ n ∧ r.lang a ∧ Moves G t m fin b
  | .mk kind b0 b1 b2 b3 kids, fin, en, hs, n, s, e, he, hm => by
    simp only [Shape] at hs
    simp only [Rx.lang]
    split at hs
    · subst hs
      rename_i hk
      simp only [hk, if_true]
      simp at he; subst he
      exact ⟨[], s, n, rfl, Nat.le_refl _, rfl, hm⟩
    · rename_i k0
      simp only [k0, if_false]
      split at hs
      · rename_i hk
        simp only [hk, if_true]
        obtain ⟨a, x, rfl, h1, h2, h3, h4, h5⟩ := hs
        simp at he; subst he
        have hne : e ≠ t := fun e => by
          subst e
          rw [h1] at ht
          cases ht
          omega
        cases hm with
        | here => exact absurd rfl hne
        | free n i j s hj h => rw [freeOf_some h1, h2] at hj; simp at hj
        | byte n i b j s x' hx hb hto h =>
          rw [h1] at hx
          cases hx
          have : j = fin := by omega
          subst this
          rw [h3] at hb
          subst hk
          exact ⟨[b], s, n, rfl, by omega, ⟨b, rfl, hb⟩, h⟩
      · rename_i k1
        simp only [k1, if_false]
        split at hs
        · rename_i hk
          simp only [hk, if_true]
          exact shapeCat_sound kids fin en hs n s e he hm
        · rename_i k2
          simp only [k2, if_false]
          split at hs
          · rename_i hk
            simp only [hk, if_true]
            exact shapeAlt_sound kids fin en hs n s e he hm
          · rename_i k3
            simp only [k3, if_false]
            split at hs
            · rename_i hk
              simp only [hk, if_true]
              obtain ⟨p, rfl, hp⟩ := hs
              simp at he; subst he
              exact shapeStar_sound kids e fin hp n s hm
            · rename_i k4
              subst hs
              simp at he
theorem shapeCat_sound : ∀ (ks : List Rx) (fin : Nat) (en : List Nat), ShapeCat G ks fin en → ∀ n s e, e ∈ en → Moves G t n e s → ∃ a b m, s = a ++ b ∧ m ≤ n ∧ catL ks a ∧ Moves G t m fin b
  | [], fin, en, hs, n, s, e, he, hm => by
    simp only [ShapeCat] at hs
    subst hs
    simp at he; subst he
    exact ⟨[], s, n, rfl, Nat.le_refl _, by simp only [catL], hm⟩
  | k :: ks, fin, en, hs, n, s, e, he, hm => by
    simp only [ShapeCat] at hs
    obtain ⟨f, en', h1, h2, h3⟩ := hs
    obtain ⟨a, b, m, rfl, hmn, ha, hb⟩ := shape_sound k f en h1 n s e he hm
    obtain ⟨j, m', hj, rfl, hb'⟩ := hb.only h2 (h2.ne ht h0)
    obtain ⟨a', b', m2, rfl, hm2, ha', hb2⟩ := shapeCat_sound ks fin en' h3 m' b j hj hb'
    exact ⟨a ++ a', b', m2, by simp, by omega, by simp only [catL]; exact ⟨a, a', rfl, ha, ha'⟩, hb2⟩
theorem shapeAlt_sound : ∀ (ks : List Rx) (fin : Nat) (en : List Nat), ShapeAlt G ks fin en → ∀ n s e, e ∈ en → Moves G t n e s → ∃ a b m, s = a ++ b ∧ m ≤ n ∧ altL ks a ∧ Moves G t m fin b
  | [], fin, en, hs, n, s, e, he, hm => by
    simp only [ShapeAlt] at hs
    subst hs
    simp at he
  | k :: ks, fin, en, hs, n, s, e, he, hm => by
    simp only [ShapeAlt] at hs
    obtain ⟨f, e1, e2, rfl, h1, h2, h3⟩ := hs
    simp only [altL]
    rcases List.mem_append.1 he with he | he
    · obtain ⟨a, b, m, rfl, hmn, ha, hb⟩ := shape_sound k f e1 h1 n s e he hm
      obtain ⟨j, m', hj, rfl, hb'⟩ := hb.only h2 (h2.ne ht h0)
      simp at hj; subst hj
      exact ⟨a, b, m', rfl, by omega, .inl ha, hb'⟩
    · obtain ⟨a, b, m, rfl, hmn, ha, hb⟩ := shapeAlt_sound ks fin e2 h3 n s e he hm
      exact ⟨a, b, m, rfl, hmn, .inr ha, hb⟩
theorem shapeStar_sound : ∀ (ks : List Rx) (p fin : Nat), ShapeStar G ks p fin → ∀ n s, Moves G t n p s → ∃ a b m, s = a ++ b ∧ m ≤ n ∧ Star (fun u => headL ks u) a ∧ Moves G t m fin b
  | [], p, fin, hs, n, s, hm => by
    simp only [ShapeStar] at hs
    obtain ⟨j, m', hj, rfl, hb'⟩ := hm.only hs (hs.ne ht h0)
    simp at hj; subst hj
    exact ⟨[], s, m', rfl, by omega, .nil, hb'⟩
  | k :: ks, p, fin, hs, n, s, hm => by
    simp only [ShapeStar] at hs
    obtain ⟨f, e1, h1, h2, h3⟩ := hs
    have ih := shape_sound k f e1 h1
    have key : ∀ N n s, n ≤ N → Moves G t n p s → ∃ a b m, s = a ++ b ∧ m ≤ n ∧ Star (fun u => headL (k :: ks) u) a ∧ Moves G t m fin b := by
      intro N
      induction N with
      | zero =>
        intro n s hn hm
        obtain ⟨j, m', hj, rfl, hb'⟩ := hm.only h2 (h2.ne ht h0)
        omega
      | succ N ihN =>
        intro n s hn hm
        obtain ⟨j, m', hj, rfl, hb'⟩ := hm.only h2 (h2.ne ht h0)
        rcases List.mem_cons.1 hj with rfl | hj
        · exact ⟨[], s, m', rfl, by omega, .nil, hb'⟩
        · obtain ⟨a, b, m, rfl, hmn, ha, hb⟩ := ih m' s j hj hb'
          obtain ⟨j2, m2, hj2, rfl, hb2⟩ := hb.only h3 (h3.ne ht h0)
          simp at hj2; subst hj2
          obtain ⟨a3, b3, m3, rfl, hm3, ha3, hb3⟩ := ihN m2 b (by omega) hb2
          exact ⟨a ++ a3, b3, m3, by simp, by omega, .cons a a3 (by simp only [headL]; exact ha) ha3, hb3⟩
    exact key n n s (Nat.le_refl _) hm
end
end

section
variable {G : List St} {t : Nat}
mutual
theorem shape_complete : ∀ (r : Rx) (fin : Nat) (en : List Nat), Shape G r fin en → ∀ a b, r.lang a → (∃ n, Moves G t n fin b) → ∃ e ∈ en, ∃ n, Moves G t n e (a ++ b)
  | .mk kind b0 b1 b2 b3 kids, fin, en, hs, a, b, ha, hb => by
    simp only [Shape] at hs
    simp only [Rx.lang] at ha
    split at hs
    · rename_i hk
      simp only [hk, if_true] at ha
      subst hs; subst ha
      exact ⟨fin, by simp, hb⟩
    · rename_i k0
      simp only [k0, if_false] at ha
      split at hs
      · rename_i hk
        simp only [hk, if_true] at ha
        obtain ⟨e, x, rfl, h1, h2, h3, h4, h5⟩ := hs
        obtain ⟨c, rfl, hc⟩ := ha
        obtain ⟨n, hb⟩ := hb
        subst hk
        exact ⟨e, by simp, n + 1, .byte n e c fin b x h1 (by rw [h3]; exact hc) h4 hb⟩
      · rename_i k1
        simp only [k1, if_false] at ha
        split at hs
        · rename_i hk
          simp only [hk, if_true] at ha
          exact shapeCat_complete kids fin en hs a b ha hb
        · rename_i k2
          simp only [k2, if_false] at ha
          split at hs
          · rename_i hk
            simp only [hk, if_true] at ha
            exact shapeAlt_complete kids fin en hs a b ha hb
          · rename_i k3
            simp only [k3, if_false] at ha
            split at hs
            · rename_i hk
              simp only [hk, if_true] at ha
              obtain ⟨p, rfl, hp⟩ := hs
              exact ⟨p, by simp, shapeStar_complete kids p fin hp a b ha hb⟩
            · rename_i k4
              simp only [k4, if_false] at ha
theorem shapeCat_complete : ∀ (ks : List Rx) (fin : Nat) (en : List Nat), ShapeCat G ks fin en → ∀ a b, catL ks a → (∃ n, Moves G t n fin b) → ∃ e ∈ en, ∃ n, Moves G t n e (a ++ b)
  | [], fin, en, hs, a, b, ha, hb => by
    simp only [ShapeCat] at hs
    simp only [catL] at ha
    subst hs; subst ha
    exact ⟨fin, by simp, hb⟩
  | k :: ks, fin, en, hs, a, b, ha, hb => by
    simp only [ShapeCat] at hs
    simp only [catL] at ha
    obtain ⟨f, en', h1, h2, h3⟩ := hs
    obtain ⟨a1, a2, rfl, ha1, ha2⟩ := ha
    obtain ⟨e, he, hm⟩ := shapeCat_complete ks fin en' h3 a2 b ha2 hb
    rw [List.append_assoc]
    exact shape_complete k f en h1 a1 (a2 ++ b) ha1 (Moves.of_only h2 he hm)
theorem shapeAlt_complete : ∀ (ks : List Rx) (fin : Nat) (en : List Nat), ShapeAlt G ks fin en → ∀ a b, altL ks a → (∃ n, Moves G t n fin b) → ∃ e ∈ en, ∃ n, Moves G t n e (a ++ b)
  | [], fin, en, hs, a, b, ha, hb => by simp only [altL] at ha
  | k :: ks, fin, en, hs, a, b, ha, hb => by
    simp only [ShapeAlt] at hs
    simp only [altL] at ha
    obtain ⟨f, e1, e2, rfl, h1, h2, h3⟩ := hs
    rcases ha with ha | ha
    · obtain ⟨e, he, hm⟩ := shape_complete k f e1 h1 a b ha (Moves.of_only h2 (by simp) hb)
      exact ⟨e, List.mem_append_left _ he, hm⟩
    · obtain ⟨e, he, hm⟩ := shapeAlt_complete ks fin e2 h3 a b ha hb
      exact ⟨e, List.mem_append_right _ he, hm⟩
theorem shapeStar_complete : ∀ (ks : List Rx) (p fin : Nat), ShapeStar G ks p fin → ∀ a b, Star (fun u => headL ks u) a → (∃ n, Moves G t n fin b) → ∃ n, Moves G t n p (a ++ b)
  | [], p, fin, hs, a, b, ha, hb => by
    simp only [ShapeStar] at hs
    have : a = [] := by
      cases ha with
      | nil => rfl
      | cons x y hx hy => simp only [headL] at hx
    subst this
    exact Moves.of_only hs (by simp) hb
  | k :: ks, p, fin, hs, a, b, ha, hb => by
    simp only [ShapeStar] at hs
    obtain ⟨f, e1, h1, h2, h3⟩ := hs
    have ih := shape_complete k f e1 h1
    induction ha with
    | nil => exact Moves.of_only h2 (by simp) hb
    | cons x y hx hy ihs =>
      simp only [headL] at hx
      obtain ⟨e, he, hm⟩ := ih x (y ++ b) hx (Moves.of_only h3 (by simp) ihs)
      rw [List.append_assoc]
      exact Moves.of_only h2 (List.mem_cons_of_mem _ he) hm
end
end

/-! ### What is laid has that shape. -/
section
variable {G H : List St} (h : ∀ (i : Nat) (s : St), G[i]? = some s → s.tag = -1 → H[i]? = some s)
include h
theorem Only.move {i : Nat} {en : List Nat} (ho : Only G i en) : Only H i en := by
  obtain ⟨s, g1, g2, g3, g4⟩ := ho
  exact ⟨s, h i s g1 g4, g2, g3, g4⟩
mutual
theorem shape_move : ∀ (r : Rx) (fin : Nat) (en : List Nat), Shape G r fin en → Shape H r fin en
  | .mk kind b0 b1 b2 b3 kids, fin, en, hs => by
    simp only [Shape] at hs ⊢
    by_cases k0 : kind = 0
    · simp only [k0, if_true] at hs ⊢
      exact hs
    · simp only [k0, if_false] at hs ⊢
      by_cases k1 : kind = 1
      · simp only [k1, if_true] at hs ⊢
        obtain ⟨a, s, h1, h2, h3, h4, h5, h6⟩ := hs
        exact ⟨a, s, h1, h a s h2 h6, h3, h4, h5, h6⟩
      · simp only [k1, if_false] at hs ⊢
        by_cases k2 : kind = 2
        · simp only [k2, if_true] at hs ⊢
          exact shapeCat_move kids fin en hs
        · simp only [k2, if_false] at hs ⊢
          by_cases k3 : kind = 3
          · simp only [k3, if_true] at hs ⊢
            exact shapeAlt_move kids fin en hs
          · simp only [k3, if_false] at hs ⊢
            by_cases k4 : kind = 4
            · simp only [k4, if_true] at hs ⊢
              obtain ⟨p, h1, h2⟩ := hs
              exact ⟨p, h1, shapeStar_move kids p fin h2⟩
            · simp only [k4, if_false] at hs ⊢
              exact hs
theorem shapeCat_move : ∀ (ks : List Rx) (fin : Nat) (en : List Nat), ShapeCat G ks fin en → ShapeCat H ks fin en
  | [], fin, en, hs => by simpa only [ShapeCat] using hs
  | k :: ks, fin, en, hs => by
    simp only [ShapeCat] at hs ⊢
    obtain ⟨f, en', h1, h2, h3⟩ := hs
    exact ⟨f, en', shape_move k f en h1, h2.move h, shapeCat_move ks fin en' h3⟩
theorem shapeAlt_move : ∀ (ks : List Rx) (fin : Nat) (en : List Nat), ShapeAlt G ks fin en → ShapeAlt H ks fin en
  | [], fin, en, hs => by simpa only [ShapeAlt] using hs
  | k :: ks, fin, en, hs => by
    simp only [ShapeAlt] at hs ⊢
    obtain ⟨f, e1, e2, h0, h1, h2, h3⟩ := hs
    exact ⟨f, e1, e2, h0, shape_move k f e1 h1, h2.move h, shapeAlt_move ks fin e2 h3⟩
theorem shapeStar_move : ∀ (ks : List Rx) (p fin : Nat), ShapeStar G ks p fin → ShapeStar H ks p fin
  | [], p, fin, hs => by
    simp only [ShapeStar] at hs ⊢
    exact hs.move h
  | k :: ks, p, fin, hs => by
    simp only [ShapeStar] at hs ⊢
    obtain ⟨f, e1, h1, h2, h3⟩ := hs
    exact ⟨f, e1, shape_move k f e1 h1, h2.move h, h3.move h⟩
end
end

theorem freeM_at {l : List St} {i to : Nat} {s : St} (h : l[i]? = some s) : (freeM l i to)[i]? = some { s with free := s.free ++ [to] } := by
  simp [freeM, List.getElem?_modify, h]
theorem freeM_ne {l : List St} {i to j : Nat} (h : j ≠ i) : (freeM l i to)[j]? = l[j]? := by
  have : ¬ i = j := fun e => h e.symm
  simp [freeM, List.getElem?_modify, this]
theorem bytesM_at {l : List St} {i to : Nat} {r : Rx} {s : St} (h : l[i]? = some s) : (bytesM l i r to)[i]? = some { s with bytes := r, to := to } := by
  simp [bytesM, List.getElem?_modify, h]
theorem bytesM_ne {l : List St} {i to j : Nat} {r : Rx} (h : j ≠ i) : (bytesM l i r to)[j]? = l[j]? := by
  have : ¬ i = j := fun e => h e.symm
  simp [bytesM, List.getElem?_modify, this]
theorem tagM_at {l : List St} {i tag : Nat} {s : St} (h : l[i]? = some s) : (tagM l i tag)[i]? = some { s with tag := tag } := by
  simp [tagM, List.getElem?_modify, h]
theorem tagM_ne {l : List St} {i tag j : Nat} (h : j ≠ i) : (tagM l i tag)[j]? = l[j]? := by
  have : ¬ i = j := fun e => h e.symm
  simp [tagM, List.getElem?_modify, this]
theorem snoc_lt {l : List St} {x : St} {i : Nat} (h : i < l.length) : (l ++ [x])[i]? = l[i]? := List.getElem?_append_left h
theorem snoc_at {l : List St} {x : St} : (l ++ [x])[l.length]? = some x := by simp

/-- Something laid into a machine from a state on: which ways more that has; what is as it was; no number is given. -/
structure Laid (l l' : List St) (from_ : Nat) (en : List Nat) : Prop where
  len : l.length ≤ l'.length
  at_ : ∀ s, l[from_]? = some s → l'[from_]? = some { s with free := s.free ++ en }
  old : ∀ i, i ≠ from_ → i < l.length → l'[i]? = l[i]?
  fresh : ∀ i s, l.length ≤ i → l'[i]? = some s → s.tag = -1
theorem lt_of_some {l : List St} {i : Nat} {s : St} (h : l[i]? = some s) : i < l.length := (List.getElem?_eq_some_iff.1 h).1
/-- G is l from lo on. -/
def Same (G l : List St) (lo : Nat) : Prop := ∀ i, lo ≤ i → i < l.length → G[i]? = l[i]?

mutual
theorem layM_shape : ∀ (r : Rx) (l : List St) (from_ : Nat), from_ < l.length → ∃ en, Laid l (layM r l from_).1 from_ en ∧ (layM r l from_).1[l.length]? = some St.none ∧
    ∀ G, Same G (layM r l from_).1 (l.length + 1) → Shape G r l.length en
  | .mk kind b0 b1 b2 b3 kids, l, from_, hf => by
    have hl1 : (l ++ [St.none]).length = l.length + 1 := by simp
    simp only [layM, Shape]
    by_cases k0 : kind = 0
    · simp only [k0, if_true]
      refine ⟨[l.length], ⟨by simp [freeM_length], fun s hs => freeM_at (by rw [snoc_lt hf]; exact hs), fun i hi hlt => by rw [freeM_ne hi, snoc_lt hlt], fun i s hi hs => ?_⟩, ?_, ?_⟩
      · have := lt_of_some hs
        rw [freeM_length, hl1] at this
        obtain rfl : i = l.length := by omega
        rw [freeM_ne (by omega), snoc_at] at hs
        cases hs; rfl
      · rw [freeM_ne (by omega), snoc_at]
      · intro G hG; trivial
    · simp only [k0, if_false]
      by_cases k1 : kind = 1
      · simp only [k1, if_true]
        have hl2 : (l ++ [St.none] ++ [St.none]).length = l.length + 2 := by simp
        have hat : (bytesM (freeM (l ++ [St.none] ++ [St.none]) from_ (l ++ [St.none]).length) (l ++ [St.none]).length (.mk 1 b0 b1 b2 b3 kids) l.length)[l.length + 1]? = some { St.none with bytes := .mk 1 b0 b1 b2 b3 kids, to := l.length } := by
          rw [hl1]
          exact bytesM_at (by rw [freeM_ne (by omega), ← hl1, snoc_at])
        refine ⟨[l.length + 1], ⟨by simp [freeM_length, bytesM_length], fun s hs => ?_, fun i hi hlt => ?_, fun i s hi hs => ?_⟩, ?_, ?_⟩
        · rw [bytesM_ne (by omega), freeM_at (s := s) (by rw [snoc_lt (by omega), snoc_lt hf]; exact hs), hl1]
        · rw [bytesM_ne (by omega), freeM_ne hi, snoc_lt (by omega), snoc_lt hlt]
        · have := lt_of_some hs
          rw [bytesM_length, freeM_length, hl2] at this
          by_cases hi1 : i = l.length + 1
          · subst hi1
            rw [hat] at hs
            cases hs; rfl
          · obtain rfl : i = l.length := by omega
            rw [bytesM_ne (by omega), freeM_ne (by omega), snoc_lt (by omega), snoc_at] at hs
            cases hs; rfl
        · rw [bytesM_ne (by omega), freeM_ne (by omega), snoc_lt (by omega), snoc_at]
        · intro G hG
          refine ⟨l.length + 1, _, rfl, (hG _ (Nat.le_refl _) (by rw [bytesM_length, freeM_length, hl2]; omega)).trans hat, rfl, rfl, rfl, rfl⟩
      · simp only [k1, if_false]
        by_cases k2 : kind = 2
        · simp only [k2, if_true]
          obtain ⟨en, hL, hS⟩ := catM_shape kids (l ++ [St.none]) from_ l.length (by omega)
          refine ⟨en, ⟨by have := hL.len; omega, fun s hs => hL.at_ s (by rw [snoc_lt hf]; exact hs), fun i hi hlt => by rw [hL.old i hi (by omega), snoc_lt hlt], fun i s hi hs => ?_⟩, ?_, fun G hG => hS G (by rw [hl1]; exact hG)⟩
          · by_cases hi1 : i = l.length
            · subst hi1
              rw [hL.old _ (by omega) (by omega), snoc_at] at hs
              cases hs; rfl
            · exact hL.fresh i s (by omega) hs
          · rw [hL.old _ (by omega) (by omega), snoc_at]
        · simp only [k2, if_false]
          by_cases k3 : kind = 3
          · simp only [k3, if_true]
            obtain ⟨en, hL, hS⟩ := altM_shape kids (l ++ [St.none]) from_ l.length (by omega)
            refine ⟨en, ⟨by have := hL.len; omega, fun s hs => hL.at_ s (by rw [snoc_lt hf]; exact hs), fun i hi hlt => by rw [hL.old i hi (by omega), snoc_lt hlt], fun i s hi hs => ?_⟩, ?_, fun G hG => hS G (by rw [hl1]; exact hG)⟩
            · by_cases hi1 : i = l.length
              · subst hi1
                rw [hL.old _ (by omega) (by omega), snoc_at] at hs
                cases hs; rfl
              · exact hL.fresh i s (by omega) hs
            · rw [hL.old _ (by omega) (by omega), snoc_at]
          · simp only [k3, if_false]
            by_cases k4 : kind = 4
            · simp only [k4, if_true]
              have hl2 : (freeM (freeM (l ++ [St.none] ++ [St.none]) from_ (l ++ [St.none]).length) (l ++ [St.none]).length l.length).length = l.length + 2 := by simp [freeM_length]
              obtain ⟨en, hL, hS⟩ := headM_shape kids (freeM (freeM (l ++ [St.none] ++ [St.none]) from_ (l ++ [St.none]).length) (l ++ [St.none]).length l.length) (l ++ [St.none]).length (by omega)
              have hloop := hL.at_ _ (freeM_at (to := l.length) (by rw [freeM_ne (by omega)]; exact snoc_at))
              refine ⟨[(l ++ [St.none]).length], ⟨by have := hL.len; omega, fun s hs => ?_, fun i hi hlt => ?_, fun i s hi hs => ?_⟩, ?_, fun G hG => ?_⟩
              · rw [hL.old _ (by omega) (by omega), freeM_ne (by omega)]
                exact freeM_at (by rw [snoc_lt (by omega), snoc_lt hf]; exact hs)
              · rw [hL.old _ (by omega) (by omega), freeM_ne (by omega), freeM_ne hi, snoc_lt (by omega), snoc_lt hlt]
              · by_cases hi2 : i < l.length + 2
                · by_cases hi1 : i = l.length
                  · subst hi1
                    rw [hL.old _ (by omega) (by omega), freeM_ne (by omega), freeM_ne (by omega), snoc_lt (by omega), snoc_at] at hs
                    cases hs; rfl
                  · obtain rfl : i = (l ++ [St.none]).length := by omega
                    rw [hloop] at hs
                    cases hs; rfl
                · exact hL.fresh i s (by omega) hs
              · rw [hL.old _ (by omega) (by omega), freeM_ne (by omega), freeM_ne (by omega), snoc_lt (by omega), snoc_at]
              · refine ⟨_, rfl, hS G (fun i hi hlt => hG i (by omega) hlt) l.length ⟨_, (hG _ (by omega) (by have := hL.len; omega)).trans hloop, rfl, rfl, rfl⟩⟩
            · simp only [k4, if_false]
              refine ⟨[], ⟨by simp, fun s hs => by rw [snoc_lt hf, hs]; simp, fun i hi hlt => snoc_lt hlt, fun i s hi hs => ?_⟩, snoc_at, fun _ _ => rfl⟩
              have := lt_of_some hs
              obtain rfl : i = l.length := by omega
              rw [snoc_at] at hs
              cases hs; rfl
theorem catM_shape : ∀ (ks : List Rx) (l : List St) (from_ fin : Nat), from_ < l.length → ∃ en, Laid l (freeM (catM ks l from_).1 (catM ks l from_).2 fin) from_ en ∧
    ∀ G, Same G (freeM (catM ks l from_).1 (catM ks l from_).2 fin) l.length → ShapeCat G ks fin en
  | [], l, from_, fin, hf => by
    simp only [catM, ShapeCat]
    refine ⟨[fin], ⟨by simp [freeM_length], fun s hs => freeM_at hs, fun i hi _ => freeM_ne hi, fun i s hi hs => ?_⟩, fun _ _ => rfl⟩
    have := lt_of_some hs
    rw [freeM_length] at this
    omega
  | k :: ks, l, from_, fin, hf => by
    have hk := layM_facts k l from_
    obtain ⟨en, hL, hfin, hS⟩ := layM_shape k l from_ hf
    simp only [catM, ShapeCat]
    rw [hk.2.2.1]
    obtain ⟨en', hL', hS'⟩ := catM_shape ks (layM k l from_).1 l.length fin (by omega)
    have hl' := hL'.len
    have hf' := hL'.at_ _ hfin
    refine ⟨en, ⟨by omega, fun s hs => ?_, fun i hi hlt => ?_, fun i s hi hs => ?_⟩, fun G hG => ⟨l.length, en', ?_, ⟨_, (hG _ (Nat.le_refl _) (by omega)).trans hf', rfl, rfl, rfl⟩, hS' G (fun i hi hlt => hG i (by omega) hlt)⟩⟩
    · rw [hL'.old _ (by omega) (by omega)]
      exact hL.at_ s hs
    · rw [hL'.old _ (by omega) (by omega)]
      exact hL.old i hi hlt
    · by_cases hi1 : i = l.length
      · subst hi1
        rw [hf'] at hs
        cases hs; rfl
      · by_cases hi2 : i < (layM k l from_).1.length
        · rw [hL'.old _ hi1 hi2] at hs
          exact hL.fresh i s hi hs
        · exact hL'.fresh i s (by omega) hs
    · exact hS G (fun i hi hlt => by rw [hG i (by omega) (by omega), hL'.old _ (by omega) hlt])
theorem altM_shape : ∀ (ks : List Rx) (l : List St) (from_ fin : Nat), from_ < l.length → ∃ en, Laid l (altM ks l from_ fin) from_ en ∧
    ∀ G, Same G (altM ks l from_ fin) l.length → ShapeAlt G ks fin en
  | [], l, from_, fin, hf => by
    simp only [altM, ShapeAlt]
    refine ⟨[], ⟨Nat.le_refl _, fun s hs => by simpa using hs, fun _ _ _ => rfl, fun i s hi hs => ?_⟩, fun _ _ => rfl⟩
    have := lt_of_some hs
    omega
  | k :: ks, l, from_, fin, hf => by
    have hk := layM_facts k l from_
    obtain ⟨en, hL, hfin, hS⟩ := layM_shape k l from_ hf
    simp only [altM, ShapeAlt]
    rw [hk.2.2.1]
    obtain ⟨en', hL', hS'⟩ := altM_shape ks (freeM (layM k l from_).1 l.length fin) from_ fin (by rw [freeM_length]; omega)
    have hl' := hL'.len
    have hold := hL'.old
    have hfresh := hL'.fresh
    rw [freeM_length] at hl' hfresh
    rw [freeM_length] at hold
    have hf' := (hold l.length (by omega) (by omega)).trans (freeM_at hfin)
    refine ⟨en ++ en', ⟨by omega, fun s hs => ?_, fun i hi hlt => ?_, fun i s hi hs => ?_⟩, fun G hG => ⟨l.length, en, en', rfl, ?_, ⟨_, (hG _ (Nat.le_refl _) (by omega)).trans hf', rfl, rfl, rfl⟩, hS' G (fun i hi hlt => hG i (by rw [freeM_length] at hi; omega) hlt)⟩⟩
    · have := hL'.at_ _ ((freeM_ne (by omega)).trans (hL.at_ s hs))
      simpa [List.append_assoc] using this
    · rw [hold i hi (by omega), freeM_ne (by omega)]
      exact hL.old i hi hlt
    · by_cases hi1 : i = l.length
      · subst hi1
        rw [hf'] at hs
        cases hs; rfl
      · by_cases hi2 : i < (layM k l from_).1.length
        · rw [hold i (by omega) hi2, freeM_ne hi1] at hs
          exact hL.fresh i s hi hs
        · exact hfresh i s (by omega) hs
    · exact hS G (fun i hi hlt => by rw [hG i (by omega) (by omega), hold i (by omega) hlt, freeM_ne (by omega)])
theorem headM_shape : ∀ (ks : List Rx) (l : List St) (p : Nat), p < l.length → ∃ en, Laid l (headM ks l p) p en ∧
    ∀ G, Same G (headM ks l p) l.length → ∀ fin, Only G p ([fin] ++ en) → ShapeStar G ks p fin
  | [], l, p, hf => by
    simp only [headM, ShapeStar]
    refine ⟨[], ⟨Nat.le_refl _, fun s hs => by simpa using hs, fun _ _ _ => rfl, fun i s hi hs => ?_⟩, fun _ _ fin h => by simpa using h⟩
    have := lt_of_some hs
    omega
  | k :: ks, l, p, hf => by
    have hk := layM_facts k l p
    obtain ⟨en, hL, hfin, hS⟩ := layM_shape k l p hf
    simp only [headM, ShapeStar]
    rw [hk.2.2.1]
    have hf' := freeM_at (to := p) hfin
    refine ⟨en, ⟨by rw [freeM_length]; omega, fun s hs => ?_, fun i hi hlt => ?_, fun i s hi hs => ?_⟩, fun G hG fin ho => ⟨l.length, en, ?_, by simpa using ho, ⟨_, (hG _ (Nat.le_refl _) (by rw [freeM_length]; omega)).trans hf', rfl, rfl, rfl⟩⟩⟩
    · rw [freeM_ne (by omega)]
      exact hL.at_ s hs
    · rw [freeM_ne (by omega)]
      exact hL.old i hi hlt
    · by_cases hi1 : i = l.length
      · subst hi1
        rw [hf'] at hs
        cases hs; rfl
      · rw [freeM_ne hi1] at hs
        exact hL.fresh i s hi hs
    · exact hS G (fun i hi hlt => by rw [hG i (by omega) (by rw [freeM_length]; exact hlt), freeM_ne (by omega)])
end
end Go.Proofs.Ytjbmppbciiemkaa
