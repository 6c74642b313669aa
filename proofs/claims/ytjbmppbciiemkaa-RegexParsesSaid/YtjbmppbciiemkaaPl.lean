/-
  Plain facts on how regex's reader reads: it goes on, and what it makes is not great.
-/
import Derived.Test.YtjbmppbciiemkaaPx
namespace Go.Proofs.Ytjbmppbciiemkaa set_option linter.unusedVariables false set_option linter.unusedSimpArgs false

theorem nextB_at {s : ByteArray} {p b q : Nat} (h : nextB s p = .ok (b, q)) : b < 256 ∧ q = p + 1 ∧ p < s.size ∧ b = byteAt s p := by
  simp only [nextB] at h
  split at h
  · simp at h; exact ⟨by rw [← h.1]; exact byteAt_lt _ _, h.2.symm, by assumption, h.1.symm⟩
  · simp at h
theorem isB_at {s : ByteArray} {p b : Nat} (h : isB s p b = true) : p < s.size := by
  simp [isB] at h; exact h.1
theorem digitB_at {s : ByteArray} {p b q : Nat} (h : digitB s p = .ok (b, q)) : q = p + 1 ∧ p < s.size := by
  simp only [digitB] at h
  split at h
  · simp at h
  · rename_i hn
    split at h
    · simp at h
    · simp at h
      have := nextB_at hn
      omega
theorem charB_at {s : ByteArray} {p b q : Nat} (h : charB s p = .ok (b, q)) : p < q ∧ q ≤ s.size := by
  simp only [charB] at h
  cases hn : nextB s p with
  | error n => simp [hn] at h
  | ok x =>
    obtain ⟨c, q0⟩ := x
    have h1 := nextB_at hn
    simp only [hn] at h
    cases hm : namedB c with
    | some c' => simp [hm] at h; omega
    | none =>
      simp only [hm] at h
      split at h
      · cases hd : digitB s q0 with
        | error n => simp [hd] at h
        | ok x =>
          obtain ⟨hi, q1⟩ := x
          simp only [hd] at h
          cases hd2 : digitB s q1 with
          | error n => simp [hd2] at h
          | ok x =>
            obtain ⟨lo, q2⟩ := x
            simp [hd2] at h
            have d1 := digitB_at hd
            have d2 := digitB_at hd2
            omega
      · split at h
        · simp at h
        · simp at h; omega
theorem oneB_at {s : ByteArray} {p b q : Nat} (h : oneB s p = .ok (b, q)) : p < q ∧ q ≤ s.size := by
  simp only [oneB] at h
  split at h
  · have := charB_at h; omega
  · cases hn : nextB s p with
    | error n => simp [hn] at h
    | ok x =>
      obtain ⟨c, q0⟩ := x
      have := nextB_at hn
      simp only [hn] at h
      split at h
      · simp at h
      · simp at h; omega
theorem classL_at {s : ByteArray} (k : Nat) : ∀ (x y : Bs) (p q : Nat), p ≤ s.size → classL s k x p = some (.ok (y, q)) → p < q ∧ q ≤ s.size := by
  induction k with
  | zero => intro x y p q _ h; simp [classL] at h
  | succ k ih =>
    intro x y p q hp h
    simp only [classL] at h
    cases h93 : isB s p 93 with
    | true =>
      simp [h93] at h
      have := isB_at h93
      omega
    | false =>
      simp only [h93, Bool.false_eq_true, if_false] at h
      cases h1 : oneB s p with
      | error n => simp [h1] at h
      | ok z =>
        obtain ⟨lo, q1⟩ := z
        have g1 := oneB_at h1
        simp only [h1] at h
        cases h45 : isB s q1 45 with
        | true =>
          simp only [h45, if_true] at h
          cases h2 : oneB s (q1 + 1) with
          | error n => simp [h2] at h
          | ok z =>
            obtain ⟨hi, q2⟩ := z
            have g2 := oneB_at h2
            simp only [h2] at h
            split at h
            · simp at h
            · have := ih _ _ _ _ (by omega) h; omega
        | false =>
          simp only [h45, Bool.false_eq_true, if_false, Nat.lt_irrefl] at h
          have := ih _ _ _ _ (by omega) h; omega
theorem classB_at {s : ByteArray} {k p q : Nat} {r : Rx} (hp : p ≤ s.size) (h : classB s k p = some (.ok (r, q))) : p < q ∧ q ≤ s.size ∧ r.size = 1 := by
  simp only [classB] at h
  cases hn : isB s p 94 with
  | true =>
    simp only [hn, if_true] at h
    have := isB_at hn
    split at h
    · simp at h
    · simp at h
    · rename_i x q' hc
      simp at h
      have := classL_at k _ _ _ _ (by omega) hc
      refine ⟨by omega, by omega, ?_⟩
      rw [← h.1]; simp [Bs.rx, Rx.size, Rx.sizes]
  | false =>
    simp only [hn, Bool.false_eq_true, if_false] at h
    split at h
    · simp at h
    · simp at h
    · rename_i x q' hc
      simp at h
      have := classL_at k _ _ _ _ hp hc
      refine ⟨by omega, by omega, ?_⟩
      rw [← h.1]; simp [Bs.rx, Rx.size, Rx.sizes]
theorem fitR_at {r r' : Rx} (h : fitR r = .ok r') : r' = r ∧ r.size ≤ 500 := by
  unfold fitR at h
  split at h
  · simp at h
  · simp at h; exact ⟨h.symm, by omega⟩
theorem behindB_at {s : ByteArray} (k : Nat) : ∀ (r r' : Rx) (p q : Nat), p ≤ s.size → r.size ≤ 500 → behindB s k r p = some (.ok (r', q)) → p ≤ q ∧ q ≤ s.size ∧ r'.size ≤ 500 := by
  induction k with
  | zero => intro r r' p q _ _ h; simp [behindB] at h
  | succ k ih =>
    intro r r' p q hp hr h
    have key : ∀ (x : Rx) (b : Nat), isB s p b = true → (match fitR x with | .error e => some (.error e) | .ok y => behindB s k y (p + 1)) = some (.ok (r', q)) → p ≤ q ∧ q ≤ s.size ∧ r'.size ≤ 500 := by
      intro x b hb hx
      cases hf : fitR x with
      | error e => simp [hf] at hx
      | ok y =>
        simp only [hf] at hx
        have := fitR_at hf
        have h1 := isB_at hb
        have := ih y r' (p + 1) q (by omega) (by rw [this.1]; exact this.2) hx
        omega
    simp only [behindB] at h
    cases h42 : isB s p 42 with
    | true => simp only [h42, if_true] at h; exact key _ _ h42 h
    | false =>
      simp only [h42, Bool.false_eq_true, if_false] at h
      cases h43 : isB s p 43 with
      | true => simp only [h43, if_true] at h; exact key _ _ h43 h
      | false =>
        simp only [h43, Bool.false_eq_true, if_false] at h
        cases h63 : isB s p 63 with
        | true => simp only [h63, if_true] at h; exact key _ _ h63 h
        | false =>
          simp [h63] at h
          refine ⟨by omega, by omega, by rw [← h.1]; exact hr⟩

theorem sizes_le (l : List Rx) (n : Nat) (h : ∀ x ∈ l, Rx.size x ≤ n) : Rx.sizes l ≤ n * l.length := by
  induction l with
  | nil => simp [Rx.sizes]
  | cons x l ih =>
    have h1 := h x List.mem_cons_self
    have h2 := ih (fun y hy => h y (List.mem_cons_of_mem _ hy))
    simp only [Rx.sizes, List.length_cons, Nat.mul_succ]
    omega
theorem ofR_size (kind : Int) (l : List Rx) (n : Nat) (h : ∀ x ∈ l, Rx.size x ≤ n) : (ofR kind l).size ≤ 1 + n * l.length := by
  match l with
  | [] => simp [ofR, Rx.zero, Rx.size, Rx.sizes]
  | [r] =>
    have := h r List.mem_cons_self
    simp [ofR]; omega
  | r1 :: r2 :: l =>
    have := sizes_le (r1 :: r2 :: l) n h
    simp only [ofR, Rx.size]
    omega
theorem all_at {s : ByteArray} (hs : s.size ≤ 1000) (k : Nat) :
    (∀ (p q : Nat) (r : Rx), p ≤ s.size → waysB s k p = some (.ok (r, q)) → p ≤ q ∧ q ≤ s.size ∧ r.size ≤ 600000000) ∧
    (∀ (l : List Rx) (p q : Nat) (r : Rx), p ≤ s.size → l.length ≤ p + 1 → (∀ x ∈ l, Rx.size x ≤ 500001) → waysL s k l p = some (.ok (r, q)) → p ≤ q ∧ q ≤ s.size ∧ r.size ≤ 600000000) ∧
    (∀ (l : List Rx) (p q : Nat) (r : Rx), p ≤ s.size → l.length ≤ p → (∀ x ∈ l, Rx.size x ≤ 500) → wayB s k l p = some (.ok (r, q)) → p ≤ q ∧ q ≤ s.size ∧ r.size ≤ 500001) ∧
    (∀ (p q : Nat) (r : Rx), p ≤ s.size → atomB s k p = some (.ok (r, q)) → p < q ∧ q ≤ s.size ∧ r.size ≤ 600000000) := by
  induction k with
  | zero =>
    refine ⟨?_, ?_, ?_, ?_⟩
    · intro p q r _ h; simp [waysB] at h
    · intro l p q r _ _ _ h; simp [waysL] at h
    · intro l p q r _ _ _ h; simp [wayB] at h
    · intro p q r _ h; simp [atomB] at h
  | succ k ih =>
    obtain ⟨ih1, ih2, ih3, ih4⟩ := ih
    refine ⟨?_, ?_, ?_, ?_⟩
    · intro p q r hp h
      simp only [waysB] at h
      split at h
      · simp at h
      · simp at h
      · rename_i r1 q1 hw
        have g1 := ih3 [] p q1 r1 hp (by simp) (by simp) hw
        have g2 := ih2 [r1] q1 q r (by omega) (by simp) (by simp; omega) h
        omega
    · intro l p q r hp hl hx h
      simp only [waysL] at h
      cases h124 : isB s p 124 with
      | true =>
        have hlt := isB_at h124
        simp only [h124, if_true] at h
        split at h
        · simp at h
        · simp at h
        · rename_i r1 q1 hw
          have g1 := ih3 [] (p + 1) q1 r1 (by omega) (by simp) (by simp) hw
          have g2 := ih2 (l ++ [r1]) q1 q r (by omega) (by simp; omega) (by
            intro x hx'
            rcases List.mem_append.1 hx' with h' | h'
            · exact hx x h'
            · simp at h'; subst h'; exact g1.2.2) h
          omega
      | false =>
        simp [h124] at h
        have := ofR_size 3 l 500001 hx
        rw [h.1] at this
        have hh : 500001 * l.length ≤ 500001 * 1001 := Nat.mul_le_mul_left _ (by omega)
        omega
    · intro l p q r hp hl hx h
      simp only [wayB] at h
      split at h
      · simp at h
        have := ofR_size 2 l 500 hx
        rw [h.1] at this
        have hh : 500 * l.length ≤ 500 * 1000 := Nat.mul_le_mul_left _ (by omega)
        omega
      · split at h
        · simp at h
        · simp at h
        · rename_i r1 q1 hw
          have g1 := ih4 p q1 r1 hp hw
          split at h
          · simp at h
          · rename_i r2 hf
            have gf := fitR_at hf
            split at h
            · simp at h
            · simp at h
            · rename_i r3 q3 hb
              have gb := behindB_at k r2 r3 q1 q3 (by omega) (by rw [gf.1]; exact gf.2) hb
              have g2 := ih3 (l ++ [r3]) q3 q r (by omega) (by simp; omega) (by
                intro x hx'
                rcases List.mem_append.1 hx' with h' | h'
                · exact hx x h'
                · simp at h'; subst h'; exact gb.2.2) h
              omega
    · intro p q r hp h
      have hbs : ∀ x : Bs, x.rx.size = 1 := by intro x; simp [Bs.rx, Rx.size, Rx.sizes]
      simp only [atomB] at h
      cases hn : nextB s p with
      | error n => simp [hn] at h
      | ok y =>
        obtain ⟨b, q0⟩ := y
        have g0 := nextB_at hn
        simp only [hn] at h
        split at h
        · split at h
          · simp at h
          · simp at h
          · rename_i r1 q1 hw
            have g1 := ih1 q0 q1 r1 (by omega) hw
            split at h
            · rename_i h41
              have := isB_at h41
              simp at h
              rw [← h.1]
              omega
            · simp at h
        · split at h
          · have := classB_at (by omega) h; omega
          · split at h
            · simp at h
              have := hbs (Bs.others (Bs.zero.add 10))
              rw [← h.1]; omega
            · split at h
              · cases hc : charB s q0 with
                | error n => simp [hc] at h
                | ok z =>
                  obtain ⟨c, q2⟩ := z
                  have := charB_at hc
                  simp [hc] at h
                  have := hbs (Bs.zero.add c)
                  rw [← h.1]; omega
              · split at h
                · simp at h
                · simp at h
                  have := hbs (Bs.zero.add b)
                  rw [← h.1]; omega
end Go.Proofs.Ytjbmppbciiemkaa
