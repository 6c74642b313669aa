/-
  Words of a regex that was read are words; the reference's Has.
-/
import Derived.Test.YtjbmppbciiemkaaYn
namespace Go.Proofs.Ytjbmppbciiemkaa set_option linter.unusedVariables false set_option linter.unusedSimpArgs false
open Go.RowKit

mutual
/-- All words of a regex are words. -/
def Rx.fine : Rx → Prop
  | .mk _ b0 b1 b2 b3 kids => b0 < 18446744073709551616 ∧ b1 < 18446744073709551616 ∧ b2 < 18446744073709551616 ∧ b3 < 18446744073709551616 ∧ Rx.fines kids
def Rx.fines : List Rx → Prop
  | [] => True
  | r :: l => r.fine ∧ Rx.fines l
end
theorem fines_iff : ∀ l : List Rx, Rx.fines l ↔ ∀ r ∈ l, Rx.fine r
  | [] => by simp [Rx.fines]
  | r :: l => by simp [Rx.fines, fines_iff l]
theorem fine_zero : Rx.zero.fine := by simp [Rx.zero, Rx.fine, Rx.fines]
theorem fine_kids (k : Int) {l : List Rx} (h : ∀ r ∈ l, Rx.fine r) : (Rx.mk k 0 0 0 0 l).fine := by
  simp only [Rx.fine]
  exact ⟨by decide, by decide, by decide, by decide, (fines_iff l).2 h⟩
theorem fine_bs {x : Bs} (h : x.Ok) : x.rx.fine := by
  simp only [Bs.rx, Rx.fine, Rx.fines]
  exact ⟨h.h0, h.h1, h.h2, h.h3, trivial⟩
theorem fine_of (k : Int) (l : List Rx) (h : ∀ r ∈ l, Rx.fine r) : (ofR k l).fine := by
  rcases l with _ | ⟨r, _ | ⟨r2, l⟩⟩
  · exact fine_zero
  · exact h r (by simp)
  · exact fine_kids k h
theorem fine_star {r : Rx} (h : r.fine) : (starR r).fine := fine_kids 4 (fun x hx => by simp at hx; subst hx; exact h)
theorem classL_ok {s : ByteArray} (k : Nat) : ∀ (x y : Bs) (p q : Nat), x.Ok → classL s k x p = some (.ok (y, q)) → y.Ok := by
  induction k with
  | zero => intro x y p q _ h; simp [classL] at h
  | succ k ih =>
    intro x y p q hx h
    simp only [classL] at h
    cases h93 : isB s p 93 with
    | true => simp [h93] at h; rw [← h.1]; exact hx
    | false =>
      simp only [h93, Bool.false_eq_true, if_false] at h
      cases h1 : oneB s p with
      | error n => simp [h1] at h
      | ok z =>
        obtain ⟨lo, q1⟩ := z
        simp only [h1] at h
        cases h45 : isB s q1 45 with
        | true =>
          simp only [h45, if_true] at h
          cases h2 : oneB s (q1 + 1) with
          | error n => simp [h2] at h
          | ok z =>
            obtain ⟨hi, q2⟩ := z
            simp only [h2] at h
            split at h
            · simp at h
            · exact ih _ _ _ _ (Bs.Ok.addN hx _ _) h
        | false =>
          simp only [h45, Bool.false_eq_true, if_false, Nat.lt_irrefl] at h
          exact ih _ _ _ _ (Bs.Ok.addN hx _ _) h
theorem classB_fine {s : ByteArray} {k p q : Nat} {r : Rx} (h : classB s k p = some (.ok (r, q))) : r.fine := by
  obtain ⟨m2, h1, h2⟩ := classB_fin h
  cases m2 with
  | error e => simp [finC] at h2
  | ok y =>
    obtain ⟨x, q'⟩ := y
    have hx := classL_ok k _ _ _ _ Bs.Ok.zero h1
    simp only [finC, Except.ok.injEq, Prod.mk.injEq] at h2
    rw [h2.1]
    split
    · exact fine_bs hx.others
    · exact fine_bs hx
theorem behindB_fine {s : ByteArray} (k : Nat) : ∀ (r r' : Rx) (p q : Nat), r.fine → behindB s k r p = some (.ok (r', q)) → r'.fine := by
  induction k with
  | zero => intro r r' p q _ h; simp [behindB] at h
  | succ k ih =>
    intro r r' p q hr h
    have key : ∀ (x : Rx), x.fine → (match fitR x with | .error e => some (.error e) | .ok y => behindB s k y (p + 1)) = some (.ok (r', q)) → r'.fine := by
      intro x hx hm
      cases hf : fitR x with
      | error e => simp [hf] at hm
      | ok y =>
        simp only [hf] at hm
        have := fitR_at hf
        exact ih y r' (p + 1) q (by rw [this.1]; exact hx) hm
    simp only [behindB] at h
    cases h42 : isB s p 42 with
    | true => simp only [h42, if_true] at h; exact key _ (fine_star hr) h
    | false =>
      simp only [h42, Bool.false_eq_true, if_false] at h
      cases h43 : isB s p 43 with
      | true =>
        simp only [h43, if_true] at h
        exact key _ (fine_kids 2 (fun x hx => by
          simp at hx
          rcases hx with rfl | rfl
          · exact hr
          · exact fine_star hr)) h
      | false =>
        simp only [h43, Bool.false_eq_true, if_false] at h
        cases h63 : isB s p 63 with
        | true =>
          simp only [h63, if_true] at h
          exact key _ (fine_kids 3 (fun x hx => by
            simp at hx
            rcases hx with rfl | rfl
            · exact hr
            · exact fine_zero)) h
        | false =>
          simp [h63] at h
          rw [← h.1]; exact hr
theorem all_fine {s : ByteArray} (k : Nat) :
    (∀ (p q : Nat) (r : Rx), waysB s k p = some (.ok (r, q)) → r.fine) ∧
    (∀ (l : List Rx) (p q : Nat) (r : Rx), (∀ x ∈ l, Rx.fine x) → waysL s k l p = some (.ok (r, q)) → r.fine) ∧
    (∀ (l : List Rx) (p q : Nat) (r : Rx), (∀ x ∈ l, Rx.fine x) → wayB s k l p = some (.ok (r, q)) → r.fine) ∧
    (∀ (p q : Nat) (r : Rx), atomB s k p = some (.ok (r, q)) → r.fine) := by
  induction k with
  | zero =>
    refine ⟨?_, ?_, ?_, ?_⟩
    · intro p q r h; simp [waysB] at h
    · intro l p q r _ h; simp [waysL] at h
    · intro l p q r _ h; simp [wayB] at h
    · intro p q r h; simp [atomB] at h
  | succ k ih =>
    obtain ⟨ih1, ih2, ih3, ih4⟩ := ih
    have more : ∀ {l : List Rx} {r : Rx}, (∀ x ∈ l, Rx.fine x) → r.fine → ∀ x ∈ l ++ [r], Rx.fine x := by
      intro l r hl hr x hx
      rcases List.mem_append.1 hx with h | h
      · exact hl x h
      · simp at h; subst h; exact hr
    refine ⟨?_, ?_, ?_, ?_⟩
    · intro p q r h
      simp only [waysB] at h
      split at h
      · simp at h
      · simp at h
      · rename_i r1 q1 hw
        exact ih2 [r1] q1 q r (fun x hx => by simp at hx; subst hx; exact ih3 [] p q1 _ (by simp) hw) h
    · intro l p q r hx h
      simp only [waysL] at h
      cases h124 : isB s p 124 with
      | true =>
        simp only [h124, if_true] at h
        split at h
        · simp at h
        · simp at h
        · rename_i r1 q1 hw
          exact ih2 (l ++ [r1]) q1 q r (more hx (ih3 [] (p + 1) q1 r1 (by simp) hw)) h
      | false =>
        simp [h124] at h
        rw [← h.1]; exact fine_of 3 l hx
    · intro l p q r hx h
      simp only [wayB] at h
      split at h
      · simp at h
        rw [← h.1]; exact fine_of 2 l hx
      · split at h
        · simp at h
        · simp at h
        · rename_i r1 q1 hw
          have g1 := ih4 p q1 r1 hw
          split at h
          · simp at h
          · rename_i r2 hf
            have gf := fitR_at hf
            split at h
            · simp at h
            · simp at h
            · rename_i r3 q3 hb
              exact ih3 (l ++ [r3]) q3 q r (more hx (behindB_fine k r2 r3 q1 q3 (by rw [gf.1]; exact g1) hb)) h
    · intro p q r h
      simp only [atomB] at h
      cases hn : nextB s p with
      | error n => simp [hn] at h
      | ok y =>
        obtain ⟨b, q0⟩ := y
        simp only [hn] at h
        split at h
        · split at h
          · simp at h
          · simp at h
          · rename_i r1 q1 hw
            have g1 := ih1 q0 q1 r1 hw
            split at h
            · simp at h; rw [← h.1]; exact g1
            · simp at h
        · split at h
          · exact classB_fine h
          · split at h
            · simp at h
              rw [← h.1]; exact fine_bs (Bs.Ok.zero.add 10).others
            · split at h
              · cases hc : charB s q0 with
                | error n => simp [hc] at h
                | ok z =>
                  obtain ⟨c, q2⟩ := z
                  simp [hc] at h
                  rw [← h.1]; exact fine_bs (Bs.Ok.zero.add c)
              · split at h
                · simp at h
                · simp at h
                  rw [← h.1]; exact fine_bs (Bs.Ok.zero.add b)
theorem parseR_fine {s : ByteArray} (hs : s.size ≤ 200) : (parseR s).fine := by
  obtain ⟨mw, hw, hp⟩ := parseM_ways hs
  unfold parseR
  rw [hp]
  cases mw with
  | error e => exact fine_zero
  | ok x =>
    obtain ⟨r, q⟩ := x
    have hf := (all_fine 604).1 0 q r hw
    dsimp only
    by_cases hq : q < s.size
    · rw [if_pos hq]; exact fine_zero
    · rw [if_neg hq]
      cases hft : fitR r with
      | error e => exact fine_zero
      | ok r' => rw [(fitR_at hft).1]; exact hf

theorem tb_div_mod (s i : Nat) : (s / 2 ^ i % 2 = 1) ↔ s.testBit i = true := by
  rw [Nat.testBit_eq_decide_div_mod_eq]; simp
/-- The word that holds a byte. -/
def Rx.word : Rx → Nat → Nat
  | .mk _ b0 b1 b2 b3 _, j => match j with | 0 => b0 | 1 => b1 | 2 => b2 | _ => b3

-- GEN

set_option maxRecDepth 100000 in
set_option maxHeartbeats 2000000 in
theorem refhas3_0 (b b0 b1 b2 b3 : Nat) (kids : List Rx) (a : Option Addr) (cap : Nat) (w : World) (hb : b < 256) (h4 : b / 64 = 0) (hs : b0 < 18446744073709551616) (r : Bool) (hr : b0.testBit (b % 64) = r) :
    Calls Try.prog 11 #[.agg #[.int .i64 1, .int .u64 b0, .int .u64 b1, .int .u64 b2, .int .u64 b3, .slice a kids.length cap], .int .u8 b] w fun e w' => e = .returned (.bool r) ∧ Fr none_ w w' := by
  have HR := Lib.hid hr
  have e6 : (b : Int) / 64 = 0 := by omega
  have e63 : (b : Int) % 64 = ((b % 64 : Nat) : Int) := by omega
  obtain ⟨m, hm⟩ : ∃ m, b % 64 = m := ⟨_, rfl⟩
  have hml : m < 64 := by omega
  rw [hm] at HR e63
  have hm0 : (0 : Int) ≤ (m : Int) := by omega
  have hm1 : (m : Int) < 64 := by omega
  have NB := alloc_new w (.cells #[.int .i64 1, .int .u64 b0, .int .u64 b1, .int .u64 b2, .int .u64 b3, .slice a kids.length cap] 28)
  have HF := Lib.hid ((Fr.refl none_ w).alloc (.cells #[.int .i64 1, .int .u64 b0, .int .u64 b1, .int .u64 b2, .int .u64 b3, .slice a kids.length cap] 28))
  obtain ⟨z0, z1, z2, z3, z4, z5⟩ := six NB
  clear hr hm h4 NB
  go_enter Try.func11, Try.ntmps11
  go_wp2_with fail
  clear z0 z1 z2 z3 z4 z5
  go_loop [5, 6] (fun x5 x6 => ∃ i : Nat, i ≤ m ∧ x6 = .int .i64 i ∧ x5 = .int .u64 (b0 / 2 ^ i : Nat)) (fun _ x6 => m - (intOf x6).toNat)
  case atStart => exact ⟨0, Nat.zero_le _, rfl, by simp⟩
  case round =>
    obtain ⟨i, hi, rfl, rfl⟩ := hrel
    obtain ⟨q, hq⟩ : ∃ q, b0 / 2 ^ i = q := ⟨_, rfl⟩
    have hq2 : q < 18446744073709551616 := by rw [← hq]; exact Nat.lt_of_le_of_lt (Nat.div_le_self _ _) hs
    have HQ := Lib.hid hq
    rw [hq]
    clear hq
    by_cases hlt : i < m
    · have hil : (i : Int) < (m : Int) := by omega
      have HN := Lib.hid (show b0 / 2 ^ (i + 1) = q / 2 by rw [Nat.pow_succ, ← Nat.div_div_eq_div_mul, HQ.out])
      go_wp2_with fail
      go_round
      case rel => exact ⟨i + 1, by omega, by go_num, by rw [HN.out]; rfl⟩
      case measure => simp [intOf]; omega
    · obtain rfl : i = m := by omega
      have HE := Lib.hid (show r = decide (q % 2 = 1) by
        rw [← HR.out, Bool.eq_iff_iff, ← HQ.out]
        simp [tb_div_mod])
      by_cases h1 : q % 2 = 1
      · have hI : (((q : Int) % 2) == 1) = true := by simp; omega
        have HE2 := Lib.hid (decide_eq_true h1)
        go_wp2_with fail
        go_ret
        exact ⟨by rw [HE.out, HE2.out]; rfl, HF.out⟩
      · have hI : (((q : Int) % 2) == 1) = false := by simp; omega
        have HE2 := Lib.hid (decide_eq_false h1)
        go_wp2_with fail
        go_ret
        exact ⟨by rw [HE.out, HE2.out]; rfl, HF.out⟩

set_option maxRecDepth 100000 in
set_option maxHeartbeats 2000000 in
theorem refhas3_1 (b b0 b1 b2 b3 : Nat) (kids : List Rx) (a : Option Addr) (cap : Nat) (w : World) (hb : b < 256) (h4 : b / 64 = 1) (hs : b1 < 18446744073709551616) (r : Bool) (hr : b1.testBit (b % 64) = r) :
    Calls Try.prog 11 #[.agg #[.int .i64 1, .int .u64 b0, .int .u64 b1, .int .u64 b2, .int .u64 b3, .slice a kids.length cap], .int .u8 b] w fun e w' => e = .returned (.bool r) ∧ Fr none_ w w' := by
  have HR := Lib.hid hr
  have e6 : (b : Int) / 64 = 1 := by omega
  have e63 : (b : Int) % 64 = ((b % 64 : Nat) : Int) := by omega
  obtain ⟨m, hm⟩ : ∃ m, b % 64 = m := ⟨_, rfl⟩
  have hml : m < 64 := by omega
  rw [hm] at HR e63
  have hm0 : (0 : Int) ≤ (m : Int) := by omega
  have hm1 : (m : Int) < 64 := by omega
  have NB := alloc_new w (.cells #[.int .i64 1, .int .u64 b0, .int .u64 b1, .int .u64 b2, .int .u64 b3, .slice a kids.length cap] 28)
  have HF := Lib.hid ((Fr.refl none_ w).alloc (.cells #[.int .i64 1, .int .u64 b0, .int .u64 b1, .int .u64 b2, .int .u64 b3, .slice a kids.length cap] 28))
  obtain ⟨z0, z1, z2, z3, z4, z5⟩ := six NB
  clear hr hm h4 NB
  go_enter Try.func11, Try.ntmps11
  go_wp2_with fail
  clear z0 z1 z2 z3 z4 z5
  go_loop [5, 6] (fun x5 x6 => ∃ i : Nat, i ≤ m ∧ x6 = .int .i64 i ∧ x5 = .int .u64 (b1 / 2 ^ i : Nat)) (fun _ x6 => m - (intOf x6).toNat)
  case atStart => exact ⟨0, Nat.zero_le _, rfl, by simp⟩
  case round =>
    obtain ⟨i, hi, rfl, rfl⟩ := hrel
    obtain ⟨q, hq⟩ : ∃ q, b1 / 2 ^ i = q := ⟨_, rfl⟩
    have hq2 : q < 18446744073709551616 := by rw [← hq]; exact Nat.lt_of_le_of_lt (Nat.div_le_self _ _) hs
    have HQ := Lib.hid hq
    rw [hq]
    clear hq
    by_cases hlt : i < m
    · have hil : (i : Int) < (m : Int) := by omega
      have HN := Lib.hid (show b1 / 2 ^ (i + 1) = q / 2 by rw [Nat.pow_succ, ← Nat.div_div_eq_div_mul, HQ.out])
      go_wp2_with fail
      go_round
      case rel => exact ⟨i + 1, by omega, by go_num, by rw [HN.out]; rfl⟩
      case measure => simp [intOf]; omega
    · obtain rfl : i = m := by omega
      have HE := Lib.hid (show r = decide (q % 2 = 1) by
        rw [← HR.out, Bool.eq_iff_iff, ← HQ.out]
        simp [tb_div_mod])
      by_cases h1 : q % 2 = 1
      · have hI : (((q : Int) % 2) == 1) = true := by simp; omega
        have HE2 := Lib.hid (decide_eq_true h1)
        go_wp2_with fail
        go_ret
        exact ⟨by rw [HE.out, HE2.out]; rfl, HF.out⟩
      · have hI : (((q : Int) % 2) == 1) = false := by simp; omega
        have HE2 := Lib.hid (decide_eq_false h1)
        go_wp2_with fail
        go_ret
        exact ⟨by rw [HE.out, HE2.out]; rfl, HF.out⟩

set_option maxRecDepth 100000 in
set_option maxHeartbeats 2000000 in
theorem refhas3_2 (b b0 b1 b2 b3 : Nat) (kids : List Rx) (a : Option Addr) (cap : Nat) (w : World) (hb : b < 256) (h4 : b / 64 = 2) (hs : b2 < 18446744073709551616) (r : Bool) (hr : b2.testBit (b % 64) = r) :
    Calls Try.prog 11 #[.agg #[.int .i64 1, .int .u64 b0, .int .u64 b1, .int .u64 b2, .int .u64 b3, .slice a kids.length cap], .int .u8 b] w fun e w' => e = .returned (.bool r) ∧ Fr none_ w w' := by
  have HR := Lib.hid hr
  have e6 : (b : Int) / 64 = 2 := by omega
  have e63 : (b : Int) % 64 = ((b % 64 : Nat) : Int) := by omega
  obtain ⟨m, hm⟩ : ∃ m, b % 64 = m := ⟨_, rfl⟩
  have hml : m < 64 := by omega
  rw [hm] at HR e63
  have hm0 : (0 : Int) ≤ (m : Int) := by omega
  have hm1 : (m : Int) < 64 := by omega
  have NB := alloc_new w (.cells #[.int .i64 1, .int .u64 b0, .int .u64 b1, .int .u64 b2, .int .u64 b3, .slice a kids.length cap] 28)
  have HF := Lib.hid ((Fr.refl none_ w).alloc (.cells #[.int .i64 1, .int .u64 b0, .int .u64 b1, .int .u64 b2, .int .u64 b3, .slice a kids.length cap] 28))
  obtain ⟨z0, z1, z2, z3, z4, z5⟩ := six NB
  clear hr hm h4 NB
  go_enter Try.func11, Try.ntmps11
  go_wp2_with fail
  clear z0 z1 z2 z3 z4 z5
  go_loop [5, 6] (fun x5 x6 => ∃ i : Nat, i ≤ m ∧ x6 = .int .i64 i ∧ x5 = .int .u64 (b2 / 2 ^ i : Nat)) (fun _ x6 => m - (intOf x6).toNat)
  case atStart => exact ⟨0, Nat.zero_le _, rfl, by simp⟩
  case round =>
    obtain ⟨i, hi, rfl, rfl⟩ := hrel
    obtain ⟨q, hq⟩ : ∃ q, b2 / 2 ^ i = q := ⟨_, rfl⟩
    have hq2 : q < 18446744073709551616 := by rw [← hq]; exact Nat.lt_of_le_of_lt (Nat.div_le_self _ _) hs
    have HQ := Lib.hid hq
    rw [hq]
    clear hq
    by_cases hlt : i < m
    · have hil : (i : Int) < (m : Int) := by omega
      have HN := Lib.hid (show b2 / 2 ^ (i + 1) = q / 2 by rw [Nat.pow_succ, ← Nat.div_div_eq_div_mul, HQ.out])
      go_wp2_with fail
      go_round
      case rel => exact ⟨i + 1, by omega, by go_num, by rw [HN.out]; rfl⟩
      case measure => simp [intOf]; omega
    · obtain rfl : i = m := by omega
      have HE := Lib.hid (show r = decide (q % 2 = 1) by
        rw [← HR.out, Bool.eq_iff_iff, ← HQ.out]
        simp [tb_div_mod])
      by_cases h1 : q % 2 = 1
      · have hI : (((q : Int) % 2) == 1) = true := by simp; omega
        have HE2 := Lib.hid (decide_eq_true h1)
        go_wp2_with fail
        go_ret
        exact ⟨by rw [HE.out, HE2.out]; rfl, HF.out⟩
      · have hI : (((q : Int) % 2) == 1) = false := by simp; omega
        have HE2 := Lib.hid (decide_eq_false h1)
        go_wp2_with fail
        go_ret
        exact ⟨by rw [HE.out, HE2.out]; rfl, HF.out⟩

set_option maxRecDepth 100000 in
set_option maxHeartbeats 2000000 in
theorem refhas3_3 (b b0 b1 b2 b3 : Nat) (kids : List Rx) (a : Option Addr) (cap : Nat) (w : World) (hb : b < 256) (h4 : b / 64 = 3) (hs : b3 < 18446744073709551616) (r : Bool) (hr : b3.testBit (b % 64) = r) :
    Calls Try.prog 11 #[.agg #[.int .i64 1, .int .u64 b0, .int .u64 b1, .int .u64 b2, .int .u64 b3, .slice a kids.length cap], .int .u8 b] w fun e w' => e = .returned (.bool r) ∧ Fr none_ w w' := by
  have HR := Lib.hid hr
  have e6 : (b : Int) / 64 = 3 := by omega
  have e63 : (b : Int) % 64 = ((b % 64 : Nat) : Int) := by omega
  obtain ⟨m, hm⟩ : ∃ m, b % 64 = m := ⟨_, rfl⟩
  have hml : m < 64 := by omega
  rw [hm] at HR e63
  have hm0 : (0 : Int) ≤ (m : Int) := by omega
  have hm1 : (m : Int) < 64 := by omega
  have NB := alloc_new w (.cells #[.int .i64 1, .int .u64 b0, .int .u64 b1, .int .u64 b2, .int .u64 b3, .slice a kids.length cap] 28)
  have HF := Lib.hid ((Fr.refl none_ w).alloc (.cells #[.int .i64 1, .int .u64 b0, .int .u64 b1, .int .u64 b2, .int .u64 b3, .slice a kids.length cap] 28))
  obtain ⟨z0, z1, z2, z3, z4, z5⟩ := six NB
  clear hr hm h4 NB
  go_enter Try.func11, Try.ntmps11
  go_wp2_with fail
  clear z0 z1 z2 z3 z4 z5
  go_loop [5, 6] (fun x5 x6 => ∃ i : Nat, i ≤ m ∧ x6 = .int .i64 i ∧ x5 = .int .u64 (b3 / 2 ^ i : Nat)) (fun _ x6 => m - (intOf x6).toNat)
  case atStart => exact ⟨0, Nat.zero_le _, rfl, by simp⟩
  case round =>
    obtain ⟨i, hi, rfl, rfl⟩ := hrel
    obtain ⟨q, hq⟩ : ∃ q, b3 / 2 ^ i = q := ⟨_, rfl⟩
    have hq2 : q < 18446744073709551616 := by rw [← hq]; exact Nat.lt_of_le_of_lt (Nat.div_le_self _ _) hs
    have HQ := Lib.hid hq
    rw [hq]
    clear hq
    by_cases hlt : i < m
    · have hil : (i : Int) < (m : Int) := by omega
      have HN := Lib.hid (show b3 / 2 ^ (i + 1) = q / 2 by rw [Nat.pow_succ, ← Nat.div_div_eq_div_mul, HQ.out])
      go_wp2_with fail
      go_round
      case rel => exact ⟨i + 1, by omega, by go_num, by rw [HN.out]; rfl⟩
      case measure => simp [intOf]; omega
    · obtain rfl : i = m := by omega
      have HE := Lib.hid (show r = decide (q % 2 = 1) by
        rw [← HR.out, Bool.eq_iff_iff, ← HQ.out]
        simp [tb_div_mod])
      by_cases h1 : q % 2 = 1
      · have hI : (((q : Int) % 2) == 1) = true := by simp; omega
        have HE2 := Lib.hid (decide_eq_true h1)
        go_wp2_with fail
        go_ret
        exact ⟨by rw [HE.out, HE2.out]; rfl, HF.out⟩
      · have hI : (((q : Int) % 2) == 1) = false := by simp; omega
        have HE2 := Lib.hid (decide_eq_false h1)
        go_wp2_with fail
        go_ret
        exact ⟨by rw [HE.out, HE2.out]; rfl, HF.out⟩

set_option maxRecDepth 100000 in
set_option maxHeartbeats 2000000 in
theorem refhas3_no (k : Int) (hk : k ≠ 1) (b b0 b1 b2 b3 : Nat) (kids : List Rx) (a : Option Addr) (cap : Nat) (w : World) :
    Calls Try.prog 11 #[.agg #[.int .i64 k, .int .u64 b0, .int .u64 b1, .int .u64 b2, .int .u64 b3, .slice a kids.length cap], .int .u8 b] w fun e w' => e = .returned (.bool false) ∧ Fr none_ w w' := by
  have hk' : (k != 1) = true := by simpa using hk
  have HF := Lib.hid ((Fr.refl none_ w).alloc (.cells #[.int .i64 k, .int .u64 b0, .int .u64 b1, .int .u64 b2, .int .u64 b3, .slice a kids.length cap] 28))
  obtain ⟨z0, z1, z2, z3, z4, z5⟩ := six (alloc_new w (.cells #[.int .i64 k, .int .u64 b0, .int .u64 b1, .int .u64 b2, .int .u64 b3, .slice a kids.length cap] 28))
  go_enter Try.func11, Try.ntmps11
  go_wp2_with fail
  go_ret
  exact ⟨rfl, HF.out⟩

theorem refhas3_any (r : Rx) (b : Nat) (v : Value) (ok : Nat → Prop) (w : World) (hv : RxV ok w v r) (hf : r.fine) (hb : b < 256) :
    Calls Try.prog 11 #[v, .int .u8 b] w fun e w' => e = .returned (.bool (r.has b)) ∧ Fr none_ w w' := by
  obtain ⟨k, b0, b1, b2, b3, kids⟩ := r
  obtain ⟨a, cap, rfl, hc, hl⟩ := hv.open_
  simp only [Rx.fine] at hf
  by_cases hk : k = 1
  · subst hk
    have : b / 64 = 0 ∨ b / 64 = 1 ∨ b / 64 = 2 ∨ b / 64 = 3 := by omega
    rcases this with h4 | h4 | h4 | h4
    · exact refhas3_0 b b0 b1 b2 b3 kids a cap w hb h4 hf.1 _ (by simp [Rx.has, h4])
    · exact refhas3_1 b b0 b1 b2 b3 kids a cap w hb h4 hf.2.1 _ (by simp [Rx.has, h4])
    · exact refhas3_2 b b0 b1 b2 b3 kids a cap w hb h4 hf.2.2.1 _ (by simp [Rx.has, h4])
    · exact refhas3_3 b b0 b1 b2 b3 kids a cap w hb h4 hf.2.2.2.1 _ (by simp [Rx.has, h4])
  · have e : (Rx.mk k b0 b1 b2 b3 kids).has b = false := by simp [Rx.has, hk]
    rw [e]
    exact refhas3_no k hk b b0 b1 b2 b3 kids a cap w
end Go.Proofs.Ytjbmppbciiemkaa
