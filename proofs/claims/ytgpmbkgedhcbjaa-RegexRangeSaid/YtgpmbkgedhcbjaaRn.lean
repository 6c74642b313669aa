/-
  The walk over regex.Nullable.
-/
import Derived.Test.YtgpmbkgedhcbjaaRt
namespace Go.Proofs.Ytgpmbkgedhcbjaa
open Go.RowKit

mutual
/-- Whether it matches the empty text. -/
def Rx.null : Rx → Bool
  | .mk k _ _ _ _ kids => if k = 0 ∨ k = 4 then true else if k = 2 then allNull kids else if k = 3 then anyNull kids else false
def allNull : List Rx → Bool
  | [] => true
  | r :: rs => Rx.null r && allNull rs
def anyNull : List Rx → Bool
  | [] => false
  | r :: rs => Rx.null r || anyNull rs
end
theorem allNull_eq (l : List Rx) : allNull l = l.all Rx.null := by
  induction l with
  | nil => rfl
  | cons r l ih => simp [allNull, ih]
theorem anyNull_eq (l : List Rx) : anyNull l = l.any Rx.null := by
  induction l with
  | nil => rfl
  | cons r l ih => simp [anyNull, ih]
theorem star_nil {P : List Nat → Prop} : Star P [] := .nil
mutual
theorem null_lang : ∀ r : Rx, r.null = true ↔ r.lang []
  | .mk k b0 b1 b2 b3 kids => by
    by_cases h0 : k = 0
    · simp [Rx.null, Rx.lang, h0]
    by_cases h4 : k = 4
    · subst h4; simp [Rx.null, Rx.lang, star_nil]
    by_cases h2 : k = 2
    · subst h2; simp [Rx.null, Rx.lang, null_cat kids]
    by_cases h3 : k = 3
    · subst h3; simp [Rx.null, Rx.lang, null_alt kids]
    by_cases h1 : k = 1
    · subst h1; simp [Rx.null, Rx.lang]
    simp [Rx.null, Rx.lang, h0, h1, h2, h3, h4]
theorem null_cat : ∀ l : List Rx, allNull l = true ↔ catL l []
  | [] => by simp [allNull, catL]
  | r :: l => by
    simp only [allNull, catL, Bool.and_eq_true, null_lang r, null_cat l]
    constructor
    · rintro ⟨h1, h2⟩; exact ⟨[], [], rfl, h1, h2⟩
    · rintro ⟨a, b, h, h1, h2⟩
      have := List.append_eq_nil_iff.1 h.symm
      rw [this.1] at h1; rw [this.2] at h2
      exact ⟨h1, h2⟩
theorem null_alt : ∀ l : List Rx, anyNull l = true ↔ altL l []
  | [] => by simp [anyNull, altL]
  | r :: l => by simp only [anyNull, altL, Bool.or_eq_true, null_lang r, null_alt l]
end

def NullC (r : Rx) : Prop := ∀ (v : Value) (w : World) (ok : Nat → Prop), RxV ok w v r →
  Calls Try.prog 34 #[v] w fun e w' => e = .returned (.bool r.null) ∧ Fr none_ w w'

set_option maxRecDepth 100000 in
set_option maxHeartbeats 4000000 in
theorem null_0 (b0 b1 b2 b3 : Nat) (kids : List Rx) : NullC (.mk 0 b0 b1 b2 b3 kids) := by
  intro v w ok hrv
  obtain ⟨a, cap, rfl, hc, hl⟩ := hrv.open_
  have F0 := Lib.hid ((Fr.refl none_ w).alloc (.cells #[.int .i64 0, .int .u64 b0, .int .u64 b1, .int .u64 b2, .int .u64 b3, .slice a kids.length cap] 28))
  obtain ⟨z0, z1, z2, z3, z4, z5⟩ := six (alloc_new w (.cells #[.int .i64 0, .int .u64 b0, .int .u64 b1, .int .u64 b2, .int .u64 b3, .slice a kids.length cap] 28))
  have HL := Lib.hid hl
  clear hrv hl
  go_enter Try.func34, Try.ntmps34
  go_wp2_with fail
  go_ret
  exact ⟨by simp [Rx.null], F0.out⟩

set_option maxRecDepth 100000 in
set_option maxHeartbeats 4000000 in
theorem null_4 (b0 b1 b2 b3 : Nat) (kids : List Rx) : NullC (.mk 4 b0 b1 b2 b3 kids) := by
  intro v w ok hrv
  obtain ⟨a, cap, rfl, hc, hl⟩ := hrv.open_
  have F0 := Lib.hid ((Fr.refl none_ w).alloc (.cells #[.int .i64 4, .int .u64 b0, .int .u64 b1, .int .u64 b2, .int .u64 b3, .slice a kids.length cap] 28))
  obtain ⟨z0, z1, z2, z3, z4, z5⟩ := six (alloc_new w (.cells #[.int .i64 4, .int .u64 b0, .int .u64 b1, .int .u64 b2, .int .u64 b3, .slice a kids.length cap] 28))
  have HL := Lib.hid hl
  clear hrv hl
  go_enter Try.func34, Try.ntmps34
  go_wp2_with fail
  go_ret
  exact ⟨by simp [Rx.null], F0.out⟩

set_option maxRecDepth 100000 in
set_option maxHeartbeats 4000000 in
theorem null_other (k : Int) (h0 : k ≠ 0) (h2 : k ≠ 2) (h3 : k ≠ 3) (h4 : k ≠ 4) (b0 b1 b2 b3 : Nat) (kids : List Rx) : NullC (.mk k b0 b1 b2 b3 kids) := by
  intro v w ok hrv
  obtain ⟨a, cap, rfl, hc, hl⟩ := hrv.open_
  have F0 := Lib.hid ((Fr.refl none_ w).alloc (.cells #[.int .i64 k, .int .u64 b0, .int .u64 b1, .int .u64 b2, .int .u64 b3, .slice a kids.length cap] 28))
  obtain ⟨z0, z1, z2, z3, z4, z5⟩ := six (alloc_new w (.cells #[.int .i64 k, .int .u64 b0, .int .u64 b1, .int .u64 b2, .int .u64 b3, .slice a kids.length cap] 28))
  have HL := Lib.hid hl
  clear hrv hl
  have e0 : (k == 0) = false := by rw [beq_eq_false_iff_ne]; exact h0
  have e2 : (k == 2) = false := by rw [beq_eq_false_iff_ne]; exact h2
  have e3 : (k == 3) = false := by rw [beq_eq_false_iff_ne]; exact h3
  have e4 : (k == 4) = false := by rw [beq_eq_false_iff_ne]; exact h4
  have HLA := Lib.hid (show (Rx.mk k b0 b1 b2 b3 kids).null = false by simp [Rx.null, h0, h2, h3, h4])
  clear h0 h2 h3 h4
  go_enter Try.func34, Try.ntmps34
  go_wp2_with fail
  go_ret
  exact ⟨by rw [HLA.out]; rfl, F0.out⟩

set_option maxRecDepth 100000 in
set_option maxHeartbeats 4000000 in
theorem null_2 (b0 b1 b2 b3 : Nat) (kids : List Rx) (hk : kids.length ≤ 1000) (hsub : ∀ r ∈ kids, NullC r) : NullC (.mk 2 b0 b1 b2 b3 kids) := by
  intro v w ok hrv
  obtain ⟨a, cap, rfl, hc, hl⟩ := hrv.open_
  have F0 := Lib.hid ((Fr.refl none_ w).alloc (.cells #[.int .i64 2, .int .u64 b0, .int .u64 b1, .int .u64 b2, .int .u64 b3, .slice a kids.length cap] 28))
  obtain ⟨z0, z1, z2, z3, z4, z5⟩ := six (alloc_new w (.cells #[.int .i64 2, .int .u64 b0, .int .u64 b1, .int .u64 b2, .int .u64 b3, .slice a kids.length cap] 28))
  have HL := Lib.hid hl
  clear hrv hl
  have HS := Lib.hid hsub
  clear hsub
  go_enter Try.func34, Try.ntmps34
  go_wp2_with fail
  generalize hw1 : w.alloc (.cells #[.int .i64 2, .int .u64 b0, .int .u64 b1, .int .u64 b2, .int .u64 b3, .slice a kids.length cap] 28) = w1
  rw [hw1] at F0
  clear hw1 z0 z1 z2 z3 z4 z5
  go_loopw [17] (fun x wr => ∃ i : Nat, i ≤ kids.length ∧ x = .int .i64 i ∧ Aside (∀ r ∈ kids.take i, r.null = true) ∧ Aside (Fr none_ w wr)) (fun x _ => kids.length - (intOf x).toNat)
  case atStart => exact ⟨0, Nat.zero_le _, rfl, (show ∀ r ∈ kids.take 0, r.null = true by simp), F0.out⟩
  case round =>
    obtain ⟨i, hi', rfl, hM', hfr⟩ := hrel
    have HFr := Lib.hid hfr.out
    have HM := Lib.hid hM'.out
    clear hfr hM'
    by_cases hlt : i < kids.length
    · have hlt' : (i : Int) < (kids.length : Int) := by omega
      obtain ⟨⟨k', x0, x1, x2, x3, kids'⟩, hki⟩ : ∃ r, kids[i]? = some r := ⟨kids[i]'hlt, List.getElem?_eq_getElem hlt⟩
      have hmv : RxL ok wr a 0 kids := RxL.move (fun k _ hlt => HFr.out.block k hlt (fun h => h)) kids a 0 HL.out
      obtain ⟨ad, a', cap', rfl, hok, c0, c1, c2, c3, c4, c5, hc', hl'⟩ := hmv.elem hki
      have HL' := Lib.hid hl'
      have HMEM := Lib.hid (List.mem_of_getElem? hki)
      have HKC := Lib.hid (HS.out _ HMEM.out)
      have FK := Lib.hid (Fr.alloc (Fr.refl none_ wr) (.cells #[.int .i64 k', .int .u64 x0, .int .u64 x1, .int .u64 x2, .int .u64 x3, .slice a' kids'.length cap'] 28))
      have htake : kids.take (i + 1) = kids.take i ++ [.mk k' x0 x1 x2 x3 kids'] := by rw [List.take_add_one, hki]; rfl
      obtain ⟨z0, z1, z2, z3, z4, z5⟩ := six (alloc_new wr (.cells #[.int .i64 k', .int .u64 x0, .int .u64 x1, .int .u64 x2, .int .u64 x3, .slice a' kids'.length cap'] 28))
      have HTK := Lib.hid htake
      clear hki hmv hl' htake
      go_wp2_with fail
      refine (HKC.out _ _ ok (RxV.mk_ hc' (RxL.move (fun k _ hlt => FK.out.block k hlt (fun h => h)) _ _ _ HL'.out))).mono ?_
      rintro e w2 ⟨rfl, h4⟩
      have K4 := Lib.hid ((HFr.out.tr FK.out).tr h4)
      clear h4 z0 z1 z2 z3 z4 z5 c0 c1 c2 c3 c4 c5
      cases hnu : (Rx.mk k' x0 x1 x2 x3 kids').null
      · have HNU := Lib.hid hnu
        clear hnu
        go_wp2_with fail
        go_ret
        exact ⟨by rw [show (Rx.mk 2 b0 b1 b2 b3 kids).null = false by simp only [Rx.null, allNull_eq]; simp; exact ⟨_, HMEM.out, HNU.out⟩]; rfl, K4.out⟩
      · have HNU := Lib.hid hnu
        clear hnu
        go_wp2_with fail
        go_roundw
        case rel => exact ⟨i + 1, by omega, by go_num, (show ∀ r ∈ kids.take (i + 1), r.null = true from fun r hr => by
          rw [HTK.out, List.mem_append] at hr
          rcases hr with hr | hr
          · exact HM.out r hr
          · rw [List.mem_singleton.1 hr]; exact HNU.out), K4.out⟩
        case measure => simp [intOf]; omega
    · obtain rfl : i = kids.length := by omega
      have htk : kids.take kids.length = kids := List.take_length
      rw [htk] at HM
      go_wp2_with fail
      go_ret
      exact ⟨by rw [show (Rx.mk 2 b0 b1 b2 b3 kids).null = true by simp only [Rx.null, allNull_eq]; simp; exact HM.out]; rfl, HFr.out⟩

set_option maxRecDepth 100000 in
set_option maxHeartbeats 4000000 in
theorem null_3 (b0 b1 b2 b3 : Nat) (kids : List Rx) (hk : kids.length ≤ 1000) (hsub : ∀ r ∈ kids, NullC r) : NullC (.mk 3 b0 b1 b2 b3 kids) := by
  intro v w ok hrv
  obtain ⟨a, cap, rfl, hc, hl⟩ := hrv.open_
  have F0 := Lib.hid ((Fr.refl none_ w).alloc (.cells #[.int .i64 3, .int .u64 b0, .int .u64 b1, .int .u64 b2, .int .u64 b3, .slice a kids.length cap] 28))
  obtain ⟨z0, z1, z2, z3, z4, z5⟩ := six (alloc_new w (.cells #[.int .i64 3, .int .u64 b0, .int .u64 b1, .int .u64 b2, .int .u64 b3, .slice a kids.length cap] 28))
  have HL := Lib.hid hl
  clear hrv hl
  have HS := Lib.hid hsub
  clear hsub
  go_enter Try.func34, Try.ntmps34
  go_wp2_with fail
  generalize hw1 : w.alloc (.cells #[.int .i64 3, .int .u64 b0, .int .u64 b1, .int .u64 b2, .int .u64 b3, .slice a kids.length cap] 28) = w1
  rw [hw1] at F0
  clear hw1 z0 z1 z2 z3 z4 z5
  go_loopw [30] (fun x wr => ∃ i : Nat, i ≤ kids.length ∧ x = .int .i64 i ∧ Aside (∀ r ∈ kids.take i, r.null = false) ∧ Aside (Fr none_ w wr)) (fun x _ => kids.length - (intOf x).toNat)
  case atStart => exact ⟨0, Nat.zero_le _, rfl, (show ∀ r ∈ kids.take 0, r.null = false by simp), F0.out⟩
  case round =>
    obtain ⟨i, hi', rfl, hM', hfr⟩ := hrel
    have HFr := Lib.hid hfr.out
    have HM := Lib.hid hM'.out
    clear hfr hM'
    by_cases hlt : i < kids.length
    · have hlt' : (i : Int) < (kids.length : Int) := by omega
      obtain ⟨⟨k', x0, x1, x2, x3, kids'⟩, hki⟩ : ∃ r, kids[i]? = some r := ⟨kids[i]'hlt, List.getElem?_eq_getElem hlt⟩
      have hmv : RxL ok wr a 0 kids := RxL.move (fun k _ hlt => HFr.out.block k hlt (fun h => h)) kids a 0 HL.out
      obtain ⟨ad, a', cap', rfl, hok, c0, c1, c2, c3, c4, c5, hc', hl'⟩ := hmv.elem hki
      have HL' := Lib.hid hl'
      have HMEM := Lib.hid (List.mem_of_getElem? hki)
      have HKC := Lib.hid (HS.out _ HMEM.out)
      have FK := Lib.hid (Fr.alloc (Fr.refl none_ wr) (.cells #[.int .i64 k', .int .u64 x0, .int .u64 x1, .int .u64 x2, .int .u64 x3, .slice a' kids'.length cap'] 28))
      have htake : kids.take (i + 1) = kids.take i ++ [.mk k' x0 x1 x2 x3 kids'] := by rw [List.take_add_one, hki]; rfl
      obtain ⟨z0, z1, z2, z3, z4, z5⟩ := six (alloc_new wr (.cells #[.int .i64 k', .int .u64 x0, .int .u64 x1, .int .u64 x2, .int .u64 x3, .slice a' kids'.length cap'] 28))
      have HTK := Lib.hid htake
      clear hki hmv hl' htake
      go_wp2_with fail
      refine (HKC.out _ _ ok (RxV.mk_ hc' (RxL.move (fun k _ hlt => FK.out.block k hlt (fun h => h)) _ _ _ HL'.out))).mono ?_
      rintro e w2 ⟨rfl, h4⟩
      have K4 := Lib.hid ((HFr.out.tr FK.out).tr h4)
      clear h4 z0 z1 z2 z3 z4 z5 c0 c1 c2 c3 c4 c5
      cases hnu : (Rx.mk k' x0 x1 x2 x3 kids').null
      · have HNU := Lib.hid hnu
        clear hnu
        go_wp2_with fail
        go_roundw
        case rel => exact ⟨i + 1, by omega, by go_num, (show ∀ r ∈ kids.take (i + 1), r.null = false from fun r hr => by
          rw [HTK.out, List.mem_append] at hr
          rcases hr with hr | hr
          · exact HM.out r hr
          · rw [List.mem_singleton.1 hr]; exact HNU.out), K4.out⟩
        case measure => simp [intOf]; omega
      · have HNU := Lib.hid hnu
        clear hnu
        go_wp2_with fail
        go_ret
        exact ⟨by rw [show (Rx.mk 3 b0 b1 b2 b3 kids).null = true by simp only [Rx.null, anyNull_eq]; simp; exact ⟨_, HMEM.out, HNU.out⟩]; rfl, K4.out⟩
    · obtain rfl : i = kids.length := by omega
      have htk : kids.take kids.length = kids := List.take_length
      rw [htk] at HM
      go_wp2_with fail
      go_ret
      exact ⟨by rw [show (Rx.mk 3 b0 b1 b2 b3 kids).null = false by simp only [Rx.null, anyNull_eq]; simp; exact HM.out]; rfl, HFr.out⟩

theorem null_all : ∀ (n : Nat) (r : Rx), r.size ≤ n → r.size ≤ 1000 → NullC r
  | 0, r, h, _ => by have := r.size_pos; omega
  | n + 1, .mk k b0 b1 b2 b3 kids, h, hr => by
    have hsub : ∀ r ∈ kids, NullC r := fun r hrm => by
      have := Rx.size_kid (k := k) (b0 := b0) (b1 := b1) (b2 := b2) (b3 := b3) hrm
      exact null_all n r (by omega) (by omega)
    have hk : kids.length ≤ 1000 := by have := Rx.length_le kids; simp only [Rx.size] at hr; omega
    by_cases h0 : k = 0
    · subst h0; exact null_0 b0 b1 b2 b3 kids
    by_cases h2 : k = 2
    · subst h2; exact null_2 b0 b1 b2 b3 kids hk hsub
    by_cases h3 : k = 3
    · subst h3; exact null_3 b0 b1 b2 b3 kids hk hsub
    by_cases h4 : k = 4
    · subst h4; exact null_4 b0 b1 b2 b3 kids
    exact null_other k h0 h2 h3 h4 b0 b1 b2 b3 kids
theorem nullable_any (r : Rx) (v : Value) (ok : Nat → Prop) (w : World) (hr : r.size ≤ 1000) (hv : RxV ok w v r) :
    Calls Try.prog 34 #[v] w fun e w' => e = .returned (.bool r.null) ∧ Fr none_ w w' := null_all r.size r (Nat.le_refl _) hr v w ok hv
end Go.Proofs.Ytgpmbkgedhcbjaa
