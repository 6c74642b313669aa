/-
  The walks over nfa's machine at work: Begin, Step, Tags, Run.
-/
import Derived.Test.YtgpmbkgedhcbjaaDoorNd
import Derived.Test.YtgpmbkgedhcbjaaDoorNe
namespace Go.Proofs.YtgpmbkgedhcbjaaDoor
open Go.RowKit

structure Fit (l : List St) : Prop where
  len : l.length ≤ 100000
  sum : todo l [] ≤ 5000000000

theorem Mach.below {dm : Nat} {S : Nat → Prop} {w : World} {l : List St} {starts : List Nat} (h : Mach dm S w l starts) : Mach dm (fun k => S k ∧ k < w.heap.size) w l starts :=
  h.mono (fun k hk hs => ⟨hs, hk⟩) (fun k hk => h.sep k hk.1)

set_option maxRecDepth 100000 in
set_option maxHeartbeats 1000000 in
theorem begin_any (dm : Nat) (S : Nat → Prop) (w : World) (l : List St) (starts : List Nat) (h : Mach dm S w l starts) (hf : Fit l) (hs : starts.length ≤ 1000) :
    Calls Tryd.prog 15 #[.pointer (some ⟨dm, 0, none⟩)] w fun e w' => ∃ v', e = .returned v' ∧ w'.ownsRow w.heap.size 3 1 v' (closedM l (ints starts)).length (nums (closedM l (ints starts))) ∧ Fr none_ w w' := by
  obtain ⟨vs, vt, fv, cells, hm⟩ := h.below
  have hdm := lt_of_block hm.head
  have c1 : w.cell? ⟨dm, 1, none⟩ = some vt := cell_of_block hm.head rfl
  have HM := Lib.hid hm
  have HF := Lib.hid hf
  have hlen := hf.len
  have hw : meas l [] (ints starts) ≤ 10000000000 := by
    have := hf.sum
    simp only [meas, ints, List.length_map]
    omega
  have HW := Lib.hid hw
  clear hm hf hw h
  have key : ∀ (v' : Value) (w1 : World), w1.ownsRow w.heap.size 3 1 v' (ints starts).length (intsV (ints starts)) → Fr none_ w w1 →
      Calls Tryd.prog 28 #[.pointer (some ⟨dm, 0, none⟩), v'] w1 fun e w' => ∃ v', e = .returned v' ∧ w'.ownsRow w.heap.size 3 1 v' (closedM l (ints starts)).length (nums (closedM l (ints starts))) ∧ Fr none_ w w' := by
    intro v' w1 hown hfr
    have hmv : Mach dm (fun k => S k ∧ k < w.heap.size) w1 l starts := ⟨_, _, _, _, HM.out.move hfr (fun _ h => h.elim)⟩
    refine (closed_any dm _ w1 l starts w.heap.size v' (ints starts) hmv hlen hown hfr.size (fun b hb => ⟨by have := (hown.lt b hb).1; omega, fun h => by have := (hown.lt b hb).1; omega⟩) HW.out).mono ?_
    rintro e w2 ⟨v2, rfl, h2, f2⟩
    refine ⟨v2, rfl, ⟨h2.1, ?_⟩, hfr.fresh f2 (fun i hi => (hown.lt i hi).1)⟩
    rcases h2.2 with h | ⟨g, cap, cur, q1, q2, q3⟩
    · exact .inl h
    · exact .inr ⟨g, cap, cur, q1, by have := hfr.size; omega, q3⟩
  have KEY := Lib.hid key
  clear key
  have HB := Lib.hid HM.out.begins
  have hil : (ints starts).length = starts.length := by simp [ints]
  have HIL := Lib.hid hil
  clear hil
  rcases HB.out.2 with ⟨rfl, h0⟩ | ⟨g, cap, cur, rfl, hg, hcur, hnc, _⟩
  · have hs0 : starts = [] := List.eq_nil_of_length_eq_zero h0
    subst hs0
    go_enter Tryd.func15, Tryd.ntmps15
    go_wp2_with fail
    refine (Tryd.slices_Clone_int_nil _ _ _).mono ?_
    rintro e w' ⟨rfl, rfl⟩
    go_wp2_with fail
    refine (KEY.out _ _ (World.ownsRow_nil _ _ _ _) (Fr.refl _ _)).mono ?_
    rintro e w' ⟨v', rfl, h1, h2⟩
    have H1 := Lib.hid h1
    have H2 := Lib.hid h2
    clear h1 h2
    go_wp2_with fail
    go_ret
    exact ⟨_, rfl, H1.out, H2.out⟩
  · rcases Nat.eq_zero_or_pos starts.length with h0 | h0
    · have hs0 : starts = [] := List.eq_nil_of_length_eq_zero h0
      subst hs0
      clear hcur
      go_enter Tryd.func15, Tryd.ntmps15
      go_wp2_with fail
      refine (Tryd.slices_Clone_int_zero _ _ _).mono ?_
      rintro e w' ⟨v1, rfl, h1, _, h2⟩
      have F1 := Lib.hid (Fr.of_below h2)
      have H1 := Lib.hid h1
      clear h1 h2
      go_wp2_with fail
      refine (KEY.out _ _ H1.out F1.out).mono ?_
      rintro e w' ⟨v', rfl, h1, h2⟩
      have H1 := Lib.hid h1
      have H2 := Lib.hid h2
      clear h1 h2
      go_wp2_with fail
      go_ret
      exact ⟨_, rfl, H1.out, H2.out⟩
    · have HC := Lib.hid (show ∀ j, j < (ints starts).length → w.cell? ⟨g, 0 + j, none⟩ = some (.int .i64 ((ints starts).getD j 0)) from fun j hj => by
        rw [HIL.out] at hj
        rw [Nat.zero_add, HB.out.cellAt j (by omega), nums_eq]
        simp [intsV, ints, hj])
      clear hcur
      go_enter Tryd.func15, Tryd.ntmps15
      go_wp2_with fail
      refine (Tryd.slices_Clone_int g 0 starts.length _ (ints starts) _ (by rw [HIL.out]; exact Nat.le_refl _) (by omega) HC.out).mono ?_
      rintro e w' ⟨v1, rfl, h1, _, h2⟩
      have F1 := Lib.hid (Fr.of_below h2)
      have H1 := Lib.hid h1
      clear h1 h2
      go_wp2_with fail
      refine (KEY.out _ _ (by
        have h := H1.out
        rw [← HIL.out, List.take_length] at h
        exact h) F1.out).mono ?_
      rintro e w' ⟨v', rfl, h1, h2⟩
      have H1 := Lib.hid h1
      have H2 := Lib.hid h2
      clear h1 h2
      go_wp2_with fail
      go_ret
      exact ⟨_, rfl, H1.out, H2.out⟩

theorem stepW_snoc (l : List St) (A : List Int) (a : Int) (b : Nat) : stepW l (A ++ [a]) b = stepW l A b ++ stepW l [a] b := by simp [stepW]
theorem stepW_length (l : List St) (A : List Int) (b : Nat) : (stepW l A b).length ≤ A.length := List.length_filterMap_le _ _
end Go.Proofs.YtgpmbkgedhcbjaaDoor
