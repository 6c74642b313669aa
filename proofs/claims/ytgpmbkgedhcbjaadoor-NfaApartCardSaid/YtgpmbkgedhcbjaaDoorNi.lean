/-
  The walks over nfa's machine at work: Tags, Run.
-/
import Derived.Test.YtgpmbkgedhcbjaaDoorNh
namespace Go.Proofs.YtgpmbkgedhcbjaaDoor
open Go.RowKit

theorem tagsM_snoc (l : List St) (A : List Int) (a : Int) : tagsM l (A ++ [a]) = (if 0 ≤ a then match l[a.toNat]? with | some x => tagsM l A ||| bitM x.tag | none => tagsM l A else tagsM l A) := by
  simp only [tagsM, List.foldl_append, List.foldl_cons, List.foldl_nil]
  rfl
theorem tagsM_lt (l : List St) : ∀ (A : List Int), tagsM l A < 18446744073709551616 := by
  have key : ∀ (A : List Int) (s : Nat), s < 18446744073709551616 → A.foldl (fun s n => if 0 ≤ n then match l[n.toNat]? with | some x => s ||| bitM x.tag | none => s else s) s < 18446744073709551616 := by
    intro A
    induction A with
    | nil => intro s hs; exact hs
    | cons a A ih =>
      intro s hs
      rw [List.foldl_cons]
      apply ih
      split
      · cases l[a.toNat]? with
        | none => exact hs
        | some x => exact or_lt hs (bitM_lt _)
      · exact hs
  exact fun A => key A 0 (by decide)

set_option maxRecDepth 100000 in
set_option maxHeartbeats 4000000 in
theorem tags_any (dm : Nat) (S : Nat → Prop) (w : World) (l : List St) (starts : List Nat) (base : Nat) (av : Value) (A : List Int) (h : Mach dm S w l starts) (hlen : l.length ≤ 100000) (ha : w.ownsRow base 3 1 av A.length (intsV A)) (hA : A.length ≤ 1000000) :
    Calls Tryd.prog 13 #[.pointer (some ⟨dm, 0, none⟩), av] w fun e w' => e = .returned (.int .u64 (tagsM l A)) ∧ w = w' := by
  obtain ⟨vs, vt, fv, cells, hm⟩ := h
  have hdm := lt_of_block hm.head
  obtain ⟨sa, scap, rfl, hsc⟩ := ownsRow_slice hm.rows
  obtain ⟨aa, acap, rfl, hac⟩ := ownsRow_slice ha
  have c0 : w.cell? ⟨dm, 0, none⟩ = some (.slice sa l.length scap) := cell_of_block hm.head rfl
  have HM := Lib.hid hm
  have HA := Lib.hid ha
  clear hm ha
  go_enter Tryd.func13, Tryd.ntmps13
  go_wp2_with fail
  go_loop [5, 10] (fun x5 x10 => ∃ i : Nat, i ≤ A.length ∧ x10 = .int .i64 i ∧ x5 = .int .u64 (tagsM l (A.take i) : Nat)) (fun _ x10 => A.length - (intOf x10).toNat)
  case atStart => exact ⟨0, Nat.zero_le _, rfl, rfl⟩
  case round =>
    obtain ⟨i, hi', rfl, rfl⟩ := hrel
    by_cases hlt : i < A.length
    · obtain ⟨g, acap', hg, hg1, hg2⟩ := HA.out.form (by omega)
      cases hg
      have hil : (i : Int) < (A.length : Int) := by omega
      obtain ⟨a, hai⟩ : ∃ a, A[i]? = some a := ⟨A[i], List.getElem?_eq_getElem hlt⟩
      have ca : w.cell? ⟨g, i, none⟩ = some (.int .i64 a) := by
        rw [HA.out.cellAt i (by omega)]
        simp [intsV, hai]
      have htake : A.take (i + 1) = A.take i ++ [a] := by rw [List.take_add_one, hai]; rfl
      have HT := Lib.hid (show tagsM l (A.take (i + 1)) = (if 0 ≤ a then match l[a.toNat]? with | some x => tagsM l (A.take i) ||| bitM x.tag | none => tagsM l (A.take i) else tagsM l (A.take i)) by rw [htake, tagsM_snoc])
      have htl := tagsM_lt l (A.take i)
      clear htake hai
      obtain ⟨T, hT⟩ : ∃ T, tagsM l (A.take i) = T := ⟨_, rfl⟩
      rw [hT] at HT htl ⊢
      clear hT
      by_cases hin : 0 ≤ a ∧ a < l.length
      · obtain ⟨ai, rfl⟩ := Int.eq_ofNat_of_zero_le hin.1
        have hai : ai < l.length := by omega
        have hai' : ((ai : Nat) : Int) < (l.length : Int) := by omega
        clear hin
        obtain ⟨gs, scap', hsa, hgs1, hgs2⟩ := HM.out.rows.form (by omega)
        cases hsa
        obtain ⟨st, hst⟩ := HM.out.at hai
        obtain ⟨k, q0, q1, q2, q3, qa, qc, hrx, y1, y2, y3, y4, y5, y6, y7, y8⟩ := HM.out.cellsAt hst
        have HN := Lib.hid (show (if 0 ≤ (ai : Int) then match l[(ai : Int).toNat]? with | some x => T ||| bitM x.tag | none => T else T) = T ||| bitM st.tag by simp [hst])
        clear hrx hst y1 y2 y3 y4 y5 y6 y7
        go_wp2_with fail
        refine (with_any T st.tag _ htl).mono ?_
        rintro e w' ⟨rfl, rfl⟩
        go_wp2_with fail
        go_round
        case rel => exact ⟨i + 1, by omega, by go_num, by rw [HT.out, HN.out]⟩
        case measure => simp [intOf]; omega
      · have HN := Lib.hid (show (if 0 ≤ a then match l[a.toNat]? with | some x => T ||| bitM x.tag | none => T else T) = T by
          by_cases h0 : 0 ≤ a
          · have : l[a.toNat]? = none := List.getElem?_eq_none (by omega)
            simp [h0, this]
          · simp [h0])
        by_cases ha0 : a < 0
        · clear hin
          go_wp2_with fail
          go_round
          case rel => exact ⟨i + 1, by omega, by go_num, by rw [HT.out, HN.out]⟩
          case measure => simp [intOf]; omega
        · have ha0' : 0 ≤ a := by omega
          have hal : (l.length : Int) ≤ a := by omega
          clear hin ha0
          go_wp2_with fail
          go_round
          case rel => exact ⟨i + 1, by omega, by go_num, by rw [HT.out, HN.out]⟩
          case measure => simp [intOf]; omega
    · obtain rfl : i = A.length := by omega
      rw [List.take_length]
      go_wp2_with fail
      go_ret
      exact ⟨rfl, rfl⟩

def bytesN (s : ByteArray) : List Nat := s.data.toList.map fun b => b.toNat
theorem bytesN_length (s : ByteArray) : (bytesN s).length = s.size := by simp [bytesN]
theorem bytesN_take (s : ByteArray) (i : Nat) (h : i < s.size) : (bytesN s).take (i + 1) = (bytesN s).take i ++ [byteAt s i] := by
  rw [List.take_add_one]
  congr 1
  have : (bytesN s)[i]? = some (byteAt s i) := by
    simp only [bytesN, List.getElem?_map, byteAt, h, dif_pos]
    have h2 : s.data.toList[i]? = some s[i] := by
      rw [Array.getElem?_toList]
      exact Array.getElem?_eq_getElem h
    rw [h2]; rfl
  rw [this]; rfl
theorem atM_length (l : List St) (starts : List Nat) (bs : List Nat) : (atM l starts bs).length ≤ l.length := by
  obtain ⟨W, hW⟩ : ∃ W, atM l starts bs = closedM l W := by
    rcases List.eq_nil_or_concat bs with rfl | ⟨l', b, rfl⟩
    · exact ⟨_, rfl⟩
    · rw [List.concat_eq_append]; exact ⟨_, by simp only [atM, List.foldl_append, List.foldl_cons, List.foldl_nil]; rfl⟩
  rw [hW]
  unfold closedM
  have := List.length_filter_le (fun i => decide (i ∈ visit l W)) (List.range l.length)
  simpa using this
theorem ints_length (l : List Nat) : (ints l).length = l.length := by simp [ints]

set_option maxRecDepth 100000 in
set_option maxHeartbeats 4000000 in
theorem run_any (dm : Nat) (S : Nat → Prop) (w : World) (l : List St) (starts : List Nat) (s : ByteArray) (h : Mach dm S w l starts) (hf : Fit l) (hs : starts.length ≤ 1000) (hsz : s.size ≤ 100000) :
    Calls Tryd.prog 10 #[.pointer (some ⟨dm, 0, none⟩), .string s] w fun e w' => e = .returned (.int .u64 (runM l starts (bytesN s))) ∧ Fr none_ w w' := by
  have HM := Lib.hid h.below
  have HF := Lib.hid hf
  clear h hf
  go_enter Tryd.func10, Tryd.ntmps10
  go_wp2_with fail
  refine (begin_any dm _ w l starts HM.out HF.out hs).mono ?_
  rintro e w1 ⟨v1, rfl, h1, f1⟩
  have H1 := Lib.hid h1
  have F1 := Lib.hid f1
  clear h1 f1
  go_wp2_with fail
  go_loopw [5, 11] (fun x5 x11 wr => ∃ i : Nat, i ≤ s.size ∧ x11 = .int .i64 i ∧ Aside (wr.ownsRow w.heap.size 3 1 x5 (atM l starts ((bytesN s).take i)).length (nums (atM l starts ((bytesN s).take i)))) ∧ Aside (Fr none_ w wr)) (fun _ x11 _ => s.size - (intOf x11).toNat)
  case atStart => exact ⟨0, Nat.zero_le _, rfl, H1.out, F1.out⟩
  case round =>
    obtain ⟨i, hi', rfl, h5', hF'⟩ := hrel
    have H5 := Lib.hid h5'.out
    have HFr := Lib.hid hF'.out
    clear h5' hF'
    have HMr := Lib.hid (HM.out.move HFr.out (fun _ h => h.elim))
    have hal : (atM l starts ((bytesN s).take i)).length ≤ 1000000 := by have := atM_length l starts ((bytesN s).take i); have := HF.out.len; omega
    have H5i := H5.out
    rw [nums_eq, ← ints_length] at H5i
    have H5I := Lib.hid H5i
    have HAL := Lib.hid (show (ints (atM l starts ((bytesN s).take i))).length ≤ 1000000 by rw [ints_length]; exact hal)
    clear H5i hal
    by_cases hlt : i < s.size
    · have hil : (i : Int) < (s.size : Int) := by omega
      have HT := Lib.hid (show atM l starts ((bytesN s).take (i + 1)) = stepM l (ints (atM l starts ((bytesN s).take i))) (byteAt s i) by
        rw [bytesN_take s i hlt]; simp [atM])
      have hbl := byteAt_lt s i
      have hbe := byteAt_eq s i hlt
      have HBE := Lib.hid hbe
      clear hbe
      go_wp2_with fail
      rw [HBE.out]
      refine (step_any dm _ wr l starts w.heap.size _ (ints (atM l starts ((bytesN s).take i))) (byteAt s i) HMr.out HF.out H5I.out HAL.out hbl).mono ?_
      rintro e w2 ⟨v2, rfl, h2, f2⟩
      have H2 := Lib.hid h2
      have F2 := Lib.hid (HFr.out.tr f2)
      clear h2 f2
      go_wp2_with fail
      go_roundw
      case rel =>
        refine ⟨i + 1, by omega, by go_num, ?_, F2.out⟩
        rw [HT.out]
        refine ⟨H2.out.1, ?_⟩
        rcases H2.out.2 with h | ⟨g, cap, cur, q1, q2, q3⟩
        · exact .inl h
        · exact .inr ⟨g, cap, cur, q1, by have := HFr.out.size; omega, q3⟩
      case measure => simp [intOf]; omega
    · obtain rfl : i = s.size := by omega
      have htk : (bytesN s).take s.size = bytesN s := List.take_of_length_le (by rw [bytesN_length]; exact Nat.le_refl _)
      rw [htk] at H5I HAL
      go_wp2_with fail
      refine (tags_any dm _ wr l starts w.heap.size _ (ints (atM l starts (bytesN s))) HMr.out HF.out.len H5I.out HAL.out).mono ?_
      rintro e w2 ⟨rfl, rfl⟩
      go_wp2_with fail
      go_ret
      exact ⟨rfl, HFr.out⟩
end Go.Proofs.YtgpmbkgedhcbjaaDoor
