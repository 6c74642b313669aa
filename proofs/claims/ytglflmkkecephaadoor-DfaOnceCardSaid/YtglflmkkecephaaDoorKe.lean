/-
  Run of an automaton.
-/
import Derived.Test.YtglflmkkecephaaDoorKd
import Derived.Deep.MidRow
namespace Go.Proofs.YtglflmkkecephaaDoor
open Go.RowKit

theorem lot0 {α : Type} {x0 : α} {l : List α} : (x0 :: l).toArray[0]? = some x0 := rfl
theorem lot1 {α : Type} {x0 x1 : α} {l : List α} : (x0 :: x1 :: l).toArray[1]? = some x1 := rfl
theorem lot2 {α : Type} {x0 x1 x2 : α} {l : List α} : (x0 :: x1 :: x2 :: l).toArray[2]? = some x2 := rfl
theorem lot3 {α : Type} {x0 x1 x2 x3 : α} {l : List α} : (x0 :: x1 :: x2 :: x3 :: l).toArray[3]? = some x3 := rfl
theorem lot4 {α : Type} {x0 x1 x2 x3 x4 : α} {l : List α} : (x0 :: x1 :: x2 :: x3 :: x4 :: l).toArray[4]? = some x4 := rfl
theorem lot5 {α : Type} {x0 x1 x2 x3 x4 x5 : α} {l : List α} : (x0 :: x1 :: x2 :: x3 :: x4 :: x5 :: l).toArray[5]? = some x5 := rfl
theorem lot6 {α : Type} {x0 x1 x2 x3 x4 x5 x6 : α} {l : List α} : (x0 :: x1 :: x2 :: x3 :: x4 :: x5 :: x6 :: l).toArray[6]? = some x6 := rfl
theorem lot7 {α : Type} {x0 x1 x2 x3 x4 x5 x6 x7 : α} {l : List α} : (x0 :: x1 :: x2 :: x3 :: x4 :: x5 :: x6 :: x7 :: l).toArray[7]? = some x7 := rfl
theorem lot8 {α : Type} {x0 x1 x2 x3 x4 x5 x6 x7 x8 : α} {l : List α} : (x0 :: x1 :: x2 :: x3 :: x4 :: x5 :: x6 :: x7 :: x8 :: l).toArray[8]? = some x8 := rfl
theorem lot9 {α : Type} {x0 x1 x2 x3 x4 x5 x6 x7 x8 x9 : α} {l : List α} : (x0 :: x1 :: x2 :: x3 :: x4 :: x5 :: x6 :: x7 :: x8 :: x9 :: l).toArray[9]? = some x9 := rfl
theorem lot10 {α : Type} {x0 x1 x2 x3 x4 x5 x6 x7 x8 x9 x10 : α} {l : List α} : (x0 :: x1 :: x2 :: x3 :: x4 :: x5 :: x6 :: x7 :: x8 :: x9 :: x10 :: l).toArray[10]? = some x10 := rfl
theorem lot11 {α : Type} {x0 x1 x2 x3 x4 x5 x6 x7 x8 x9 x10 x11 : α} {l : List α} : (x0 :: x1 :: x2 :: x3 :: x4 :: x5 :: x6 :: x7 :: x8 :: x9 :: x10 :: x11 :: l).toArray[11]? = some x11 := rfl
theorem lot12 {α : Type} {x0 x1 x2 x3 x4 x5 x6 x7 x8 x9 x10 x11 x12 : α} {l : List α} : (x0 :: x1 :: x2 :: x3 :: x4 :: x5 :: x6 :: x7 :: x8 :: x9 :: x10 :: x11 :: x12 :: l).toArray[12]? = some x12 := rfl
theorem lot13 {α : Type} {x0 x1 x2 x3 x4 x5 x6 x7 x8 x9 x10 x11 x12 x13 : α} {l : List α} : (x0 :: x1 :: x2 :: x3 :: x4 :: x5 :: x6 :: x7 :: x8 :: x9 :: x10 :: x11 :: x12 :: x13 :: l).toArray[13]? = some x13 := rfl
theorem lot14 {α : Type} {x0 x1 x2 x3 x4 x5 x6 x7 x8 x9 x10 x11 x12 x13 x14 : α} {l : List α} : (x0 :: x1 :: x2 :: x3 :: x4 :: x5 :: x6 :: x7 :: x8 :: x9 :: x10 :: x11 :: x12 :: x13 :: x14 :: l).toArray[14]? = some x14 := rfl
theorem lot15 {α : Type} {x0 x1 x2 x3 x4 x5 x6 x7 x8 x9 x10 x11 x12 x13 x14 x15 : α} {l : List α} : (x0 :: x1 :: x2 :: x3 :: x4 :: x5 :: x6 :: x7 :: x8 :: x9 :: x10 :: x11 :: x12 :: x13 :: x14 :: x15 :: l).toArray[15]? = some x15 := rfl
theorem lot16 {α : Type} {x0 x1 x2 x3 x4 x5 x6 x7 x8 x9 x10 x11 x12 x13 x14 x15 x16 : α} {l : List α} : (x0 :: x1 :: x2 :: x3 :: x4 :: x5 :: x6 :: x7 :: x8 :: x9 :: x10 :: x11 :: x12 :: x13 :: x14 :: x15 :: x16 :: l).toArray[16]? = some x16 := rfl
theorem lot17 {α : Type} {x0 x1 x2 x3 x4 x5 x6 x7 x8 x9 x10 x11 x12 x13 x14 x15 x16 x17 : α} {l : List α} : (x0 :: x1 :: x2 :: x3 :: x4 :: x5 :: x6 :: x7 :: x8 :: x9 :: x10 :: x11 :: x12 :: x13 :: x14 :: x15 :: x16 :: x17 :: l).toArray[17]? = some x17 := rfl
theorem lot18 {α : Type} {x0 x1 x2 x3 x4 x5 x6 x7 x8 x9 x10 x11 x12 x13 x14 x15 x16 x17 x18 : α} {l : List α} : (x0 :: x1 :: x2 :: x3 :: x4 :: x5 :: x6 :: x7 :: x8 :: x9 :: x10 :: x11 :: x12 :: x13 :: x14 :: x15 :: x16 :: x17 :: x18 :: l).toArray[18]? = some x18 := rfl
theorem lot19 {α : Type} {x0 x1 x2 x3 x4 x5 x6 x7 x8 x9 x10 x11 x12 x13 x14 x15 x16 x17 x18 x19 : α} {l : List α} : (x0 :: x1 :: x2 :: x3 :: x4 :: x5 :: x6 :: x7 :: x8 :: x9 :: x10 :: x11 :: x12 :: x13 :: x14 :: x15 :: x16 :: x17 :: x18 :: x19 :: l).toArray[19]? = some x19 := rfl
theorem lot20 {α : Type} {x0 x1 x2 x3 x4 x5 x6 x7 x8 x9 x10 x11 x12 x13 x14 x15 x16 x17 x18 x19 x20 : α} {l : List α} : (x0 :: x1 :: x2 :: x3 :: x4 :: x5 :: x6 :: x7 :: x8 :: x9 :: x10 :: x11 :: x12 :: x13 :: x14 :: x15 :: x16 :: x17 :: x18 :: x19 :: x20 :: l).toArray[20]? = some x20 := rfl
theorem lot21 {α : Type} {x0 x1 x2 x3 x4 x5 x6 x7 x8 x9 x10 x11 x12 x13 x14 x15 x16 x17 x18 x19 x20 x21 : α} {l : List α} : (x0 :: x1 :: x2 :: x3 :: x4 :: x5 :: x6 :: x7 :: x8 :: x9 :: x10 :: x11 :: x12 :: x13 :: x14 :: x15 :: x16 :: x17 :: x18 :: x19 :: x20 :: x21 :: l).toArray[21]? = some x21 := rfl
theorem lot22 {α : Type} {x0 x1 x2 x3 x4 x5 x6 x7 x8 x9 x10 x11 x12 x13 x14 x15 x16 x17 x18 x19 x20 x21 x22 : α} {l : List α} : (x0 :: x1 :: x2 :: x3 :: x4 :: x5 :: x6 :: x7 :: x8 :: x9 :: x10 :: x11 :: x12 :: x13 :: x14 :: x15 :: x16 :: x17 :: x18 :: x19 :: x20 :: x21 :: x22 :: l).toArray[22]? = some x22 := rfl
theorem lot23 {α : Type} {x0 x1 x2 x3 x4 x5 x6 x7 x8 x9 x10 x11 x12 x13 x14 x15 x16 x17 x18 x19 x20 x21 x22 x23 : α} {l : List α} : (x0 :: x1 :: x2 :: x3 :: x4 :: x5 :: x6 :: x7 :: x8 :: x9 :: x10 :: x11 :: x12 :: x13 :: x14 :: x15 :: x16 :: x17 :: x18 :: x19 :: x20 :: x21 :: x22 :: x23 :: l).toArray[23]? = some x23 := rfl
theorem lot24 {α : Type} {x0 x1 x2 x3 x4 x5 x6 x7 x8 x9 x10 x11 x12 x13 x14 x15 x16 x17 x18 x19 x20 x21 x22 x23 x24 : α} {l : List α} : (x0 :: x1 :: x2 :: x3 :: x4 :: x5 :: x6 :: x7 :: x8 :: x9 :: x10 :: x11 :: x12 :: x13 :: x14 :: x15 :: x16 :: x17 :: x18 :: x19 :: x20 :: x21 :: x22 :: x23 :: x24 :: l).toArray[24]? = some x24 := rfl
theorem lot25 {α : Type} {x0 x1 x2 x3 x4 x5 x6 x7 x8 x9 x10 x11 x12 x13 x14 x15 x16 x17 x18 x19 x20 x21 x22 x23 x24 x25 : α} {l : List α} : (x0 :: x1 :: x2 :: x3 :: x4 :: x5 :: x6 :: x7 :: x8 :: x9 :: x10 :: x11 :: x12 :: x13 :: x14 :: x15 :: x16 :: x17 :: x18 :: x19 :: x20 :: x21 :: x22 :: x23 :: x24 :: x25 :: l).toArray[25]? = some x25 := rfl
theorem lot26 {α : Type} {x0 x1 x2 x3 x4 x5 x6 x7 x8 x9 x10 x11 x12 x13 x14 x15 x16 x17 x18 x19 x20 x21 x22 x23 x24 x25 x26 : α} {l : List α} : (x0 :: x1 :: x2 :: x3 :: x4 :: x5 :: x6 :: x7 :: x8 :: x9 :: x10 :: x11 :: x12 :: x13 :: x14 :: x15 :: x16 :: x17 :: x18 :: x19 :: x20 :: x21 :: x22 :: x23 :: x24 :: x25 :: x26 :: l).toArray[26]? = some x26 := rfl
theorem lot27 {α : Type} {x0 x1 x2 x3 x4 x5 x6 x7 x8 x9 x10 x11 x12 x13 x14 x15 x16 x17 x18 x19 x20 x21 x22 x23 x24 x25 x26 x27 : α} {l : List α} : (x0 :: x1 :: x2 :: x3 :: x4 :: x5 :: x6 :: x7 :: x8 :: x9 :: x10 :: x11 :: x12 :: x13 :: x14 :: x15 :: x16 :: x17 :: x18 :: x19 :: x20 :: x21 :: x22 :: x23 :: x24 :: x25 :: x26 :: x27 :: l).toArray[27]? = some x27 := rfl
theorem lot28 {α : Type} {x0 x1 x2 x3 x4 x5 x6 x7 x8 x9 x10 x11 x12 x13 x14 x15 x16 x17 x18 x19 x20 x21 x22 x23 x24 x25 x26 x27 x28 : α} {l : List α} : (x0 :: x1 :: x2 :: x3 :: x4 :: x5 :: x6 :: x7 :: x8 :: x9 :: x10 :: x11 :: x12 :: x13 :: x14 :: x15 :: x16 :: x17 :: x18 :: x19 :: x20 :: x21 :: x22 :: x23 :: x24 :: x25 :: x26 :: x27 :: x28 :: l).toArray[28]? = some x28 := rfl
theorem lot29 {α : Type} {x0 x1 x2 x3 x4 x5 x6 x7 x8 x9 x10 x11 x12 x13 x14 x15 x16 x17 x18 x19 x20 x21 x22 x23 x24 x25 x26 x27 x28 x29 : α} {l : List α} : (x0 :: x1 :: x2 :: x3 :: x4 :: x5 :: x6 :: x7 :: x8 :: x9 :: x10 :: x11 :: x12 :: x13 :: x14 :: x15 :: x16 :: x17 :: x18 :: x19 :: x20 :: x21 :: x22 :: x23 :: x24 :: x25 :: x26 :: x27 :: x28 :: x29 :: l).toArray[29]? = some x29 := rfl

theorem range_of {w : World} {g : Nat} {C : List Value} {t : TypeId} (h : w.heap[g]? = some (.cells C.toArray t (0, 0))) : w.rangeAt g 0 C := fun j v hv => by
  rw [Nat.zero_add, Lib.cell_of_heap h]
  simpa using hv
theorem dfa_info : (Tryd.prog.info? 29).map (·.size) = some 258 := by kernel_rfl
theorem atD_snoc (D : Dfa) (a : Int) (l : List Nat) (b : Nat) : atD D a (l ++ [b]) = goM D (atD D a l) b := by simp [atD]
theorem dfaC_length (cls : List Int) (nv tv : Value) (h : cls.length = 256) : (dfaC cls nv tv).length = 258 := by
  rw [dfaC, List.length_append, intsV_length, h]; rfl
theorem go_range (D : Dfa) (a : Int) (b : Nat) : goM D a b = -1 ∨ (0 ≤ goM D a b ∧ goM D a b < D.next.length) := by
  unfold goM
  simp only []
  split
  · exact .inl rfl
  · split
    · exact .inl rfl
    · exact .inr (by omega)

set_option maxRecDepth 100000 in
set_option maxHeartbeats 4000000 in
theorem drun_any (D : Dfa) (v : Value) (s : ByteArray) (w : World) (h : DfaIn w v D) (hs : s.size < 4611686018427387904) :
    Calls Tryd.prog 14 #[v, .string s] w fun e w' => e = .returned (.int .u64 (runD D (bytesN s))) ∧ Fr none_ w w' := by
  have HD := Lib.hid h
  obtain ⟨nv, tv, rfl, hn, ht⟩ := h.ex
  obtain ⟨na, ncap, rfl, _⟩ := hn
  obtain ⟨ta, tcap, rfl, htag⟩ := ht
  have HT := Lib.hid htag
  obtain ⟨h256, h257⟩ := dfaC_at h.len (.slice na D.next.length ncap) (.slice ta D.tags.length tcap)
  have HC := Lib.hid (dfaC_length D.cls (.slice na D.next.length ncap) (.slice ta D.tags.length tcap) h.len)
  obtain ⟨C, hC⟩ : ∃ C, dfaC D.cls (.slice na D.next.length ncap) (.slice ta D.tags.length tcap) = C := ⟨_, rfl⟩
  rw [hC] at h256 h257 HC HD ⊢
  clear hC h htag
  have NB := Lib.hid (alloc_new w (.cells C.toArray 29))
  have H256 := Lib.hid h256
  have H257 := Lib.hid h257
  have HF := Lib.hid ((Fr.refl none_ w).alloc (.cells C.toArray 29))
  clear h256 h257
  go_enter Tryd.func14, Tryd.ntmps14
  go_wp2_with fail
  go_loopw [5, 9] (fun x5 x9 wr => ∃ i : Nat, i ≤ s.size ∧ x9 = .int .i64 i ∧ x5 = .int .i64 (atD D 0 ((bytesN s).take i)) ∧ Aside (Fr none_ (w.alloc (.cells C.toArray 29)) wr)) (fun _ x9 _ => s.size - (intOf x9).toNat)
  case atStart => exact ⟨0, Nat.zero_le _, rfl, rfl, Fr.refl _ _⟩
  case round =>
    obtain ⟨i, hi', rfl, rfl, hF'⟩ := hrel
    have HFr := Lib.hid hF'.out
    clear hF'
    obtain ⟨at_, hat⟩ : ∃ a, atD D 0 ((bytesN s).take i) = a := ⟨_, rfl⟩
    have HAT := Lib.hid hat
    rw [hat]
    clear hat
    by_cases hlt : i < s.size
    · have hil : (i : Int) < (s.size : Int) := by omega
      have hi0 : (0 : Int) ≤ (i : Int) := by omega
      have HS := Lib.hid (show atD D 0 ((bytesN s).take (i + 1)) = goM D at_ (byteAt s i) by
        rw [bytesN_take s i hlt, atD_snoc, HAT.out])
      have hbl := byteAt_lt s i
      have hbe := byteAt_eq s i hlt
      have HBE := Lib.hid hbe
      clear hbe
      go_wp2_with fail
      refine wp_region_held_drew (S := fun w' => w'.rangeAt w.heap.size 0 C) (by kernel_rfl) (range_of (HFr.out.drew.at_ NB.out (fun h => h))) (fun hHeld => ?_)
      refine wpAnyH_take (i := 0) lot0 (by kernel_rfl) (by kernel_rfl) (by kernel_rfl) (fun _ _ _ h => h) (yieldsIf_load_mid (by rfl) _ _ rfl _ _ rfl C _ (fun _ h => h) Tryd.underlying29 rfl (by rw [HC.out]; exact dfa_info)) (by assumption) ?_
      try simp only [Act.put, List.setIfInBounds_toArray, List.set_cons_zero, List.set_cons_succ]
      refine wpAnyH_take (i := 1) (v := ?_) lot1 (by kernel_rfl) (by kernel_rfl) (by kernel_rfl) (fun _ _ _ h => h) (Or.inl ⟨by rfl, ?_⟩) (by assumption) ?_
      rotate_left
      · (intro w hSw; (try dsimp only at hSw); go_simp) <;> with_reducible rfl
      try simp only [Act.put, List.setIfInBounds_toArray, List.set_cons_zero, List.set_cons_succ]
      refine wpAnyH_take (i := 2) (v := ?_) lot2 (by kernel_rfl) (by kernel_rfl) (by kernel_rfl) (fun _ _ _ h => h) (Or.inl ⟨by rfl, ?_⟩) (by assumption) ?_
      rotate_left
      · (intro w hSw; (try dsimp only at hSw); go_simp) <;> with_reducible rfl
      try simp only [Act.put, List.setIfInBounds_toArray, List.set_cons_zero, List.set_cons_succ]
      refine wpAnyH_take (i := 3) (v := ?_) lot3 (by kernel_rfl) (by kernel_rfl) (by kernel_rfl) (fun _ _ _ h => h) (Or.inl ⟨by rfl, ?_⟩) (by assumption) ?_
      rotate_left
      · (intro w hSw; (try dsimp only at hSw); go_simp) <;> with_reducible rfl
      try simp only [Act.put, List.setIfInBounds_toArray, List.set_cons_zero, List.set_cons_succ]
      refine wpAnyH_take (i := 4) (v := ?_) lot4 (by kernel_rfl) (by kernel_rfl) (by kernel_rfl) (fun _ _ _ h => h) (Or.inl ⟨by rfl, ?_⟩) (by assumption) ?_
      rotate_left
      · (intro w hSw; (try dsimp only at hSw); go_simp) <;> with_reducible rfl
      try simp only [Act.put, List.setIfInBounds_toArray, List.set_cons_zero, List.set_cons_succ]
      refine wpAnyH_ready (rs := [5]) (by kernel_rfl) (by simp) ?_
      refine AllReadyH.cons lot5 (fun K hK => ?_) AllReadyH.nil
      go_simp
      go_at_call 13
      rw [HBE.out]
      refine (dgo_any D _ at_ (byteAt s i) _ (HD.out.move (HF.out.tr HFr.out.drew)) hbl).mono ?_
      rintro e wx ⟨rfl, Fx⟩
      have Gx := Lib.hid ((HFr.out.drew).tr Fx)
      clear Fx
      refine hK.out _ _ (range_of (Gx.out.at_ NB.out (fun h => h))) (fun hHeld => ?_)
      clear hK K
      try simp only [Act.put, List.setIfInBounds_toArray, List.set_cons_zero, List.set_cons_succ]
      refine wpAnyH_take (i := 6) (v := ?_) lot6 (by kernel_rfl) (by kernel_rfl) (by kernel_rfl) (fun _ _ _ h => h) (Or.inl ⟨by rfl, ?_⟩) (by assumption) ?_
      rotate_left
      · (intro w hSw; (try dsimp only at hSw); go_simp) <;> with_reducible rfl
      try simp only [Act.put, List.setIfInBounds_toArray, List.set_cons_zero, List.set_cons_succ]
      refine wpAnyH_done (by kernel_rfl) ?_ _
      go_wp2_with fail
      go_roundw
      case rel => exact ⟨i + 1, by omega, by go_num, by rw [HS.out], Gx.out⟩
      case measure => simp [intOf]; omega
    · obtain rfl : i = s.size := by omega
      have htk : (bytesN s).take s.size = bytesN s := List.take_of_length_le (by rw [bytesN_length]; exact Nat.le_refl _)
      have HAT2 := HAT.out
      rw [htk] at HAT2
      have HR := Lib.hid (show runD D (bytesN s) = tagD D at_ by rw [runD, HAT2])
      clear HAT2 htk
      have NBr := HFr.out.at_ NB.out (fun h => h)
      have f1 : wr.cell? ⟨w.heap.size, 256, none⟩ = some (.slice na D.next.length ncap) := by rw [Lib.cell_of_heap NBr]; simpa using H256.out
      have f2 : wr.cell? ⟨w.heap.size, 257, none⟩ = some (.slice ta D.tags.length tcap) := by rw [Lib.cell_of_heap NBr]; simpa using H257.out
      have HW := Lib.hid (HF.out.tr HFr.out)
      obtain ⟨N, hN⟩ : ∃ N, D.next.length = N := ⟨_, rfl⟩
      obtain ⟨M, hM⟩ : ∃ M, D.tags.length = M := ⟨_, rfl⟩
      have HTD := Lib.hid (show tagD D at_ = if at_ < 0 ∨ (Nat.min M N : Int) ≤ at_ then 0 else D.tags.getD at_.toNat 0 by rw [tagD, hN, hM])
      have HM := Lib.hid hM
      rw [hN] at f1
      rw [hM] at f2
      clear NBr hN hM
      by_cases h1 : at_ < 0
      · have HV := Lib.hid (show tagD D at_ = 0 by rw [HTD.out, if_pos (.inl h1)])
        go_wp2_with fail
        go_ret
        exact ⟨by rw [HR.out, HV.out]; rfl, HW.out⟩
      obtain ⟨k, rfl⟩ := Int.eq_ofNat_of_zero_le (show 0 ≤ at_ by omega)
      by_cases h2 : M ≤ N
      · have hmin : Nat.min M N = M := Nat.min_eq_left h2
        have h2' : (M : Int) ≤ (N : Int) := by omega
        by_cases h3 : M ≤ k
        · have HV := Lib.hid (show tagD D k = 0 by rw [HTD.out, hmin, if_pos (.inr (by omega))])
          have h3' : (M : Int) ≤ (k : Int) := by omega
          clear hmin h1
          go_wp2_with fail
          go_ret
          exact ⟨by rw [HR.out, HV.out]; rfl, HW.out⟩
        · obtain ⟨z, hz⟩ : ∃ z, D.tags[k]? = some z := ⟨_, List.getElem?_eq_getElem (by rw [HM.out]; omega)⟩
          have HV := Lib.hid (show tagD D k = z by rw [HTD.out, hmin, if_neg (by omega)]; simp [List.getD, hz])
          obtain ⟨ad, rfl, hc⟩ := HT.out k z hz
          have f3 := cell_move HW.out hc
          have h3' : (k : Int) < (M : Int) := by omega
          clear hmin h1 hc hz
          go_wp2_with fail
          go_ret
          exact ⟨by rw [HR.out, HV.out]; rfl, HW.out⟩
      · have hmin : Nat.min M N = N := Nat.min_eq_right (by omega)
        have h2' : (N : Int) < (M : Int) := by omega
        by_cases h3 : N ≤ k
        · have HV := Lib.hid (show tagD D k = 0 by rw [HTD.out, hmin, if_pos (.inr (by omega))])
          have h3' : (N : Int) ≤ (k : Int) := by omega
          clear hmin h1
          go_wp2_with fail
          go_ret
          exact ⟨by rw [HR.out, HV.out]; rfl, HW.out⟩
        · obtain ⟨z, hz⟩ : ∃ z, D.tags[k]? = some z := ⟨_, List.getElem?_eq_getElem (by rw [HM.out]; omega)⟩
          have HV := Lib.hid (show tagD D k = z by rw [HTD.out, hmin, if_neg (by omega)]; simp [List.getD, hz])
          obtain ⟨ad, rfl, hc⟩ := HT.out k z hz
          have f3 := cell_move HW.out hc
          have h3' : (k : Int) < (N : Int) := by omega
          have h4' : (k : Int) < (M : Int) := by omega
          clear hmin h1 hc hz
          go_wp2_with fail
          go_ret
          exact ⟨by rw [HR.out, HV.out]; rfl, HW.out⟩
end Go.Proofs.YtglflmkkecephaaDoor
