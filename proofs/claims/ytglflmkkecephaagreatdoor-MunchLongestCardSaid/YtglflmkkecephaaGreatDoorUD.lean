/-
  MunchLongest: plain, and the walk.
  MunchLongest: for every input.
-/
import Derived.Test.YtglflmkkecephaaGreatDoorUC
namespace Go.Proofs.YtglflmkkecephaaGreatDoor
open Go.RowKit

theorem bytesN_extract (s : ByteArray) (a e : Nat) : bytesN (s.extract a e) = ((bytesN s).drop a).take (e - a) := by
  simp only [bytesN, ByteArray.data_extract, Array.toList_extract, List.extract_eq_take_drop, List.map_take, List.map_drop]
theorem runD_lt {D : Dfa} (h : ∀ t ∈ D.tags, t < 18446744073709551616) (bs : List Nat) : runD D bs < 18446744073709551616 := by
  unfold runD tagD
  split
  · omega
  · rename_i h1
    by_cases hi : (atD D 0 bs).toNat < D.tags.length
    · exact h _ (getD_mem hi 0)
    · rw [getD_ge (by omega)]; omega
theorem long_spec (D : Dfa) (bs : List Nat) (a may : Nat) : ∀ d, a ≤ (longTo D bs a may d).2 ∧ (longTo D bs a may d).2 ≤ a + d ∧ ((longTo D bs a may d).1 = 0 ↔ (longTo D bs a may d).2 = a) ∧ Sub (longTo D bs a may d).1 may ∧
    ∀ e, 1 ≤ e → e ≤ d → ((longTo D bs a may d).2 < a + e → runD D ((bs.drop a).take e) &&& may = 0) ∧ (a + e = (longTo D bs a may d).2 → runD D ((bs.drop a).take e) &&& may = (longTo D bs a may d).1)
  | 0 => ⟨Nat.le_refl _, Nat.le_refl _, ⟨fun _ => rfl, fun _ => rfl⟩, sub_zero _, fun e h1 h2 => by omega⟩
  | d + 1 => by
    obtain ⟨h1, h2, h3, h4, h5⟩ := long_spec D bs a may d
    obtain ⟨r, hr⟩ : ∃ r, runD D ((bs.drop a).take (d + 1)) = r := ⟨_, rfl⟩
    simp only [longTo, hr]
    by_cases e1 : r &&& may = 0
    · rw [if_pos e1]
      refine ⟨h1, by omega, h3, h4, fun e q1 q2 => ?_⟩
      by_cases hed : e = d + 1
      · subst hed
        rw [hr]
        exact ⟨fun _ => e1, fun h => by omega⟩
      · exact h5 e q1 (by omega)
    · rw [if_neg e1]
      refine ⟨by show a ≤ a + d + 1; omega, by show a + d + 1 ≤ _; omega, ⟨fun h => absurd h e1, fun h => by have h : a + d + 1 = a := h; omega⟩, sub_bit.2 fun i hi => by
        have hi : (r &&& may).testBit i = true := hi
        rw [Nat.testBit_and, Bool.and_eq_true] at hi
        exact hi.2, fun e q1 q2 => ⟨fun h => by have h : a + d + 1 < a + e := h; omega, fun h => ?_⟩⟩
      have h : a + e = a + d + 1 := h
      obtain rfl : e = d + 1 := by omega
      rw [hr]
theorem longM_spec (D : Dfa) (bs : List Nat) (a may : Nat) (ha : a ≤ bs.length) : ∃ m t : Nat, longM D bs a may = (m, (t : Int)) ∧ a ≤ t ∧ t ≤ bs.length ∧ (m = 0 ↔ t = a) ∧ Sub m may ∧
    ∀ e, a < e → e ≤ bs.length → (t < e → runD D ((bs.drop a).take (e - a)) &&& may = 0) ∧ (e = t → runD D ((bs.drop a).take (e - a)) &&& may = m) := by
  unfold longM
  by_cases h : a < bs.length
  · rw [if_pos (by omega), Int.toNat_natCast]
    obtain ⟨h1, h2, h3, h4, h5⟩ := long_spec D bs a may (bs.length - a)
    refine ⟨_, _, rfl, h1, by omega, h3, h4, fun e q1 q2 => ?_⟩
    obtain ⟨p1, p2⟩ := h5 (e - a) (by omega) (by omega)
    exact ⟨fun h => p1 (by omega), fun h => p2 (by omega)⟩
  · rw [if_neg (by omega)]
    exact ⟨0, a, rfl, Nat.le_refl _, ha, ⟨fun _ => rfl, fun _ => rfl⟩, sub_zero _, fun e q1 q2 => by omega⟩

set_option maxRecDepth 100000 in
set_option maxHeartbeats 4000000 in
theorem munchlongest_big (D : Dfa) (v : Value) (s : ByteArray) (at_ : Int) (may : Nat) (w : World) (hD : DfaIn w v D) (htl : D.tags.length ≤ 9223372036854775807) (hl : (littleM D && decide (s.size ≤ 40)) = false) (hp : PowOk w) (hT : TabOk w) :
    Calls Tryz.prog 8 #[v, .string s, .int .i64 at_, .int .u64 (may : Int)] w fun e w' => e = .returned (.bool true) ∧ Fr none_ w w' := by
  have HL := Lib.hid hl
  clear hl
  obtain ⟨C, rfl, hz, hone⟩ := hD.cells
  have HD0 := Lib.hid hD
  have HP := Lib.hid hp
  have HT := Lib.hid hT
  have B0 := Lib.hid (alloc_new w (.cells C.toArray 26))
  have F0 := Lib.hid ((Fr.refl none_ w).alloc (.cells C.toArray 26))
  clear hD hp hT hone
  go_enter Tryz.func8, Tryz.ntmps8
  go_wp2_with fail
  refine (works7_any _ (HP.out.move F0.out) (HT.out.move F0.out)).mono ?_
  rintro e w1 ⟨rfl, F1⟩
  have B1 := Lib.hid (F1.at_ B0.out (fun h => h))
  have FA := Lib.hid (F0.out.tr F1)
  clear F1 B0 F0
  go_wp2_with (refine wpList_load_row rfl 26 (.tmp 4) rfl w.heap.size 26 C _ rfl B1.out Tryz.underlying26 rfl ?_ ?_; (rw [hz]; exact dfa_info))
  refine (few_nil D _ s _ (HD0.out.move FA.out) htl).mono ?_
  rintro e w2 ⟨rfl, F1⟩
  have B2 := Lib.hid (F1.at_ B1.out (fun h => h))
  have FB := Lib.hid (FA.out.tr F1)
  clear F1 B1 FA
  rw [HL.out]
  go_wp2_with fail
  go_ret
  exact ⟨rfl, FB.out⟩

set_option maxRecDepth 100000 in
set_option maxHeartbeats 4000000 in
theorem munchlongest_out (D : Dfa) (v : Value) (s : ByteArray) (at_ : Int) (may : Nat) (w : World) (hD : DfaIn w v D) (htl : D.tags.length ≤ 9223372036854775807) (hl : (littleM D && decide (s.size ≤ 40)) = true) (hat : at_ < 0 ∨ (0 ≤ at_ ∧ (s.size : Int) < at_)) (hp : PowOk w) (hT : TabOk w) :
    Calls Tryz.prog 8 #[v, .string s, .int .i64 at_, .int .u64 (may : Int)] w fun e w' => e = .returned (.bool true) ∧ Fr none_ w w' := by
  have HL := Lib.hid hl
  clear hl
  obtain ⟨C, rfl, hz, hone⟩ := hD.cells
  have HD0 := Lib.hid hD
  have HP := Lib.hid hp
  have HT := Lib.hid hT
  have B0 := Lib.hid (alloc_new w (.cells C.toArray 26))
  have F0 := Lib.hid ((Fr.refl none_ w).alloc (.cells C.toArray 26))
  clear hD hp hT hone
  go_enter Tryz.func8, Tryz.ntmps8
  go_wp2_with fail
  refine (works7_any _ (HP.out.move F0.out) (HT.out.move F0.out)).mono ?_
  rintro e w1 ⟨rfl, F1⟩
  have B1 := Lib.hid (F1.at_ B0.out (fun h => h))
  have FA := Lib.hid (F0.out.tr F1)
  clear F1 B0 F0
  go_wp2_with (refine wpList_load_row rfl 26 (.tmp 4) rfl w.heap.size 26 C _ rfl B1.out Tryz.underlying26 rfl ?_ ?_; (rw [hz]; exact dfa_info))
  refine (few_nil D _ s _ (HD0.out.move FA.out) htl).mono ?_
  rintro e w2 ⟨rfl, F1⟩
  have B2 := Lib.hid (F1.at_ B1.out (fun h => h))
  have FB := Lib.hid (FA.out.tr F1)
  clear F1 B1 FA
  rw [HL.out]
  rcases hat with h0 | ⟨h0, h1⟩
  · go_wp2_with fail
    go_ret
    exact ⟨rfl, FB.out⟩
  · have h0' : ¬ at_ < 0 := by omega
    go_wp2_with fail
    go_ret
    exact ⟨rfl, FB.out⟩

set_option maxRecDepth 100000 in
set_option maxHeartbeats 4000000 in
theorem munchlongest_good (D : Dfa) (v : Value) (s : ByteArray) (at_ : Int) (may : Nat) (w : World) (hD : DfaIn w v D) (htl : D.tags.length ≤ 9223372036854775807) (htg : ∀ t ∈ D.tags, t < 18446744073709551616) (hmay : may < 18446744073709551616) (hl : (littleM D && decide (s.size ≤ 40)) = true) (h40 : s.size ≤ 40) (a : Nat) (haa : at_ = (a : Int)) (has : a ≤ s.size) (hp : PowOk w) (hT : TabOk w) :
    Calls Tryz.prog 8 #[v, .string s, .int .i64 at_, .int .u64 (may : Int)] w fun e w' => e = .returned (.bool true) ∧ Fr none_ w w' := by
  subst haa
  have HL := Lib.hid hl
  have HTG := Lib.hid htg
  clear hl htg
  have h0' : ¬ (a : Int) < 0 := by omega
  have h1' : ¬ (s.size : Int) < (a : Int) := by omega
  obtain ⟨m1, t1, hPA, hp1, hp2, hp3, hp4, hp5⟩ := longM_spec D (bytesN s) a may (by rw [bytesN_length]; exact has)
  rw [bytesN_length] at hp2 hp5
  have hA2 : m1 < 18446744073709551616 := by have := longM_lt D (bytesN s) a may hmay; rw [hPA] at this; exact this
  have HLA := Lib.hid hPA
  have HSUB := Lib.hid hp4
  have HSPEC := Lib.hid hp5
  have HIFF := Lib.hid hp3
  clear hPA hp3 hp4 hp5
  obtain ⟨C, rfl, hz, hone⟩ := hD.cells
  have HD0 := Lib.hid hD
  have HP := Lib.hid hp
  have HT := Lib.hid hT
  have B0 := Lib.hid (alloc_new w (.cells C.toArray 26))
  have F0 := Lib.hid ((Fr.refl none_ w).alloc (.cells C.toArray 26))
  clear hD hp hT hone
  go_enter Tryz.func8, Tryz.ntmps8
  go_wp2_with fail
  refine (works7_any _ (HP.out.move F0.out) (HT.out.move F0.out)).mono ?_
  rintro e w1 ⟨rfl, F1⟩
  have B1 := Lib.hid (F1.at_ B0.out (fun h => h))
  have FA := Lib.hid (F0.out.tr F1)
  clear F1 B0 F0
  go_wp2_with (refine wpList_load_row rfl 26 (.tmp 4) rfl w.heap.size 26 C _ rfl B1.out Tryz.underlying26 rfl ?_ ?_; (rw [hz]; exact dfa_info))
  refine (few_nil D _ s _ (HD0.out.move FA.out) htl).mono ?_
  rintro e w2 ⟨rfl, F1⟩
  have B2 := Lib.hid (F1.at_ B1.out (fun h => h))
  have FB := Lib.hid (FA.out.tr F1)
  clear F1 B1 FA
  rw [HL.out]
  go_wp2_with (refine wpList_load_row rfl 26 (.tmp 4) rfl w.heap.size 26 C _ rfl B2.out Tryz.underlying26 rfl ?_ ?_; (rw [hz]; exact dfa_info))
  refine (longest_any D _ s (a : Int) may _ (HD0.out.move FB.out) HTG.out hmay (by omega)).mono ?_
  rintro e w2b ⟨rfl, F1⟩
  rw [HLA.out]
  have N1 := Lib.hid (alloc_new w2b (.cells #[.int .u64 (m1 : Int), .int .i64 (t1 : Int)] 43))
  have FX := Lib.hid (F1.alloc (.cells #[.int .u64 (m1 : Int), .int .i64 (t1 : Int)] 43))
  clear F1
  go_wp2_with fail
  obtain ⟨g1, hg1⟩ : ∃ x, w2b.heap.size = x := ⟨_, rfl⟩
  obtain ⟨w3, hw3⟩ : ∃ x, w2b.alloc (.cells #[.int .u64 (m1 : Int), .int .i64 (t1 : Int)] 43) = x := ⟨_, rfl⟩
  rw [hw3] at N1 FX ⊢
  rw [hg1] at N1 ⊢
  clear hw3 hg1
  have FC := Lib.hid (FB.out.tr FX.out)
  have DC := Lib.hid (HD0.out.move FC.out)
  have B3 := Lib.hid (FX.out.at_ B2.out (fun h => h))
  clear FX B2 FB
  go_loopw [12] (fun x12 wr => ∃ e : Nat, a + 1 ≤ e ∧ e ≤ s.size + 1 ∧ x12 = .int .i64 e ∧ Aside (Fr none_ w3 wr)) (fun x12 _ => s.size + 1 - (intOf x12).toNat)
  case atStart => exact ⟨a + 1, Nat.le_refl _, by omega, by first | rfl | simp | (go_num), Fr.refl _ _⟩
  case round =>
    obtain ⟨e, hae, hes, rfl, h'⟩ := hrel
    have HFR := Lib.hid h'.out
    clear h'
    have u2 : wr.cell? ⟨g1, 0, none⟩ = some (.int .u64 (m1 : Int)) := cell_of_block (HFR.out.at_ N1.out (fun h => h)) rfl
    have u3 : wr.cell? ⟨g1, 1, none⟩ = some (.int .i64 (t1 : Int)) := cell_of_block (HFR.out.at_ N1.out (fun h => h)) rfl
    by_cases hle : e ≤ s.size
    case neg =>
      have hleI : ¬ (e : Int) ≤ (s.size : Int) := by omega
      have ht0 : (a : Int) ≤ (t1 : Int) := by omega
      have ht2 : (t1 : Int) ≤ (s.size : Int) := by omega
      by_cases hz1 : m1 = 0
      case pos =>
        have hta := HIFF.out.1 hz1
        subst hz1
        subst hta
        go_wp2_with fail
        refine (in_true 0 may _ (by decide) hmay HSUB.out).mono ?_
        rintro e' w' ⟨rfl, rfl⟩
        go_wp2_with fail
        go_ret
        exact ⟨rfl, FC.out.tr HFR.out⟩
      case neg =>
        have hta : t1 ≠ a := fun h => hz1 (HIFF.out.2 h)
        have q1 : ((m1 : Int) == 0) = false := by simp; omega
        have q2 : ((t1 : Int) == (a : Int)) = false := by simp; omega
        go_wp2_with fail
        refine (in_true m1 may _ hA2 hmay HSUB.out).mono ?_
        rintro e' w' ⟨rfl, rfl⟩
        go_wp2_with fail
        go_ret
        exact ⟨rfl, FC.out.tr HFR.out⟩
    case pos =>
      have hleI : (e : Int) ≤ (s.size : Int) := by omega
      have hq0 : (0 : Int) ≤ (a : Int) := by omega
      have hq1 : (a : Int) ≤ (e : Int) := by omega
      obtain ⟨z1, z2⟩ := HSPEC.out e (by omega) hle
      have hexs : (s.extract a e).size < 4611686018427387904 := by simp [ByteArray.size_extract]; omega
      obtain ⟨r, hr⟩ : ∃ r, runD D (((bytesN s).drop a).take (e - a)) = r := ⟨_, rfl⟩
      rw [hr] at z1 z2
      have HRUN := Lib.hid (show runD D (bytesN (s.extract a e)) = r by rw [bytesN_extract, hr])
      have hrl : r < 18446744073709551616 := by rw [← hr]; exact runD_lt HTG.out _
      obtain ⟨m, hm⟩ : ∃ m, r &&& may = m := ⟨_, rfl⟩
      rw [hm] at z1 z2
      have HMM := Lib.hid hm
      have HZ1 := Lib.hid z1
      have HZ2 := Lib.hid z2
      have HSX := Lib.hid (show ∀ wx, Fr none_ wr wx → wx.rangeAt w.heap.size 0 C from fun wx hf => range_of ((HFR.out.tr hf).at_ B3.out (fun h => h)))
      clear hr hm z1 z2 u2 u3
      go_wp2_with fail
      refine wp_region_held_drew (S := fun wx => wx.rangeAt w.heap.size 0 C) (by kernel_rfl) (HSX.out _ (Fr.refl none_ wr).drew) (fun hHeld => ?_)
      refine wpAnyH_take (i := 0) lot0 (by kernel_rfl) (by kernel_rfl) (by kernel_rfl) (fun _ _ _ h => h) (yieldsIf_load_mid (by rfl) _ _ rfl _ _ rfl C _ (fun _ h => h) Tryz.underlying26 rfl (by rw [hz]; exact dfa_info)) (by assumption) ?_
      try simp only [Act.put, List.setIfInBounds_toArray, List.set_cons_zero, List.set_cons_succ]
      refine wpAnyH_take (i := 1) (v := ?_) lot1 (by kernel_rfl) (by kernel_rfl) (by kernel_rfl) (fun _ _ _ h => h) (Or.inl ⟨by rfl, ?_⟩) (by assumption) ?_
      rotate_left
      · (intro wv hSw; (try dsimp only at hSw); go_simp) <;> with_reducible rfl
      try simp only [Act.put, List.setIfInBounds_toArray, List.set_cons_zero, List.set_cons_succ]
      refine wpAnyH_take (i := 2) (v := ?_) lot2 (by kernel_rfl) (by kernel_rfl) (by kernel_rfl) (fun _ _ _ h => h) (Or.inl ⟨by rfl, ?_⟩) (by assumption) ?_
      rotate_left
      · (intro wv hSw; (try dsimp only at hSw); go_simp) <;> with_reducible rfl
      try simp only [Act.put, List.setIfInBounds_toArray, List.set_cons_zero, List.set_cons_succ]
      refine wpAnyH_take (i := 3) (v := ?_) lot3 (by kernel_rfl) (by kernel_rfl) (by kernel_rfl) (fun _ _ _ h => h) (Or.inl ⟨by rfl, ?_⟩) (by assumption) ?_
      rotate_left
      · (intro wv hSw; (try dsimp only at hSw); go_simp) <;> with_reducible rfl
      try simp only [Act.put, List.setIfInBounds_toArray, List.set_cons_zero, List.set_cons_succ]
      refine wpAnyH_take (i := 4) (v := ?_) lot4 (by kernel_rfl) (by kernel_rfl) (by kernel_rfl) (fun _ _ _ h => h) (Or.inl ⟨by rfl, ?_⟩) (by assumption) ?_
      rotate_left
      · (intro wv hSw; (try dsimp only at hSw); go_simp) <;> with_reducible rfl
      try simp only [Act.put, List.setIfInBounds_toArray, List.set_cons_zero, List.set_cons_succ]
      refine wpAnyH_take (i := 6) (v := ?_) lot6 (by kernel_rfl) (by kernel_rfl) (by kernel_rfl) (fun _ _ _ h => h) (Or.inl ⟨by rfl, ?_⟩) (by assumption) ?_
      rotate_left
      · (intro wv hSw; (try dsimp only at hSw); go_simp) <;> with_reducible rfl
      try simp only [Act.put, List.setIfInBounds_toArray, List.set_cons_zero, List.set_cons_succ]
      refine wpAnyH_ready (rs := [5]) (by kernel_rfl) (by simp) ?_
      refine AllReadyH.cons lot5 (fun K hK => ?_) AllReadyH.nil
      go_simp
      go_at_call 30
      refine (drun_any D _ (s.extract a e) _ (DC.out.move (HFR.out.drew)) (by omega)).mono ?_
      rintro e' wx ⟨rfl, Fx⟩
      rw [HRUN.out]
      have Gx := Lib.hid (((Fr.refl none_ wr).drew).tr Fx)
      clear Fx
      refine hK.out _ _ (HSX.out _ Gx.out) (fun hHeld => ?_)
      clear hK K
      try simp only [Act.put, List.setIfInBounds_toArray, List.set_cons_zero, List.set_cons_succ]
      refine wpAnyH_ready (rs := [7]) (by kernel_rfl) (by simp) ?_
      refine AllReadyH.cons lot7 (fun K hK => ?_) AllReadyH.nil
      go_simp
      go_at_call 29
      refine (meet_any r may _ hrl hmay).mono ?_
      rintro e' wm ⟨rfl, rfl⟩
      rw [HMM.out]
      refine hK.out _ _ (HSX.out _ Gx.out) (fun hHeld => ?_)
      clear hK K
      try simp only [Act.put, List.setIfInBounds_toArray, List.set_cons_zero, List.set_cons_succ]
      refine wpAnyH_take (i := 8) (v := ?_) lot8 (by kernel_rfl) (by kernel_rfl) (by kernel_rfl) (fun _ _ _ h => h) (Or.inl ⟨by rfl, ?_⟩) (by assumption) ?_
      rotate_left
      · (intro wv hSw; (try dsimp only at hSw); go_simp) <;> with_reducible rfl
      try simp only [Act.put, List.setIfInBounds_toArray, List.set_cons_zero, List.set_cons_succ]
      refine wpAnyH_done (by kernel_rfl) ?_ _
      have HF2 := Lib.hid (HFR.out.tr Gx.out)
      have u2 : wx.cell? ⟨g1, 0, none⟩ = some (.int .u64 (m1 : Int)) := cell_of_block (HF2.out.at_ N1.out (fun h => h)) rfl
      have u3 : wx.cell? ⟨g1, 1, none⟩ = some (.int .i64 (t1 : Int)) := cell_of_block (HF2.out.at_ N1.out (fun h => h)) rfl
      rcases Nat.lt_trichotomy e t1 with hlt | heq | hgt
      · have q1 : ¬ (t1 : Int) < (e : Int) := by omega
        have q2 : ((e : Int) == (t1 : Int)) = false := by simp; omega
        go_wp2_with fail
        go_roundw
        case rel => exact ⟨e + 1, by omega, by omega, by go_num, HF2.out⟩
        case measure => simp [intOf]; omega
      · have hmm := HZ2.out heq
        subst heq
        subst hmm
        have q1 : ¬ (e : Int) < (e : Int) := by omega
        go_wp2_with fail
        go_roundw
        case rel => exact ⟨e + 1, by omega, by omega, by go_num, HF2.out⟩
        case measure => simp [intOf]; omega
      · have hmm := HZ1.out hgt
        subst hmm
        have q1 : (t1 : Int) < (e : Int) := by omega
        have q2 : ((e : Int) == (t1 : Int)) = false := by simp; omega
        go_wp2_with fail
        go_roundw
        case rel => exact ⟨e + 1, by omega, by omega, by go_num, HF2.out⟩
        case measure => simp [intOf]; omega
end Go.Proofs.YtglflmkkecephaaGreatDoor

namespace Go.Proofs.YtglflmkkecephaaGreatDoor
open Go.RowKit

theorem munchlongest_any (v : Value) (D : Dfa) (s : ByteArray) (at_ may : Int) (w : World) (h : DfaIn w v D ∧ (∀ t ∈ D.tags, t < 18446744073709551616) ∧ (∀ r ∈ D.next, ∀ z ∈ r, intDom z) ∧ D.tags.length ≤ 9223372036854775807) (hs : s.size ≤ 140737488351232) (h3 : 0 ≤ may ∧ may ≤ 18446744073709551615) (hT : TabOk w) (hp : PowOk w) :
    Calls Tryz.prog 8 #[v, .string s, .int .i64 at_, .int .u64 may] w fun e w' => e = .returned (.bool true) ∧ Below w.heap.size w w' := by
  obtain ⟨hD, htg, _, htl⟩ := h
  obtain ⟨m, rfl⟩ := Int.eq_ofNat_of_zero_le h3.1
  have key : Calls Tryz.prog 8 #[v, .string s, .int .i64 at_, .int .u64 (m : Int)] w fun e w' => e = .returned (.bool true) ∧ Fr none_ w w' := by
    cases hl : (littleM D && decide (s.size ≤ 40)) with
    | false => exact munchlongest_big D v s at_ m w hD htl hl hp hT
    | true =>
      have h40 : s.size ≤ 40 := by
        have := hl
        simp only [Bool.and_eq_true, decide_eq_true_eq] at this
        exact this.2
      by_cases hat : 0 ≤ at_ ∧ at_ ≤ (s.size : Int)
      · exact munchlongest_good D v s at_ m w hD htl htg (by omega) hl h40 at_.toNat (by omega) (by omega) hp hT
      · exact munchlongest_out D v s at_ m w hD htl hl (by omega) hp hT
  exact key.mono fun e w' h => ⟨h.1, h.2.below⟩
end Go.Proofs.YtglflmkkecephaaGreatDoor
