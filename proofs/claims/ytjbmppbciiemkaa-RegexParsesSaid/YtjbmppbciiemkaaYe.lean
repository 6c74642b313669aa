/-
  The reference of layer 3: one, of an item.
-/
import Derived.Test.YtjbmppbciiemkaaYA
namespace Go.Proofs.Ytjbmppbciiemkaa set_option linter.unusedVariables false set_option linter.unusedSimpArgs false
open Go.RowKit

theorem oneB_eq (s : ByteArray) (p : Nat) : oneB s p = if isB s p 92 then charB s (p + 1) else if p < s.size then (if isB s p 93 ∨ isB s p 45 then .error 5 else .ok (byteAt s p, p + 1)) else .error 5 := by
  unfold oneB nextB
  by_cases h : isB s p 92 = true
  · rw [if_pos h, if_pos h]
  · rw [if_neg h, if_neg h]
    by_cases hp : p < s.size
    · simp only [if_pos hp]
      have e : ∀ c, (isB s p c = true) = (byteAt s p = c) := fun c => by simp [isB, hp]
      simp only [e]
    · simp only [if_neg hp]

set_option maxRecDepth 100000 in
set_option maxHeartbeats 2000000 in
theorem rone_1 (s : ByteArray) (p d : Nat) (bad many : Bool) (w : World) (hs : s.size ≤ 1000) (hb : w.heap[d]? = some (rrObj s p bad many)) (hp : p ≤ 2000) (h92 : isB s p 92 = false) (hlt : ¬ p < s.size) :
    Calls Try.prog 63 #[.pointer (some ⟨d, 0, none⟩)] w fun e w' => e = .returned (.int .u8 0) ∧ w'.heap[d]? = some (rrObj s p true many) ∧ Fr (at1 d) w w' := by
  have E92 := Lib.hid h92
  clear h92
  have hp0 : (0 : Int) ≤ (p : Int) := by omega
  have hge : decide ((s.size : Int) ≤ (p : Int)) = true := by simp; omega
  have hgn : decide (s.size ≤ p) = true := by simp; omega
  have HB := Lib.hid hb
  clear hb
  go_enter Try.func63, Try.ntmps63
  go_wp2_with fail
  refine (ris_any s p d 92 bad many _ hs HB.out).mono ?_
  rintro e w1 ⟨rfl, F1⟩
  rw [E92.out]
  have G0 := Lib.hid F1.drew
  clear F1
  go_wp2_with fail
  refine wp_region_held_drew (S := (fun w' => w'.cell? ⟨d, 0, none⟩ = some (.string s) ∧ w'.cell? ⟨d, 1, none⟩ = some (.int .i64 (p : Int)))) (by kernel_rfl) ⟨cell_of_block (G0.out.at_ HB.out (fun h => h)) rfl, cell_of_block (G0.out.at_ HB.out (fun h => h)) rfl⟩ (fun hHeld => ?_)
  refine wpAnyH_take (i := 0) (v := ?_) rlit0 (by kernel_rfl) (by kernel_rfl) (by kernel_rfl) (fun _ _ _ h => h) (Or.inl ⟨by rfl, ?_⟩) (by assumption) ?_
  rotate_left
  · (intro w hSw; (try dsimp only at hSw); go_simp) <;> with_reducible rfl
  try simp only [Act.put, List.setIfInBounds_toArray, List.set_cons_zero, List.set_cons_succ]
  refine wpAnyH_take (i := 1) (v := ?_) rlit1 (by kernel_rfl) (by kernel_rfl) (by kernel_rfl) (fun _ _ _ h => h) (Or.inl ⟨by rfl, ?_⟩) (by assumption) ?_
  rotate_left
  · (intro w hSw; (try dsimp only at hSw); go_simp) <;> with_reducible rfl
  try simp only [Act.put, List.setIfInBounds_toArray, List.set_cons_zero, List.set_cons_succ]
  refine wpAnyH_take (i := 2) (v := ?_) rlit2 (by kernel_rfl) (by kernel_rfl) (by kernel_rfl) (fun _ _ _ h => h) (Or.inl ⟨by rfl, ?_⟩) (by assumption) ?_
  rotate_left
  · (intro w hSw; (try dsimp only at hSw); go_simp) <;> with_reducible rfl
  try simp only [Act.put, List.setIfInBounds_toArray, List.set_cons_zero, List.set_cons_succ]
  refine wpAnyH_take (i := 3) (v := ?_) rlit3 (by kernel_rfl) (by kernel_rfl) (by kernel_rfl) (fun _ _ _ h => h) (Or.inl ⟨by rfl, ?_⟩) (by assumption) ?_
  rotate_left
  · (intro w hSw; (try dsimp only at hSw); go_simp) <;> with_reducible rfl
  try simp only [Act.put, List.setIfInBounds_toArray, List.set_cons_zero, List.set_cons_succ]
  refine wpAnyH_take (i := 4) (v := ?_) rlit4 (by kernel_rfl) (by kernel_rfl) (by kernel_rfl) (fun _ _ _ h => h) (Or.inl ⟨by rfl, ?_⟩) (by assumption) ?_
  rotate_left
  · (intro w hSw; (try dsimp only at hSw); go_simp) <;> with_reducible rfl
  try simp only [Act.put, List.setIfInBounds_toArray, List.set_cons_zero, List.set_cons_succ]
  refine wpAnyH_take (i := 5) (v := ?_) rlit5 (by kernel_rfl) (by kernel_rfl) (by kernel_rfl) (fun _ _ _ h => h) (Or.inl ⟨by rfl, ?_⟩) (by assumption) ?_
  rotate_left
  · (intro w hSw; (try dsimp only at hSw); go_simp) <;> with_reducible rfl
  try simp only [Act.put, List.setIfInBounds_toArray, List.set_cons_zero, List.set_cons_succ]
  refine wpAnyH_take (i := 6) (v := ?_) rlit6 (by kernel_rfl) (by kernel_rfl) (by kernel_rfl) (fun _ _ _ h => h) (Or.inl ⟨by rfl, ?_⟩) (by assumption) ?_
  rotate_left
  · (intro w hSw; (try dsimp only at hSw); go_simp) <;> with_reducible rfl
  try simp only [Act.put, List.setIfInBounds_toArray, List.set_cons_zero, List.set_cons_succ]
  refine wpAnyH_take (i := 7) (v := ?_) rlit7 (by kernel_rfl) (by kernel_rfl) (by kernel_rfl) (fun _ _ _ h => h) (Or.inl ⟨by rfl, ?_⟩) (by assumption) ?_
  rotate_left
  · (intro w hSw; (try dsimp only at hSw); go_simp) <;> with_reducible rfl
  try simp only [Act.put, List.setIfInBounds_toArray, List.set_cons_zero, List.set_cons_succ]
  refine wpAnyH_take (i := 8) (v := ?_) rlit8 (by kernel_rfl) (by kernel_rfl) (by kernel_rfl) (fun _ _ _ h => h) (Or.inl ⟨by rfl, ?_⟩) (by assumption) ?_
  rotate_left
  · (intro w hSw; (try dsimp only at hSw); go_simp) <;> with_reducible rfl
  try simp only [Act.put, List.setIfInBounds_toArray, List.set_cons_zero, List.set_cons_succ]
  refine wpAnyH_take (i := 9) (v := ?_) rlit9 (by kernel_rfl) (by kernel_rfl) (by kernel_rfl) (fun _ _ _ h => h) (Or.inl ⟨by rfl, ?_⟩) (by assumption) ?_
  rotate_left
  · (intro w hSw; (try dsimp only at hSw); go_simp) <;> with_reducible rfl
  try simp only [Act.put, List.setIfInBounds_toArray, List.set_cons_zero, List.set_cons_succ]
  refine wpAnyH_take (i := 10) (v := ?_) rlit10 (by kernel_rfl) (by kernel_rfl) (by kernel_rfl) (fun _ _ _ h => h) (Or.inl ⟨by rfl, ?_⟩) (by assumption) ?_
  rotate_left
  · (intro w hSw; (try dsimp only at hSw); go_simp) <;> with_reducible rfl
  try simp only [Act.put, List.setIfInBounds_toArray, List.set_cons_zero, List.set_cons_succ]
  refine wpAnyH_take (i := 11) rlit11 (by kernel_rfl) (by kernel_rfl) (by kernel_rfl) (fun _ _ _ h => h) (Or.inr ⟨by rfl, rfl⟩) (by assumption) ?_
  try simp only [Act.put, List.setIfInBounds_toArray, List.set_cons_zero, List.set_cons_succ]
  refine wpAnyH_take (i := 12) rlit12 (by kernel_rfl) (by kernel_rfl) (by kernel_rfl) (fun _ _ _ h => h) (Or.inr ⟨by rfl, rfl⟩) (by assumption) ?_
  try simp only [Act.put, List.setIfInBounds_toArray, List.set_cons_zero, List.set_cons_succ]
  refine wpAnyH_take (i := 13) (v := ?_) rlit13 (by kernel_rfl) (by kernel_rfl) (by kernel_rfl) (fun _ _ _ h => h) (Or.inl ⟨by rfl, ?_⟩) (by assumption) ?_
  rotate_left
  · (intro w hSw; (try dsimp only at hSw); go_simp) <;> with_reducible rfl
  try simp only [Act.put, List.setIfInBounds_toArray, List.set_cons_zero, List.set_cons_succ]
  refine wpAnyH_take (i := 14) (v := ?_) rlit14 (by kernel_rfl) (by kernel_rfl) (by kernel_rfl) (fun _ _ _ h => h) (Or.inl ⟨by rfl, ?_⟩) (by assumption) ?_
  rotate_left
  · (intro w hSw; (try dsimp only at hSw); go_simp) <;> with_reducible rfl
  try simp only [Act.put, List.setIfInBounds_toArray, List.set_cons_zero, List.set_cons_succ]
  refine wpAnyH_take (i := 15) rlit15 (by kernel_rfl) (by kernel_rfl) (by kernel_rfl) (fun _ _ _ h => h) (Or.inr ⟨by rfl, rfl⟩) (by assumption) ?_
  try simp only [Act.put, List.setIfInBounds_toArray, List.set_cons_zero, List.set_cons_succ]
  refine wpAnyH_take (i := 16) rlit16 (by kernel_rfl) (by kernel_rfl) (by kernel_rfl) (fun _ _ _ h => h) (Or.inr ⟨by rfl, rfl⟩) (by assumption) ?_
  try simp only [Act.put, List.setIfInBounds_toArray, List.set_cons_zero, List.set_cons_succ]
  refine wpAnyH_take (i := 17) (v := ?_) rlit17 (by kernel_rfl) (by kernel_rfl) (by kernel_rfl) (fun _ _ _ h => h) (Or.inl ⟨by rfl, ?_⟩) (by assumption) ?_
  rotate_left
  · (intro w hSw; (try dsimp only at hSw); go_simp) <;> with_reducible rfl
  try simp only [Act.put, List.setIfInBounds_toArray, List.set_cons_zero, List.set_cons_succ]
  refine wpAnyH_done (by kernel_rfl) ?_ _
  generalize w1.drew = wx at *
  have HBx := G0.out.at_ HB.out (fun h => h)
  have z2 : wx.cell? ⟨d, 2, none⟩ = some (.bool bad) := cell_of_block HBx rfl
  have zf : wx.frozen? ⟨d, 2, none⟩ = false := free_of_block HBx
  have HBy := Lib.hid (rr_bad HBx true)
  have GF := Lib.hid (G0.out.none (S := at1 d))
  clear HBx
  go_wp2_with fail
  go_ret
  exact ⟨rfl, HBy.out, GF.out.setCell (p := ⟨d, 2, none⟩) (.inl rfl) _⟩

set_option maxRecDepth 100000 in
set_option maxHeartbeats 2000000 in
theorem rone_2 (s : ByteArray) (p d : Nat) (bad many : Bool) (w : World) (hs : s.size ≤ 1000) (hb : w.heap[d]? = some (rrObj s p bad many)) (hp : p ≤ 2000) (h92 : isB s p 92 = false) (hlt : p < s.size) (h93 : isB s p 93 = true) :
    Calls Try.prog 63 #[.pointer (some ⟨d, 0, none⟩)] w fun e w' => e = .returned (.int .u8 0) ∧ w'.heap[d]? = some (rrObj s p true many) ∧ Fr (at1 d) w w' := by
  have E92 := Lib.hid h92
  clear h92
  have hp0 : (0 : Int) ≤ (p : Int) := by omega
  have E93 := Lib.hid h93
  clear h93
  have hge : decide ((s.size : Int) ≤ (p : Int)) = false := by simp; omega
  have hgn : decide (s.size ≤ p) = false := by simp; omega
  have HB := Lib.hid hb
  clear hb
  go_enter Try.func63, Try.ntmps63
  go_wp2_with fail
  refine (ris_any s p d 92 bad many _ hs HB.out).mono ?_
  rintro e w1 ⟨rfl, F1⟩
  rw [E92.out]
  have G0 := Lib.hid F1.drew
  clear F1
  go_wp2_with fail
  refine wp_region_held_drew (S := (fun w' => w'.cell? ⟨d, 0, none⟩ = some (.string s) ∧ w'.cell? ⟨d, 1, none⟩ = some (.int .i64 (p : Int)))) (by kernel_rfl) ⟨cell_of_block (G0.out.at_ HB.out (fun h => h)) rfl, cell_of_block (G0.out.at_ HB.out (fun h => h)) rfl⟩ (fun hHeld => ?_)
  refine wpAnyH_take (i := 0) (v := ?_) rlit0 (by kernel_rfl) (by kernel_rfl) (by kernel_rfl) (fun _ _ _ h => h) (Or.inl ⟨by rfl, ?_⟩) (by assumption) ?_
  rotate_left
  · (intro w hSw; (try dsimp only at hSw); go_simp) <;> with_reducible rfl
  try simp only [Act.put, List.setIfInBounds_toArray, List.set_cons_zero, List.set_cons_succ]
  refine wpAnyH_take (i := 1) (v := ?_) rlit1 (by kernel_rfl) (by kernel_rfl) (by kernel_rfl) (fun _ _ _ h => h) (Or.inl ⟨by rfl, ?_⟩) (by assumption) ?_
  rotate_left
  · (intro w hSw; (try dsimp only at hSw); go_simp) <;> with_reducible rfl
  try simp only [Act.put, List.setIfInBounds_toArray, List.set_cons_zero, List.set_cons_succ]
  refine wpAnyH_take (i := 2) (v := ?_) rlit2 (by kernel_rfl) (by kernel_rfl) (by kernel_rfl) (fun _ _ _ h => h) (Or.inl ⟨by rfl, ?_⟩) (by assumption) ?_
  rotate_left
  · (intro w hSw; (try dsimp only at hSw); go_simp) <;> with_reducible rfl
  try simp only [Act.put, List.setIfInBounds_toArray, List.set_cons_zero, List.set_cons_succ]
  refine wpAnyH_take (i := 3) (v := ?_) rlit3 (by kernel_rfl) (by kernel_rfl) (by kernel_rfl) (fun _ _ _ h => h) (Or.inl ⟨by rfl, ?_⟩) (by assumption) ?_
  rotate_left
  · (intro w hSw; (try dsimp only at hSw); go_simp) <;> with_reducible rfl
  try simp only [Act.put, List.setIfInBounds_toArray, List.set_cons_zero, List.set_cons_succ]
  refine wpAnyH_take (i := 4) (v := ?_) rlit4 (by kernel_rfl) (by kernel_rfl) (by kernel_rfl) (fun _ _ _ h => h) (Or.inl ⟨by rfl, ?_⟩) (by assumption) ?_
  rotate_left
  · (intro w hSw; (try dsimp only at hSw); go_simp) <;> with_reducible rfl
  try simp only [Act.put, List.setIfInBounds_toArray, List.set_cons_zero, List.set_cons_succ]
  refine wpAnyH_take (i := 5) (v := ?_) rlit5 (by kernel_rfl) (by kernel_rfl) (by kernel_rfl) (fun _ _ _ h => h) (Or.inl ⟨by rfl, ?_⟩) (by assumption) ?_
  rotate_left
  · (intro w hSw; (try dsimp only at hSw); go_simp) <;> with_reducible rfl
  try simp only [Act.put, List.setIfInBounds_toArray, List.set_cons_zero, List.set_cons_succ]
  refine wpAnyH_take (i := 6) (v := ?_) rlit6 (by kernel_rfl) (by kernel_rfl) (by kernel_rfl) (fun _ _ _ h => h) (Or.inl ⟨by rfl, ?_⟩) (by assumption) ?_
  rotate_left
  · (intro w hSw; (try dsimp only at hSw); go_simp) <;> with_reducible rfl
  try simp only [Act.put, List.setIfInBounds_toArray, List.set_cons_zero, List.set_cons_succ]
  refine wpAnyH_take (i := 7) (v := ?_) rlit7 (by kernel_rfl) (by kernel_rfl) (by kernel_rfl) (fun _ _ _ h => h) (Or.inl ⟨by rfl, ?_⟩) (by assumption) ?_
  rotate_left
  · (intro w hSw; (try dsimp only at hSw); go_simp) <;> with_reducible rfl
  try simp only [Act.put, List.setIfInBounds_toArray, List.set_cons_zero, List.set_cons_succ]
  refine wpAnyH_take (i := 8) (v := ?_) rlit8 (by kernel_rfl) (by kernel_rfl) (by kernel_rfl) (fun _ _ _ h => h) (Or.inl ⟨by rfl, ?_⟩) (by assumption) ?_
  rotate_left
  · (intro w hSw; (try dsimp only at hSw); go_simp) <;> with_reducible rfl
  try simp only [Act.put, List.setIfInBounds_toArray, List.set_cons_zero, List.set_cons_succ]
  refine wpAnyH_take (i := 9) (v := ?_) rlit9 (by kernel_rfl) (by kernel_rfl) (by kernel_rfl) (fun _ _ _ h => h) (Or.inl ⟨by rfl, ?_⟩) (by assumption) ?_
  rotate_left
  · (intro w hSw; (try dsimp only at hSw); go_simp) <;> with_reducible rfl
  try simp only [Act.put, List.setIfInBounds_toArray, List.set_cons_zero, List.set_cons_succ]
  refine wpAnyH_take (i := 10) (v := ?_) rlit10 (by kernel_rfl) (by kernel_rfl) (by kernel_rfl) (fun _ _ _ h => h) (Or.inl ⟨by rfl, ?_⟩) (by assumption) ?_
  rotate_left
  · (intro w hSw; (try dsimp only at hSw); go_simp) <;> with_reducible rfl
  try simp only [Act.put, List.setIfInBounds_toArray, List.set_cons_zero, List.set_cons_succ]
  refine wpAnyH_take (i := 11) (v := ?_) rlit11 (by kernel_rfl) (by kernel_rfl) (by kernel_rfl) (fun _ _ _ h => h) (Or.inl ⟨by rfl, ?_⟩) (by assumption) ?_
  rotate_left
  · (intro w hSw; (try dsimp only at hSw); go_simp) <;> with_reducible rfl
  try simp only [Act.put, List.setIfInBounds_toArray, List.set_cons_zero, List.set_cons_succ]
  refine wpAnyH_ready (rs := [12]) (by kernel_rfl) (by simp) ?_
  refine AllReadyH.cons rlit12 (fun K hK => ?_) AllReadyH.nil
  go_simp
  go_at_call 31
  refine (ris_any s p d 93 bad many _ hs (G0.out.at_ HB.out (fun h => h))).mono ?_
  rintro e wx0 ⟨rfl, Fx⟩
  have G1 := Lib.hid (G0.out.tr Fx)
  clear Fx
  rw [E93.out]
  refine hK.out _ _ ⟨cell_of_block (G1.out.at_ HB.out (fun h => h)) rfl, cell_of_block (G1.out.at_ HB.out (fun h => h)) rfl⟩ (fun hHeld => ?_)
  clear hK K
  try simp only [Act.put, List.setIfInBounds_toArray, List.set_cons_zero, List.set_cons_succ]
  refine wpAnyH_take (i := 13) (v := ?_) rlit13 (by kernel_rfl) (by kernel_rfl) (by kernel_rfl) (fun _ _ _ h => h) (Or.inl ⟨by rfl, ?_⟩) (by assumption) ?_
  rotate_left
  · (intro w hSw; (try dsimp only at hSw); go_simp) <;> with_reducible rfl
  try simp only [Act.put, List.setIfInBounds_toArray, List.set_cons_zero, List.set_cons_succ]
  refine wpAnyH_take (i := 14) (v := ?_) rlit14 (by kernel_rfl) (by kernel_rfl) (by kernel_rfl) (fun _ _ _ h => h) (Or.inl ⟨by rfl, ?_⟩) (by assumption) ?_
  rotate_left
  · (intro w hSw; (try dsimp only at hSw); go_simp) <;> with_reducible rfl
  try simp only [Act.put, List.setIfInBounds_toArray, List.set_cons_zero, List.set_cons_succ]
  refine wpAnyH_take (i := 15) rlit15 (by kernel_rfl) (by kernel_rfl) (by kernel_rfl) (fun _ _ _ h => h) (Or.inr ⟨by rfl, rfl⟩) (by assumption) ?_
  try simp only [Act.put, List.setIfInBounds_toArray, List.set_cons_zero, List.set_cons_succ]
  refine wpAnyH_take (i := 16) rlit16 (by kernel_rfl) (by kernel_rfl) (by kernel_rfl) (fun _ _ _ h => h) (Or.inr ⟨by rfl, rfl⟩) (by assumption) ?_
  try simp only [Act.put, List.setIfInBounds_toArray, List.set_cons_zero, List.set_cons_succ]
  refine wpAnyH_take (i := 17) (v := ?_) rlit17 (by kernel_rfl) (by kernel_rfl) (by kernel_rfl) (fun _ _ _ h => h) (Or.inl ⟨by rfl, ?_⟩) (by assumption) ?_
  rotate_left
  · (intro w hSw; (try dsimp only at hSw); go_simp) <;> with_reducible rfl
  try simp only [Act.put, List.setIfInBounds_toArray, List.set_cons_zero, List.set_cons_succ]
  refine wpAnyH_done (by kernel_rfl) ?_ _
  generalize wx0 = wx at *
  have HBx := G1.out.at_ HB.out (fun h => h)
  have z2 : wx.cell? ⟨d, 2, none⟩ = some (.bool bad) := cell_of_block HBx rfl
  have zf : wx.frozen? ⟨d, 2, none⟩ = false := free_of_block HBx
  have HBy := Lib.hid (rr_bad HBx true)
  have GF := Lib.hid (G1.out.none (S := at1 d))
  clear HBx
  go_wp2_with fail
  go_ret
  exact ⟨rfl, HBy.out, GF.out.setCell (p := ⟨d, 2, none⟩) (.inl rfl) _⟩

set_option maxRecDepth 100000 in
set_option maxHeartbeats 2000000 in
theorem rone_3 (s : ByteArray) (p d : Nat) (bad many : Bool) (w : World) (hs : s.size ≤ 1000) (hb : w.heap[d]? = some (rrObj s p bad many)) (hp : p ≤ 2000) (h92 : isB s p 92 = false) (hlt : p < s.size) (h93 : isB s p 93 = false) (h45 : isB s p 45 = true) :
    Calls Try.prog 63 #[.pointer (some ⟨d, 0, none⟩)] w fun e w' => e = .returned (.int .u8 0) ∧ w'.heap[d]? = some (rrObj s p true many) ∧ Fr (at1 d) w w' := by
  have E92 := Lib.hid h92
  clear h92
  have hp0 : (0 : Int) ≤ (p : Int) := by omega
  have E93 := Lib.hid h93
  clear h93
  have E45 := Lib.hid h45
  clear h45
  have hge : decide ((s.size : Int) ≤ (p : Int)) = false := by simp; omega
  have hgn : decide (s.size ≤ p) = false := by simp; omega
  have HB := Lib.hid hb
  clear hb
  go_enter Try.func63, Try.ntmps63
  go_wp2_with fail
  refine (ris_any s p d 92 bad many _ hs HB.out).mono ?_
  rintro e w1 ⟨rfl, F1⟩
  rw [E92.out]
  have G0 := Lib.hid F1.drew
  clear F1
  go_wp2_with fail
  refine wp_region_held_drew (S := (fun w' => w'.cell? ⟨d, 0, none⟩ = some (.string s) ∧ w'.cell? ⟨d, 1, none⟩ = some (.int .i64 (p : Int)))) (by kernel_rfl) ⟨cell_of_block (G0.out.at_ HB.out (fun h => h)) rfl, cell_of_block (G0.out.at_ HB.out (fun h => h)) rfl⟩ (fun hHeld => ?_)
  refine wpAnyH_take (i := 0) (v := ?_) rlit0 (by kernel_rfl) (by kernel_rfl) (by kernel_rfl) (fun _ _ _ h => h) (Or.inl ⟨by rfl, ?_⟩) (by assumption) ?_
  rotate_left
  · (intro w hSw; (try dsimp only at hSw); go_simp) <;> with_reducible rfl
  try simp only [Act.put, List.setIfInBounds_toArray, List.set_cons_zero, List.set_cons_succ]
  refine wpAnyH_take (i := 1) (v := ?_) rlit1 (by kernel_rfl) (by kernel_rfl) (by kernel_rfl) (fun _ _ _ h => h) (Or.inl ⟨by rfl, ?_⟩) (by assumption) ?_
  rotate_left
  · (intro w hSw; (try dsimp only at hSw); go_simp) <;> with_reducible rfl
  try simp only [Act.put, List.setIfInBounds_toArray, List.set_cons_zero, List.set_cons_succ]
  refine wpAnyH_take (i := 2) (v := ?_) rlit2 (by kernel_rfl) (by kernel_rfl) (by kernel_rfl) (fun _ _ _ h => h) (Or.inl ⟨by rfl, ?_⟩) (by assumption) ?_
  rotate_left
  · (intro w hSw; (try dsimp only at hSw); go_simp) <;> with_reducible rfl
  try simp only [Act.put, List.setIfInBounds_toArray, List.set_cons_zero, List.set_cons_succ]
  refine wpAnyH_take (i := 3) (v := ?_) rlit3 (by kernel_rfl) (by kernel_rfl) (by kernel_rfl) (fun _ _ _ h => h) (Or.inl ⟨by rfl, ?_⟩) (by assumption) ?_
  rotate_left
  · (intro w hSw; (try dsimp only at hSw); go_simp) <;> with_reducible rfl
  try simp only [Act.put, List.setIfInBounds_toArray, List.set_cons_zero, List.set_cons_succ]
  refine wpAnyH_take (i := 4) (v := ?_) rlit4 (by kernel_rfl) (by kernel_rfl) (by kernel_rfl) (fun _ _ _ h => h) (Or.inl ⟨by rfl, ?_⟩) (by assumption) ?_
  rotate_left
  · (intro w hSw; (try dsimp only at hSw); go_simp) <;> with_reducible rfl
  try simp only [Act.put, List.setIfInBounds_toArray, List.set_cons_zero, List.set_cons_succ]
  refine wpAnyH_take (i := 5) (v := ?_) rlit5 (by kernel_rfl) (by kernel_rfl) (by kernel_rfl) (fun _ _ _ h => h) (Or.inl ⟨by rfl, ?_⟩) (by assumption) ?_
  rotate_left
  · (intro w hSw; (try dsimp only at hSw); go_simp) <;> with_reducible rfl
  try simp only [Act.put, List.setIfInBounds_toArray, List.set_cons_zero, List.set_cons_succ]
  refine wpAnyH_take (i := 6) (v := ?_) rlit6 (by kernel_rfl) (by kernel_rfl) (by kernel_rfl) (fun _ _ _ h => h) (Or.inl ⟨by rfl, ?_⟩) (by assumption) ?_
  rotate_left
  · (intro w hSw; (try dsimp only at hSw); go_simp) <;> with_reducible rfl
  try simp only [Act.put, List.setIfInBounds_toArray, List.set_cons_zero, List.set_cons_succ]
  refine wpAnyH_take (i := 7) (v := ?_) rlit7 (by kernel_rfl) (by kernel_rfl) (by kernel_rfl) (fun _ _ _ h => h) (Or.inl ⟨by rfl, ?_⟩) (by assumption) ?_
  rotate_left
  · (intro w hSw; (try dsimp only at hSw); go_simp) <;> with_reducible rfl
  try simp only [Act.put, List.setIfInBounds_toArray, List.set_cons_zero, List.set_cons_succ]
  refine wpAnyH_take (i := 8) (v := ?_) rlit8 (by kernel_rfl) (by kernel_rfl) (by kernel_rfl) (fun _ _ _ h => h) (Or.inl ⟨by rfl, ?_⟩) (by assumption) ?_
  rotate_left
  · (intro w hSw; (try dsimp only at hSw); go_simp) <;> with_reducible rfl
  try simp only [Act.put, List.setIfInBounds_toArray, List.set_cons_zero, List.set_cons_succ]
  refine wpAnyH_take (i := 9) (v := ?_) rlit9 (by kernel_rfl) (by kernel_rfl) (by kernel_rfl) (fun _ _ _ h => h) (Or.inl ⟨by rfl, ?_⟩) (by assumption) ?_
  rotate_left
  · (intro w hSw; (try dsimp only at hSw); go_simp) <;> with_reducible rfl
  try simp only [Act.put, List.setIfInBounds_toArray, List.set_cons_zero, List.set_cons_succ]
  refine wpAnyH_take (i := 10) (v := ?_) rlit10 (by kernel_rfl) (by kernel_rfl) (by kernel_rfl) (fun _ _ _ h => h) (Or.inl ⟨by rfl, ?_⟩) (by assumption) ?_
  rotate_left
  · (intro w hSw; (try dsimp only at hSw); go_simp) <;> with_reducible rfl
  try simp only [Act.put, List.setIfInBounds_toArray, List.set_cons_zero, List.set_cons_succ]
  refine wpAnyH_take (i := 11) (v := ?_) rlit11 (by kernel_rfl) (by kernel_rfl) (by kernel_rfl) (fun _ _ _ h => h) (Or.inl ⟨by rfl, ?_⟩) (by assumption) ?_
  rotate_left
  · (intro w hSw; (try dsimp only at hSw); go_simp) <;> with_reducible rfl
  try simp only [Act.put, List.setIfInBounds_toArray, List.set_cons_zero, List.set_cons_succ]
  refine wpAnyH_ready (rs := [12]) (by kernel_rfl) (by simp) ?_
  refine AllReadyH.cons rlit12 (fun K hK => ?_) AllReadyH.nil
  go_simp
  go_at_call 31
  refine (ris_any s p d 93 bad many _ hs (G0.out.at_ HB.out (fun h => h))).mono ?_
  rintro e wx0 ⟨rfl, Fx⟩
  have G1 := Lib.hid (G0.out.tr Fx)
  clear Fx
  rw [E93.out]
  refine hK.out _ _ ⟨cell_of_block (G1.out.at_ HB.out (fun h => h)) rfl, cell_of_block (G1.out.at_ HB.out (fun h => h)) rfl⟩ (fun hHeld => ?_)
  clear hK K
  try simp only [Act.put, List.setIfInBounds_toArray, List.set_cons_zero, List.set_cons_succ]
  refine wpAnyH_take (i := 13) (v := ?_) rlit13 (by kernel_rfl) (by kernel_rfl) (by kernel_rfl) (fun _ _ _ h => h) (Or.inl ⟨by rfl, ?_⟩) (by assumption) ?_
  rotate_left
  · (intro w hSw; (try dsimp only at hSw); go_simp) <;> with_reducible rfl
  try simp only [Act.put, List.setIfInBounds_toArray, List.set_cons_zero, List.set_cons_succ]
  refine wpAnyH_take (i := 14) (v := ?_) rlit14 (by kernel_rfl) (by kernel_rfl) (by kernel_rfl) (fun _ _ _ h => h) (Or.inl ⟨by rfl, ?_⟩) (by assumption) ?_
  rotate_left
  · (intro w hSw; (try dsimp only at hSw); go_simp) <;> with_reducible rfl
  try simp only [Act.put, List.setIfInBounds_toArray, List.set_cons_zero, List.set_cons_succ]
  refine wpAnyH_take (i := 15) (v := ?_) rlit15 (by kernel_rfl) (by kernel_rfl) (by kernel_rfl) (fun _ _ _ h => h) (Or.inl ⟨by rfl, ?_⟩) (by assumption) ?_
  rotate_left
  · (intro w hSw; (try dsimp only at hSw); go_simp) <;> with_reducible rfl
  try simp only [Act.put, List.setIfInBounds_toArray, List.set_cons_zero, List.set_cons_succ]
  refine wpAnyH_ready (rs := [16]) (by kernel_rfl) (by simp) ?_
  refine AllReadyH.cons rlit16 (fun K hK => ?_) AllReadyH.nil
  go_simp
  go_at_call 31
  refine (ris_any s p d 45 bad many _ hs (G1.out.at_ HB.out (fun h => h))).mono ?_
  rintro e wx1 ⟨rfl, Fx⟩
  have G2 := Lib.hid (G1.out.tr Fx)
  clear Fx
  rw [E45.out]
  refine hK.out _ _ ⟨cell_of_block (G2.out.at_ HB.out (fun h => h)) rfl, cell_of_block (G2.out.at_ HB.out (fun h => h)) rfl⟩ (fun hHeld => ?_)
  clear hK K
  try simp only [Act.put, List.setIfInBounds_toArray, List.set_cons_zero, List.set_cons_succ]
  refine wpAnyH_take (i := 17) (v := ?_) rlit17 (by kernel_rfl) (by kernel_rfl) (by kernel_rfl) (fun _ _ _ h => h) (Or.inl ⟨by rfl, ?_⟩) (by assumption) ?_
  rotate_left
  · (intro w hSw; (try dsimp only at hSw); go_simp) <;> with_reducible rfl
  try simp only [Act.put, List.setIfInBounds_toArray, List.set_cons_zero, List.set_cons_succ]
  refine wpAnyH_done (by kernel_rfl) ?_ _
  generalize wx1 = wx at *
  have HBx := G2.out.at_ HB.out (fun h => h)
  have z2 : wx.cell? ⟨d, 2, none⟩ = some (.bool bad) := cell_of_block HBx rfl
  have zf : wx.frozen? ⟨d, 2, none⟩ = false := free_of_block HBx
  have HBy := Lib.hid (rr_bad HBx true)
  have GF := Lib.hid (G2.out.none (S := at1 d))
  clear HBx
  go_wp2_with fail
  go_ret
  exact ⟨rfl, HBy.out, GF.out.setCell (p := ⟨d, 2, none⟩) (.inl rfl) _⟩

set_option maxRecDepth 100000 in
set_option maxHeartbeats 2000000 in
theorem rone_4 (s : ByteArray) (p d : Nat) (bad many : Bool) (w : World) (hs : s.size ≤ 1000) (hb : w.heap[d]? = some (rrObj s p bad many)) (hp : p ≤ 2000) (h92 : isB s p 92 = false) (hlt : p < s.size) (h93 : isB s p 93 = false) (h45 : isB s p 45 = false) :
    Calls Try.prog 63 #[.pointer (some ⟨d, 0, none⟩)] w fun e w' => e = .returned (.int .u8 (byteAt s p)) ∧ w'.heap[d]? = some (rrObj s (p + 1) bad many) ∧ Fr (at1 d) w w' := by
  have E92 := Lib.hid h92
  clear h92
  have hp0 : (0 : Int) ≤ (p : Int) := by omega
  have E93 := Lib.hid h93
  clear h93
  have E45 := Lib.hid h45
  clear h45
  have hge : decide ((s.size : Int) ≤ (p : Int)) = false := by simp; omega
  have hgn : decide (s.size ≤ p) = false := by simp; omega
  have HB := Lib.hid hb
  clear hb
  go_enter Try.func63, Try.ntmps63
  go_wp2_with fail
  refine (ris_any s p d 92 bad many _ hs HB.out).mono ?_
  rintro e w1 ⟨rfl, F1⟩
  rw [E92.out]
  have G0 := Lib.hid F1.drew
  clear F1
  go_wp2_with fail
  refine wp_region_held_drew (S := (fun w' => w'.cell? ⟨d, 0, none⟩ = some (.string s) ∧ w'.cell? ⟨d, 1, none⟩ = some (.int .i64 (p : Int)))) (by kernel_rfl) ⟨cell_of_block (G0.out.at_ HB.out (fun h => h)) rfl, cell_of_block (G0.out.at_ HB.out (fun h => h)) rfl⟩ (fun hHeld => ?_)
  refine wpAnyH_take (i := 0) (v := ?_) rlit0 (by kernel_rfl) (by kernel_rfl) (by kernel_rfl) (fun _ _ _ h => h) (Or.inl ⟨by rfl, ?_⟩) (by assumption) ?_
  rotate_left
  · (intro w hSw; (try dsimp only at hSw); go_simp) <;> with_reducible rfl
  try simp only [Act.put, List.setIfInBounds_toArray, List.set_cons_zero, List.set_cons_succ]
  refine wpAnyH_take (i := 1) (v := ?_) rlit1 (by kernel_rfl) (by kernel_rfl) (by kernel_rfl) (fun _ _ _ h => h) (Or.inl ⟨by rfl, ?_⟩) (by assumption) ?_
  rotate_left
  · (intro w hSw; (try dsimp only at hSw); go_simp) <;> with_reducible rfl
  try simp only [Act.put, List.setIfInBounds_toArray, List.set_cons_zero, List.set_cons_succ]
  refine wpAnyH_take (i := 2) (v := ?_) rlit2 (by kernel_rfl) (by kernel_rfl) (by kernel_rfl) (fun _ _ _ h => h) (Or.inl ⟨by rfl, ?_⟩) (by assumption) ?_
  rotate_left
  · (intro w hSw; (try dsimp only at hSw); go_simp) <;> with_reducible rfl
  try simp only [Act.put, List.setIfInBounds_toArray, List.set_cons_zero, List.set_cons_succ]
  refine wpAnyH_take (i := 3) (v := ?_) rlit3 (by kernel_rfl) (by kernel_rfl) (by kernel_rfl) (fun _ _ _ h => h) (Or.inl ⟨by rfl, ?_⟩) (by assumption) ?_
  rotate_left
  · (intro w hSw; (try dsimp only at hSw); go_simp) <;> with_reducible rfl
  try simp only [Act.put, List.setIfInBounds_toArray, List.set_cons_zero, List.set_cons_succ]
  refine wpAnyH_take (i := 4) (v := ?_) rlit4 (by kernel_rfl) (by kernel_rfl) (by kernel_rfl) (fun _ _ _ h => h) (Or.inl ⟨by rfl, ?_⟩) (by assumption) ?_
  rotate_left
  · (intro w hSw; (try dsimp only at hSw); go_simp) <;> with_reducible rfl
  try simp only [Act.put, List.setIfInBounds_toArray, List.set_cons_zero, List.set_cons_succ]
  refine wpAnyH_take (i := 5) (v := ?_) rlit5 (by kernel_rfl) (by kernel_rfl) (by kernel_rfl) (fun _ _ _ h => h) (Or.inl ⟨by rfl, ?_⟩) (by assumption) ?_
  rotate_left
  · (intro w hSw; (try dsimp only at hSw); go_simp) <;> with_reducible rfl
  try simp only [Act.put, List.setIfInBounds_toArray, List.set_cons_zero, List.set_cons_succ]
  refine wpAnyH_take (i := 6) (v := ?_) rlit6 (by kernel_rfl) (by kernel_rfl) (by kernel_rfl) (fun _ _ _ h => h) (Or.inl ⟨by rfl, ?_⟩) (by assumption) ?_
  rotate_left
  · (intro w hSw; (try dsimp only at hSw); go_simp) <;> with_reducible rfl
  try simp only [Act.put, List.setIfInBounds_toArray, List.set_cons_zero, List.set_cons_succ]
  refine wpAnyH_take (i := 7) (v := ?_) rlit7 (by kernel_rfl) (by kernel_rfl) (by kernel_rfl) (fun _ _ _ h => h) (Or.inl ⟨by rfl, ?_⟩) (by assumption) ?_
  rotate_left
  · (intro w hSw; (try dsimp only at hSw); go_simp) <;> with_reducible rfl
  try simp only [Act.put, List.setIfInBounds_toArray, List.set_cons_zero, List.set_cons_succ]
  refine wpAnyH_take (i := 8) (v := ?_) rlit8 (by kernel_rfl) (by kernel_rfl) (by kernel_rfl) (fun _ _ _ h => h) (Or.inl ⟨by rfl, ?_⟩) (by assumption) ?_
  rotate_left
  · (intro w hSw; (try dsimp only at hSw); go_simp) <;> with_reducible rfl
  try simp only [Act.put, List.setIfInBounds_toArray, List.set_cons_zero, List.set_cons_succ]
  refine wpAnyH_take (i := 9) (v := ?_) rlit9 (by kernel_rfl) (by kernel_rfl) (by kernel_rfl) (fun _ _ _ h => h) (Or.inl ⟨by rfl, ?_⟩) (by assumption) ?_
  rotate_left
  · (intro w hSw; (try dsimp only at hSw); go_simp) <;> with_reducible rfl
  try simp only [Act.put, List.setIfInBounds_toArray, List.set_cons_zero, List.set_cons_succ]
  refine wpAnyH_take (i := 10) (v := ?_) rlit10 (by kernel_rfl) (by kernel_rfl) (by kernel_rfl) (fun _ _ _ h => h) (Or.inl ⟨by rfl, ?_⟩) (by assumption) ?_
  rotate_left
  · (intro w hSw; (try dsimp only at hSw); go_simp) <;> with_reducible rfl
  try simp only [Act.put, List.setIfInBounds_toArray, List.set_cons_zero, List.set_cons_succ]
  refine wpAnyH_take (i := 11) (v := ?_) rlit11 (by kernel_rfl) (by kernel_rfl) (by kernel_rfl) (fun _ _ _ h => h) (Or.inl ⟨by rfl, ?_⟩) (by assumption) ?_
  rotate_left
  · (intro w hSw; (try dsimp only at hSw); go_simp) <;> with_reducible rfl
  try simp only [Act.put, List.setIfInBounds_toArray, List.set_cons_zero, List.set_cons_succ]
  refine wpAnyH_ready (rs := [12]) (by kernel_rfl) (by simp) ?_
  refine AllReadyH.cons rlit12 (fun K hK => ?_) AllReadyH.nil
  go_simp
  go_at_call 31
  refine (ris_any s p d 93 bad many _ hs (G0.out.at_ HB.out (fun h => h))).mono ?_
  rintro e wx0 ⟨rfl, Fx⟩
  have G1 := Lib.hid (G0.out.tr Fx)
  clear Fx
  rw [E93.out]
  refine hK.out _ _ ⟨cell_of_block (G1.out.at_ HB.out (fun h => h)) rfl, cell_of_block (G1.out.at_ HB.out (fun h => h)) rfl⟩ (fun hHeld => ?_)
  clear hK K
  try simp only [Act.put, List.setIfInBounds_toArray, List.set_cons_zero, List.set_cons_succ]
  refine wpAnyH_take (i := 13) (v := ?_) rlit13 (by kernel_rfl) (by kernel_rfl) (by kernel_rfl) (fun _ _ _ h => h) (Or.inl ⟨by rfl, ?_⟩) (by assumption) ?_
  rotate_left
  · (intro w hSw; (try dsimp only at hSw); go_simp) <;> with_reducible rfl
  try simp only [Act.put, List.setIfInBounds_toArray, List.set_cons_zero, List.set_cons_succ]
  refine wpAnyH_take (i := 14) (v := ?_) rlit14 (by kernel_rfl) (by kernel_rfl) (by kernel_rfl) (fun _ _ _ h => h) (Or.inl ⟨by rfl, ?_⟩) (by assumption) ?_
  rotate_left
  · (intro w hSw; (try dsimp only at hSw); go_simp) <;> with_reducible rfl
  try simp only [Act.put, List.setIfInBounds_toArray, List.set_cons_zero, List.set_cons_succ]
  refine wpAnyH_take (i := 15) (v := ?_) rlit15 (by kernel_rfl) (by kernel_rfl) (by kernel_rfl) (fun _ _ _ h => h) (Or.inl ⟨by rfl, ?_⟩) (by assumption) ?_
  rotate_left
  · (intro w hSw; (try dsimp only at hSw); go_simp) <;> with_reducible rfl
  try simp only [Act.put, List.setIfInBounds_toArray, List.set_cons_zero, List.set_cons_succ]
  refine wpAnyH_ready (rs := [16]) (by kernel_rfl) (by simp) ?_
  refine AllReadyH.cons rlit16 (fun K hK => ?_) AllReadyH.nil
  go_simp
  go_at_call 31
  refine (ris_any s p d 45 bad many _ hs (G1.out.at_ HB.out (fun h => h))).mono ?_
  rintro e wx1 ⟨rfl, Fx⟩
  have G2 := Lib.hid (G1.out.tr Fx)
  clear Fx
  rw [E45.out]
  refine hK.out _ _ ⟨cell_of_block (G2.out.at_ HB.out (fun h => h)) rfl, cell_of_block (G2.out.at_ HB.out (fun h => h)) rfl⟩ (fun hHeld => ?_)
  clear hK K
  try simp only [Act.put, List.setIfInBounds_toArray, List.set_cons_zero, List.set_cons_succ]
  refine wpAnyH_take (i := 17) (v := ?_) rlit17 (by kernel_rfl) (by kernel_rfl) (by kernel_rfl) (fun _ _ _ h => h) (Or.inl ⟨by rfl, ?_⟩) (by assumption) ?_
  rotate_left
  · (intro w hSw; (try dsimp only at hSw); go_simp) <;> with_reducible rfl
  try simp only [Act.put, List.setIfInBounds_toArray, List.set_cons_zero, List.set_cons_succ]
  refine wpAnyH_done (by kernel_rfl) ?_ _
  generalize wx1 = wx at *
  have HBx := G2.out.at_ HB.out (fun h => h)
  have z1 : wx.cell? ⟨d, 1, none⟩ = some (.int .i64 (p : Int)) := cell_of_block HBx rfl
  have zf : wx.frozen? ⟨d, 1, none⟩ = false := free_of_block HBx
  have HBy := rr_step HBx (p + 1)
  have GF := Lib.hid ((G2.out.none (S := at1 d)).setCell (p := ⟨d, 1, none⟩) (.inl rfl) (.int .i64 ((p + 1 : Nat) : Int)))
  obtain ⟨w2, hw2⟩ : ∃ x, wx.setCell ⟨d, 1, none⟩ (.int .i64 ((p + 1 : Nat) : Int)) = x := ⟨_, rfl⟩
  rw [hw2] at HBy GF
  have HW2 := Lib.hid hw2
  have y0 : w2.cell? ⟨d, 0, none⟩ = some (.string s) := cell_of_block HBy rfl
  have y1 : w2.cell? ⟨d, 1, none⟩ = some (.int .i64 ((p + 1 : Nat) : Int)) := cell_of_block HBy rfl
  have BE := Lib.hid (byteAt_eq s p hlt)
  have hlt2 : (p : Int) < (s.size : Int) := by omega
  clear HBx hw2
  replace HBy := Lib.hid HBy
  go_wp2_with fail
  try rw [show ((p : Int) + 1) = ((p + 1 : Nat) : Int) by omega]
  rw [HW2.out]
  go_quiet (fail)
  go_wp2_with fail
  go_ret
  
  exact ⟨by rw [← BE.out]; rfl, HBy.out, GF.out.drewN _⟩

theorem RGotN.from_ {d : Nat} {s : ByteArray} {bad many : Bool} {w w1 : World} {m : Got Nat} {e : Ending} {w' : World} (hf : Fr (at1 d) w w1) (h : RGotN d s bad many w1 m e w') : RGotN d s bad many w m e w' := by
  cases m with
  | ok x => exact ⟨h.1, h.2.1, hf.tr h.2.2⟩
  | error n =>
    obtain ⟨b, q, h1, h2, h3, h4, h5⟩ := h
    exact ⟨b, q, h1, h2, h3, h4, hf.tr h5⟩
set_option maxRecDepth 100000 in
set_option maxHeartbeats 2000000 in
theorem rone_0 (s : ByteArray) (p d : Nat) (bad many : Bool) (w : World) (hs : s.size ≤ 1000) (hb : w.heap[d]? = some (rrObj s p bad many)) (hp : p ≤ 2000) (h92 : isB s p 92 = true) : Calls Try.prog 63 #[.pointer (some ⟨d, 0, none⟩)] w (RGotN d s bad many w (charB s (p + 1))) := by
  have hlt : p < s.size := by simp [isB] at h92; exact h92.1
  obtain ⟨m, hm⟩ : ∃ m, charB s (p + 1) = m := ⟨_, rfl⟩
  rw [hm]
  have HM := Lib.hid hm
  clear hm
  have E92 := Lib.hid h92
  clear h92
  have HB := Lib.hid hb
  clear hb
  go_enter Try.func63, Try.ntmps63
  go_wp2_with fail
  refine (ris_any s p d 92 bad many _ hs HB.out).mono ?_
  rintro e w1 ⟨rfl, F1⟩
  rw [E92.out]
  have HB1 := Lib.hid (F1.at_ HB.out (fun h => h))
  have G1 := Lib.hid (F1.none (S := at1 d))
  clear F1
  go_wp2_with fail
  have hc := rchar_any s p d bad many w1 hs HB1.out hlt
  rw [HM.out] at hc
  refine hc.mono ?_
  clear hc
  intro e w2 h2
  cases m with
  | ok x =>
    obtain ⟨rfl, h3, h4⟩ := h2
    go_wp2_with fail
    go_ret
    exact ⟨rfl, h3, G1.out.tr h4⟩
  | error n =>
    obtain ⟨b, q, h1, h2, rfl, h3, h4⟩ := h2
    go_wp2_with fail
    go_ret
    exact ⟨b, q, h1, h2, rfl, h3, G1.out.tr h4⟩

theorem rone_any (s : ByteArray) (p d : Nat) (bad many : Bool) (w : World) (hs : s.size ≤ 1000) (hb : w.heap[d]? = some (rrObj s p bad many)) (hp : p ≤ s.size) :
    Calls Try.prog 63 #[.pointer (some ⟨d, 0, none⟩)] w (RGotN d s bad many w (oneB s p)) := by
  rw [oneB_eq]
  by_cases h92 : isB s p 92 = true
  · rw [if_pos h92]
    exact rone_0 s p d bad many w hs hb (by omega) h92
  · rw [if_neg h92]
    have h92' : isB s p 92 = false := by simpa using h92
    have err : ∀ {e : Ending} {w' : World}, (e = .returned (.int .u8 0) ∧ w'.heap[d]? = some (rrObj s p true many) ∧ Fr (at1 d) w w') → RGotN d s bad many w (.error 5) e w' :=
      fun h => ⟨0, p, by decide, hp, h.1, h.2.1, h.2.2⟩
    by_cases hlt : p < s.size
    · rw [if_pos hlt]
      by_cases h93 : isB s p 93 = true
      · rw [if_pos (.inl h93)]
        exact (rone_2 s p d bad many w hs hb (by omega) h92' hlt h93).mono fun e w' h => err h
      · by_cases h45 : isB s p 45 = true
        · rw [if_pos (.inr h45)]
          exact (rone_3 s p d bad many w hs hb (by omega) h92' hlt (by simpa using h93) h45).mono fun e w' h => err h
        · rw [if_neg (fun h => h.elim h93 h45)]
          exact rone_4 s p d bad many w hs hb (by omega) h92' hlt (by simpa using h93) (by simpa using h45)
    · rw [if_neg hlt]
      exact (rone_1 s p d bad many w hs hb (by omega) h92' hlt).mono fun e w' h => err h
end Go.Proofs.Ytjbmppbciiemkaa
