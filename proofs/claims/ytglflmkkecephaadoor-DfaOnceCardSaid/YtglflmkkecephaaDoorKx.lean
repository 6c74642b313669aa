/-
  The law DfaOnce: of one regex it accepts by its own number alone; of none nothing.
-/
import Derived.Test.YtglflmkkecephaaDoorKt
import Derived.Test.YtglflmkkecephaaDoorRall
namespace Go.Proofs.YtglflmkkecephaaDoor
open Go.RowKit

theorem bytesN_256 (s : ByteArray) : ∀ b ∈ bytesN s, b < 256 := by
  intro b hb
  simp only [bytesN, List.mem_map] at hb
  obtain ⟨x, _, rfl⟩ := hb
  exact x.toNat_lt
theorem once_plain (r : Rx) (s : ByteArray) {D : Dfa} (h : dfaX [r] = some D) : runD D (bytesN s) = if matchP r s then 1 else 0 := by
  rw [dfaX_run _ h _ (bytesN_256 s)]
  refine Nat.eq_of_testBit_eq fun t => ?_
  rw [Bool.eq_iff_iff, run_lang [r] (by simp)]
  cases t with
  | zero =>
    have hm := matchP_true (r := r) (s := s)
    constructor
    · rintro ⟨q, hq, hl⟩
      obtain rfl : r = q := by simpa using hq
      rw [if_pos (hm.2 hl)]
      decide
    · intro hb
      refine ⟨r, rfl, hm.1 ?_⟩
      by_cases hh : matchP r s = true
      · exact hh
      · rw [if_neg hh] at hb; simp at hb
  | succ t =>
    constructor
    · rintro ⟨q, hq, _⟩; simp at hq
    · intro hb
      exfalso
      split at hb
      · rw [Nat.testBit_succ] at hb; simp at hb
      · simp at hb
theorem none_plain (s : ByteArray) {D : Dfa} (h : dfaX [] = some D) : runD D (bytesN s) = 0 := by
  rw [dfaX_run _ h _ (bytesN_256 s)]
  refine Nat.eq_of_testBit_eq fun t => ?_
  rw [Bool.eq_iff_iff, run_lang [] (by simp)]
  constructor
  · rintro ⟨q, hq, _⟩; simp at hq
  · intro hb; simp at hb
theorem parsedM_one (z : ByteArray) : parsedM [z] = match okM z with | some r => [r] | none => [] := by
  simp only [parsedM, List.filterMap_cons, List.filterMap_nil]
  cases okM z <;> rfl

set_option maxRecDepth 100000 in
set_option maxHeartbeats 4000000 in
theorem once_skip (z s : ByteArray) (w : World) (hp : PowOk w) (h1 : z.size ≤ 140737488351232) (h2 : s.size ≤ 140737488351232) (hc : 12 < z.size ∨ 40 < s.size) :
    Calls Tryd.prog 5 #[.string z, .string s] w fun e w' => e = .returned (.bool true) ∧ Below w.heap.size w w' := by
  have HP := Lib.hid hp
  clear hp
  by_cases g : 12 < z.size
  · have g' : (12 : Int) < (z.size : Int) := by omega
    clear hc
    go_enter Tryd.func5, Tryd.ntmps5
    go_wp2_with fail
    refine (works5_any _ HP.out).mono ?_
    rintro e w1 ⟨rfl, F1⟩
    have HF := Lib.hid F1
    clear F1
    go_wp2_with fail
    go_ret
    exact ⟨rfl, HF.out.below⟩
  · have g' : (z.size : Int) ≤ 12 := by omega
    have g2' : (40 : Int) < (s.size : Int) := by omega
    clear hc
    go_enter Tryd.func5, Tryd.ntmps5
    go_wp2_with fail
    refine (works5_any _ HP.out).mono ?_
    rintro e w1 ⟨rfl, F1⟩
    have HF := Lib.hid F1
    clear F1
    go_wp2_with fail
    go_ret
    exact ⟨rfl, HF.out.below⟩

set_option maxRecDepth 100000 in
set_option maxHeartbeats 4000000 in
theorem once_none (z s : ByteArray) (w : World) (hp : PowOk w) (h1 : z.size ≤ 12) (h2 : s.size ≤ 40) (hd : dfaX (parsedM [z]) = none) :
    Calls Tryd.prog 5 #[.string z, .string s] w fun e w' => e = .returned (.bool true) ∧ Below w.heap.size w w' := by
  have HP := Lib.hid hp
  have HFEW := Lib.hid (show Few [z] from ⟨by simp, fun x hx => by obtain rfl := List.mem_singleton.1 hx; omega⟩)
  have HS4 := Lib.hid (show Rx.sizes (parsedM [z]) < 4611686018427387904 by have := parsedM_sizes [z] (by simp); omega)
  have h1' : (z.size : Int) ≤ 12 := by omega
  have h2' : (s.size : Int) ≤ 40 := by omega
  clear hp
  go_enter Tryd.func5, Tryd.ntmps5
  go_wp2_with fail
  refine (works5_any _ HP.out).mono ?_
  rintro e w1 ⟨rfl, F1⟩
  have HF := Lib.hid F1
  clear F1
  go_wp2_with fail
  have HSA := Lib.hid (show StrsAt (w1.alloc (.cells #[.string z] 9)) (some ⟨w1.heap.size, 0, none⟩) 1 [z] from
    ⟨rfl, by unfold maxLen; omega, fun i y hy => ⟨⟨w1.heap.size, 0, none⟩, rfl, by
      match i, hy with
      | 0, hy =>
        obtain rfl : z = y := by simpa using hy
        exact cell_of_block (alloc_new w1 _) rfl⟩, fun y hy => by obtain rfl := List.mem_singleton.1 hy; unfold maxLen; omega⟩)
  have HFa := Lib.hid (HF.out.alloc (.cells #[.string z] 9))
  refine (parsed_any (some ⟨w1.heap.size, 0, none⟩) 1 1 [z] _ HSA.out HFEW.out).mono ?_
  rintro e w3 ⟨a', cap', rfl, hc', hl', F3⟩
  have HL := Lib.hid hl'
  have HF3 := Lib.hid (HFa.out.tr F3)
  clear hl' F3 HSA HFa
  go_wp2_with fail
  refine (dbuild_any (parsedM [z]) a' cap' _ _ hc' HS4.out HL.out (HP.out.move HF3.out)).mono ?_
  rintro e w4 ⟨hB, F4⟩
  have HF4 := Lib.hid (HF3.out.tr F4)
  have HL4 := Lib.hid (RxL.move (fun i _ hlt => F4.block i hlt (fun h => h)) _ _ _ HL.out)
  clear F4 HL
  rw [hd] at hB
  obtain rfl := hB
  go_wp2_with (refine wpList_store_row rfl 29 _ _ rfl w4.heap.size 29 Tryd.zeroCells29 Tryd.zeroCells29 rfl rfl (alloc_new w4 _) (by rw [zeroD_size]; exact dfa_info) rfl zeroD_one ?_)
  go_ret
  exact ⟨rfl, (HF4.out.tr (laid_row w4 _ _ _).1).below⟩

set_option maxRecDepth 100000 in
set_option maxHeartbeats 4000000 in
theorem once_empty (z s : ByteArray) (w : World) (hp : PowOk w) (h1 : z.size ≤ 12) (h2 : s.size ≤ 40) (D : Dfa) (hd : dfaX (parsedM [z]) = some D) (hk : okM z = none) :
    Calls Tryd.prog 5 #[.string z, .string s] w fun e w' => e = .returned (.bool true) ∧ Below w.heap.size w w' := by
  have hpm : parsedM [z] = [] := by rw [parsedM_one, hk]
  have HR := Lib.hid (none_plain s (D := D) (by rw [← hpm]; exact hd))
  have HPM := Lib.hid hpm
  clear hk hpm
  have HP := Lib.hid hp
  have HFEW := Lib.hid (show Few [z] from ⟨by simp, fun x hx => by obtain rfl := List.mem_singleton.1 hx; omega⟩)
  have HS4 := Lib.hid (show Rx.sizes (parsedM [z]) < 4611686018427387904 by have := parsedM_sizes [z] (by simp); omega)
  have h1' : (z.size : Int) ≤ 12 := by omega
  have h2' : (s.size : Int) ≤ 40 := by omega
  clear hp
  go_enter Tryd.func5, Tryd.ntmps5
  go_wp2_with fail
  refine (works5_any _ HP.out).mono ?_
  rintro e w1 ⟨rfl, F1⟩
  have HF := Lib.hid F1
  clear F1
  go_wp2_with fail
  have HSA := Lib.hid (show StrsAt (w1.alloc (.cells #[.string z] 9)) (some ⟨w1.heap.size, 0, none⟩) 1 [z] from
    ⟨rfl, by unfold maxLen; omega, fun i y hy => ⟨⟨w1.heap.size, 0, none⟩, rfl, by
      match i, hy with
      | 0, hy =>
        obtain rfl : z = y := by simpa using hy
        exact cell_of_block (alloc_new w1 _) rfl⟩, fun y hy => by obtain rfl := List.mem_singleton.1 hy; unfold maxLen; omega⟩)
  have HFa := Lib.hid (HF.out.alloc (.cells #[.string z] 9))
  refine (parsed_any (some ⟨w1.heap.size, 0, none⟩) 1 1 [z] _ HSA.out HFEW.out).mono ?_
  rintro e w3 ⟨a', cap', rfl, hc', hl', F3⟩
  have HL := Lib.hid hl'
  have HF3 := Lib.hid (HFa.out.tr F3)
  clear hl' F3 HSA HFa
  go_wp2_with fail
  refine (dbuild_any (parsedM [z]) a' cap' _ _ hc' HS4.out HL.out (HP.out.move HF3.out)).mono ?_
  rintro e w4 ⟨hB, F4⟩
  have HF4 := Lib.hid (HF3.out.tr F4)
  have HL4 := Lib.hid (RxL.move (fun i _ hlt => F4.block i hlt (fun h => h)) _ _ _ HL.out)
  clear F4 HL
  rw [hd] at hB
  clear hd
  obtain ⟨v, rfl, hD⟩ := hB
  obtain ⟨C, rfl, hz, hone⟩ := hD.cells
  have HDI := Lib.hid hD
  have LF := Lib.hid (laid_row w4 Tryd.zeroCells29 29 C.toArray).1
  have LB := Lib.hid (laid_row w4 Tryd.zeroCells29 29 C.toArray).2
  clear hD
  go_wp2_with (first
    | (refine wpList_store_row rfl 29 _ _ rfl w4.heap.size 29 Tryd.zeroCells29 C.toArray rfl rfl (alloc_new w4 _) (by rw [List.size_toArray, hz]; exact dfa_info) (by rw [zeroD_size, List.size_toArray, hz]) hone ?_)
    | (refine wpList_load_row rfl 29 _ rfl w4.heap.size 29 C _ rfl LB.out Tryd.underlying29 rfl (by rw [hz]; exact dfa_info) ?_))
  generalize hwf : (w4.alloc (.cells Tryd.zeroCells29 29)).setRow w4.heap.size C.toArray = w5 at *
  have HL5 := Lib.hid (RxL.move (fun i _ hlt => LF.out.block i hlt (fun h => h)) _ _ _ HL4.out)
  have F5 := Lib.hid (HF4.out.tr LF.out)
  refine (drun_any D _ s _ (HDI.out.move LF.out) (by omega)).mono ?_
  rintro e w6 ⟨rfl, F6⟩
  rw [HR.out]
  have HL6 := Lib.hid (RxL.move (fun i _ hlt => F6.block i hlt (fun h => h)) _ _ _ HL5.out)
  have FF := Lib.hid (F5.out.tr F6)
  clear F6 HL5 HL4 F5 LF LB HDI hwf
  rw [show (parsedM [z]).length = 0 by rw [HPM.out]; rfl]
  go_wp2_with fail
  go_ret
  exact ⟨rfl, FF.out.below⟩

set_option maxRecDepth 100000 in
set_option maxHeartbeats 4000000 in
theorem once_runs (z s : ByteArray) (w : World) (hp : PowOk w) (h1 : z.size ≤ 12) (h2 : s.size ≤ 40) (D : Dfa) (hd : dfaX (parsedM [z]) = some D) (r : Rx) (hk : okM z = some r) :
    Calls Tryd.prog 5 #[.string z, .string s] w fun e w' => e = .returned (.bool true) ∧ Below w.heap.size w w' := by
  have hpm : parsedM [z] = [r] := by rw [parsedM_one, hk]
  obtain ⟨m, hm⟩ : ∃ m, matchP r s = m := ⟨_, rfl⟩
  have HR := Lib.hid (show runD D (bytesN s) = (if m then 1 else 0) by have := once_plain r s (D := D) (by rw [← hpm]; exact hd); rw [hm] at this; exact this)
  have HMP := Lib.hid hm
  clear hm
  have HSZ := Lib.hid (show r.size ≤ 1000 by
    unfold okM at hk
    cases hm : parseM z with
    | error n => rw [hm] at hk; simp at hk
    | ok q =>
      rw [hm] at hk
      obtain rfl : q = r := by simpa using hk
      have := (parseM_size hm).1
      omega)
  have HPM := Lib.hid hpm
  clear hk hpm
  have HP := Lib.hid hp
  have HFEW := Lib.hid (show Few [z] from ⟨by simp, fun x hx => by obtain rfl := List.mem_singleton.1 hx; omega⟩)
  have HS4 := Lib.hid (show Rx.sizes (parsedM [z]) < 4611686018427387904 by have := parsedM_sizes [z] (by simp); omega)
  have h1' : (z.size : Int) ≤ 12 := by omega
  have h2' : (s.size : Int) ≤ 40 := by omega
  clear hp
  go_enter Tryd.func5, Tryd.ntmps5
  go_wp2_with fail
  refine (works5_any _ HP.out).mono ?_
  rintro e w1 ⟨rfl, F1⟩
  have HF := Lib.hid F1
  clear F1
  go_wp2_with fail
  have HSA := Lib.hid (show StrsAt (w1.alloc (.cells #[.string z] 9)) (some ⟨w1.heap.size, 0, none⟩) 1 [z] from
    ⟨rfl, by unfold maxLen; omega, fun i y hy => ⟨⟨w1.heap.size, 0, none⟩, rfl, by
      match i, hy with
      | 0, hy =>
        obtain rfl : z = y := by simpa using hy
        exact cell_of_block (alloc_new w1 _) rfl⟩, fun y hy => by obtain rfl := List.mem_singleton.1 hy; unfold maxLen; omega⟩)
  have HFa := Lib.hid (HF.out.alloc (.cells #[.string z] 9))
  refine (parsed_any (some ⟨w1.heap.size, 0, none⟩) 1 1 [z] _ HSA.out HFEW.out).mono ?_
  rintro e w3 ⟨a', cap', rfl, hc', hl', F3⟩
  have HL := Lib.hid hl'
  have HF3 := Lib.hid (HFa.out.tr F3)
  clear hl' F3 HSA HFa
  go_wp2_with fail
  refine (dbuild_any (parsedM [z]) a' cap' _ _ hc' HS4.out HL.out (HP.out.move HF3.out)).mono ?_
  rintro e w4 ⟨hB, F4⟩
  have HF4 := Lib.hid (HF3.out.tr F4)
  have HL4 := Lib.hid (RxL.move (fun i _ hlt => F4.block i hlt (fun h => h)) _ _ _ HL.out)
  clear F4 HL
  rw [hd] at hB
  clear hd
  obtain ⟨v, rfl, hD⟩ := hB
  obtain ⟨C, rfl, hz, hone⟩ := hD.cells
  have HDI := Lib.hid hD
  have LF := Lib.hid (laid_row w4 Tryd.zeroCells29 29 C.toArray).1
  have LB := Lib.hid (laid_row w4 Tryd.zeroCells29 29 C.toArray).2
  clear hD
  go_wp2_with (first
    | (refine wpList_store_row rfl 29 _ _ rfl w4.heap.size 29 Tryd.zeroCells29 C.toArray rfl rfl (alloc_new w4 _) (by rw [List.size_toArray, hz]; exact dfa_info) (by rw [zeroD_size, List.size_toArray, hz]) hone ?_)
    | (refine wpList_load_row rfl 29 _ rfl w4.heap.size 29 C _ rfl LB.out Tryd.underlying29 rfl (by rw [hz]; exact dfa_info) ?_))
  generalize hwf : (w4.alloc (.cells Tryd.zeroCells29 29)).setRow w4.heap.size C.toArray = w5 at *
  have HL5 := Lib.hid (RxL.move (fun i _ hlt => LF.out.block i hlt (fun h => h)) _ _ _ HL4.out)
  have F5 := Lib.hid (HF4.out.tr LF.out)
  refine (drun_any D _ s _ (HDI.out.move LF.out) (by omega)).mono ?_
  rintro e w6 ⟨rfl, F6⟩
  rw [HR.out]
  have HL6 := Lib.hid (RxL.move (fun i _ hlt => F6.block i hlt (fun h => h)) _ _ _ HL5.out)
  have FF := Lib.hid (F5.out.tr F6)
  clear F6 HL5 HL4 F5 LF LB HDI hwf
  have hL := HL6.out
  rw [HPM.out] at hL
  simp only [RxL] at hL
  obtain ⟨⟨ad, cs, rfl, _, hcs, hat, hrc⟩, _⟩ := hL
  obtain ⟨k, b0, b1, b2, b3, kids⟩ := r
  simp only [RxC] at hrc
  obtain ⟨ka, kcap, rfl, hkc, hkl⟩ := hrc
  have HKL := Lib.hid hkl
  have g0 : w6.cell? ad = some (.int .i64 k) := by have := hat 0 _ rfl; simpa [Addr.add] using this
  have g1 : w6.cell? ⟨ad.block, ad.off + 1, none⟩ = some (.int .u64 b0) := by have := hat 1 _ rfl; simpa [Addr.add] using this
  have g2 : w6.cell? ⟨ad.block, ad.off + 2, none⟩ = some (.int .u64 b1) := by have := hat 2 _ rfl; simpa [Addr.add] using this
  have g3 : w6.cell? ⟨ad.block, ad.off + 3, none⟩ = some (.int .u64 b2) := by have := hat 3 _ rfl; simpa [Addr.add] using this
  have g4 : w6.cell? ⟨ad.block, ad.off + 4, none⟩ = some (.int .u64 b3) := by have := hat 4 _ rfl; simpa [Addr.add] using this
  have g5 : w6.cell? ⟨ad.block, ad.off + 5, none⟩ = some (.slice ka kids.length kcap) := by have := hat 5 _ rfl; simpa [Addr.add] using this
  rw [show (parsedM [z]).length = 1 by rw [HPM.out]; rfl]
  clear hat hkl HPM HL6 hcs
  have h5' : (s.size : Int) ≤ 1000 := by omega
  cases m with
  | true =>
    simp only [if_true]
    go_wp2_with fail
    refine (match_any _ s _ _ w6 (by omega) HSZ.out (RxV.mk_ hkc HKL.out)).mono ?_
    rintro e w7 ⟨rfl, F7⟩
    rw [HMP.out]
    have F8 := Lib.hid (FF.out.tr F7)
    clear F7 g0 g1 g2 g3 g4 g5
    go_wp2_with fail
    go_ret
    exact ⟨rfl, F8.out.below⟩
  | false =>
    simp only [Bool.false_eq_true, if_false]
    go_wp2_with fail
    refine (match_any _ s _ _ w6 (by omega) HSZ.out (RxV.mk_ hkc HKL.out)).mono ?_
    rintro e w7 ⟨rfl, F7⟩
    rw [HMP.out]
    have F8 := Lib.hid (FF.out.tr F7)
    clear F7 g0 g1 g2 g3 g4 g5
    go_wp2_with fail
    go_ret
    exact ⟨rfl, F8.out.below⟩
theorem once_any (z s : ByteArray) (w : World) (hz : z.size ≤ 140737488351232) (hs : s.size ≤ 140737488351232) (hp : PowOk w) :
    Calls Tryd.prog 5 #[.string z, .string s] w fun e w' => e = .returned (.bool true) ∧ Below w.heap.size w w' := by
  by_cases h : z.size ≤ 12 ∧ s.size ≤ 40
  · obtain ⟨h1, h2⟩ := h
    cases hd : dfaX (parsedM [z]) with
    | none => exact once_none z s w hp h1 h2 hd
    | some D =>
      cases hk : okM z with
      | none => exact once_empty z s w hp h1 h2 D hd hk
      | some r => exact once_runs z s w hp h1 h2 D hd r hk
  · exact once_skip z s w hp hz hs (by omega)
end Go.Proofs.YtglflmkkecephaaDoor
