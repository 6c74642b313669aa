/-
  The law NfaNothing: where a machine is nowhere it stays nowhere.
-/
import Derived.Test.YtgpmbkgedhcbjaaNq
namespace Go.Proofs.Ytgpmbkgedhcbjaa
open Go.RowKit

theorem bytesN_append (s t : ByteArray) : bytesN (s ++ t) = bytesN s ++ bytesN t := by
  simp [bytesN, ByteArray.data_append]
theorem atM_append (l : List St) (starts : List Nat) (a b : List Nat) : atM l starts (a ++ b) = b.foldl (fun x c => stepM l (ints x) c) (atM l starts a) := by
  simp [atM]
theorem at_nowhere (l : List St) (starts : List Nat) (a b : List Nat) (h : atM l starts a = []) : atM l starts (a ++ b) = [] := by
  rw [atM_append, h]
  induction b with
  | nil => rfl
  | cons c b ih =>
    rw [List.foldl_cons]
    have : stepM l (ints []) c = [] := by
      unfold stepM stepW ints
      exact closed_nil l
    rw [this]
    exact ih
theorem run_nowhere (l : List St) (starts : List Nat) (a : List Nat) (h : atM l starts a = []) : runM l starts a = 0 := by
  unfold runM
  rw [h]
  rfl

set_option maxRecDepth 100000 in
set_option maxHeartbeats 4000000 in
theorem nothing_skip (a : Option Addr) (len cap : Nat) (zs : List ByteArray) (s t : ByteArray) (w : World) (h : StrsAt w a len zs) (hs : s.size ≤ 140737488351232) (ht : t.size ≤ 140737488351232)
    (hc : ¬ Few zs ∨ 40 < s.size ∨ 40 < t.size) :
    Calls Try.prog 5 #[.slice a len cap, .string s, .string t] w fun e w' => e = .returned (.bool true) ∧ Below w.heap.size w w' := by
  have H := Lib.hid h
  clear h
  by_cases hf : Few zs
  · have HFEW := Lib.hid hf
    have hc' : 40 < s.size ∨ 40 < t.size := by
      rcases hc with h | h
      · exact absurd hf h
      · exact h
    clear hc hf
    by_cases h1 : 40 < s.size
    · have h1' : (40 : Int) < (s.size : Int) := by omega
      clear hc'
      go_enter Try.func5, Try.ntmps5
      go_wp2_with fail
      refine (works_any _).mono ?_
      rintro e w1 ⟨rfl, F1⟩
      have HF := Lib.hid F1
      clear F1
      go_wp2_with fail
      refine (over_no a len cap zs _ (H.out.move HF.out) HFEW.out).mono ?_
      rintro e w2 ⟨rfl, rfl⟩
      go_wp2_with fail
      go_ret
      exact ⟨rfl, HF.out.below⟩
    · have h1' : (s.size : Int) ≤ 40 := by omega
      have h2' : (40 : Int) < (t.size : Int) := by omega
      clear hc' h1
      go_enter Try.func5, Try.ntmps5
      go_wp2_with fail
      refine (works_any _).mono ?_
      rintro e w1 ⟨rfl, F1⟩
      have HF := Lib.hid F1
      clear F1
      go_wp2_with fail
      refine (over_no a len cap zs _ (H.out.move HF.out) HFEW.out).mono ?_
      rintro e w2 ⟨rfl, rfl⟩
      go_wp2_with fail
      go_ret
      exact ⟨rfl, HF.out.below⟩
  · have HFEW := Lib.hid hf
    clear hc hf
    go_enter Try.func5, Try.ntmps5
    go_wp2_with fail
    refine (works_any _).mono ?_
    rintro e w1 ⟨rfl, F1⟩
    have HF := Lib.hid F1
    clear F1
    go_wp2_with fail
    refine (over_yes a len cap zs _ (H.out.move HF.out) HFEW.out).mono ?_
    rintro e w2 ⟨rfl, rfl⟩
    go_wp2_with fail
    go_ret
    exact ⟨rfl, HF.out.below⟩

set_option maxRecDepth 100000 in
set_option maxHeartbeats 4000000 in
theorem nothing_many (a : Option Addr) (len cap : Nat) (zs : List ByteArray) (s t : ByteArray) (w : World) (h : StrsAt w a len zs) (hf : Few zs) (hs : s.size ≤ 40) (ht : t.size ≤ 40) (hm : 3000 < Rx.sizes (parsedM zs)) :
    Calls Try.prog 5 #[.slice a len cap, .string s, .string t] w fun e w' => e = .returned (.bool true) ∧ Below w.heap.size w w' := by
  have H := Lib.hid h
  have HFEW := Lib.hid hf
  have HM := Lib.hid hm
  have h1' : (s.size : Int) ≤ 40 := by omega
  have h2' : (t.size : Int) ≤ 40 := by omega
  have HS4 := Lib.hid (parsedM_sizes zs hf.1)
  clear h hf hm
  go_enter Try.func5, Try.ntmps5
  go_wp2_with fail
  refine (works_any _).mono ?_
  rintro e w1 ⟨rfl, F1⟩
  have HF := Lib.hid F1
  clear F1
  go_wp2_with fail
  refine (over_no a len cap zs _ (H.out.move HF.out) HFEW.out).mono ?_
  rintro e w2 ⟨rfl, rfl⟩
  go_wp2_with fail
  refine (parsed_any a len cap zs _ (H.out.move HF.out) HFEW.out).mono ?_
  rintro e w3 ⟨a', cap', rfl, hc', hl', F3⟩
  have HL := Lib.hid hl'
  have HF3 := Lib.hid (HF.out.tr F3)
  clear hl' F3
  obtain ⟨N, hN⟩ : ∃ N : Nat, (parsedM zs).length = N := ⟨_, rfl⟩
  rw [hN] at hc' ⊢
  have HN := Lib.hid hN
  clear hN
  go_wp2_with fail
  refine (build_no (parsedM zs) a' N cap' _ _ HN.out (by have := HS4.out; omega) HL.out (.inr HM.out)).mono ?_
  rintro e w4 ⟨rfl, F4⟩
  have HF4 := Lib.hid (HF3.out.tr F4)
  clear F4
  go_wp2_with fail
  go_ret
  exact ⟨rfl, HF4.out.below⟩

set_option maxRecDepth 100000 in
set_option maxHeartbeats 8000000 in
theorem nothing_runs (a : Option Addr) (len cap : Nat) (zs : List ByteArray) (s t : ByteArray) (w : World) (h : StrsAt w a len zs) (hf : Few zs) (hs : s.size ≤ 40) (ht : t.size ≤ 40) (hm : Rx.sizes (parsedM zs) ≤ 3000) :
    Calls Try.prog 5 #[.slice a len cap, .string s, .string t] w fun e w' => e = .returned (.bool true) ∧ Below w.heap.size w w' := by
  have H := Lib.hid h
  have HFEW := Lib.hid hf
  have HM := Lib.hid hm
  have h1' : (s.size : Int) ≤ 40 := by omega
  have h2' : (t.size : Int) ≤ 40 := by omega
  have HFIT := Lib.hid (fit_build (parsedM zs) hm)
  have HLE := Lib.hid (show (parsedM zs).length ≤ 8 by have := parsedM_length zs; have := hf.1; omega)
  have HST := Lib.hid (show (buildM (parsedM zs) 0 [] []).2.length ≤ 1000 by
    have h1 := (buildM_facts (parsedM zs) 0 [] []).2.1
    have := HLE.out
    simp only [List.length_nil, Nat.zero_add] at h1
    omega)
  clear h hf hm
  go_enter Try.func5, Try.ntmps5
  go_wp2_with fail
  refine (works_any _).mono ?_
  rintro e w1 ⟨rfl, F1⟩
  have HF := Lib.hid F1
  clear F1
  go_wp2_with fail
  refine (over_no a len cap zs _ (H.out.move HF.out) HFEW.out).mono ?_
  rintro e w2 ⟨rfl, rfl⟩
  go_wp2_with fail
  refine (parsed_any a len cap zs _ (H.out.move HF.out) HFEW.out).mono ?_
  rintro e w3 ⟨a', cap', rfl, hc', hl', F3⟩
  have HL := Lib.hid hl'
  have HF3 := Lib.hid (HF.out.tr F3)
  clear hl' F3
  obtain ⟨N, hN⟩ : ∃ N : Nat, (parsedM zs).length = N := ⟨_, rfl⟩
  rw [hN] at hc' ⊢
  have HN := Lib.hid hN
  clear hN
  go_wp2_with fail
  refine (build_val (parsedM zs) a' N cap' _ _ HN.out HL.out (by have := HLE.out; omega) HM.out).mono ?_
  rintro e w4 ⟨dm, rfl, hmg, F4⟩
  have MG := Lib.hid hmg
  have HF4 := Lib.hid (HF3.out.tr F4)
  clear F4 hmg
  generalize (buildM (parsedM zs) 0 [] []).1 = G at *
  generalize (buildM (parsedM zs) 0 [] []).2 = ST at *
  go_wp2_with fail
  refine (begin_val dm _ G ST MG.out HFIT.out HST.out).mono ?_
  rintro e w5 ⟨v5, rfl, h5, F5⟩
  have I5 := Lib.hid h5
  have M5 := Lib.hid (MG.out.move F5)
  have HF5 := Lib.hid (HF4.out.tr F5)
  clear F5 h5
  go_wp2_with fail
  go_loopw [10, 11] (fun x10 x11 wr => ∃ i : Nat, i ≤ s.size ∧ x11 = .int .i64 i ∧ Aside (IntsAt wr x10 (ints (atM G ST ((bytesN s).take i)))) ∧ Aside (Fr none_ w wr) ∧ Aside (MachG dm wr G ST)) (fun _ x11 _ => s.size - (intOf x11).toNat)
  case atStart => exact ⟨0, Nat.zero_le _, rfl, I5.out, HF5.out, M5.out⟩
  case round =>
    obtain ⟨i, hi', rfl, hi10, hfr, hmr⟩ := hrel
    have I := Lib.hid hi10.out
    have HFr := Lib.hid hfr.out
    have M := Lib.hid hmr.out
    clear hi10 hfr hmr I5 M5 MG HF5 HF4
    have HAL := Lib.hid (show (ints (atM G ST ((bytesN s).take i))).length ≤ 1000000 by
      rw [ints_length]
      have := atM_length G ST ((bytesN s).take i)
      have := HFIT.out.len
      omega)
    by_cases hlt : i < s.size
    · have hil : (i : Int) < (s.size : Int) := by omega
      have HT := Lib.hid (show atM G ST ((bytesN s).take (i + 1)) = stepM G (ints (atM G ST ((bytesN s).take i))) (byteAt s i) by
        rw [bytesN_take s i hlt]; simp [atM])
      have hbl := byteAt_lt s i
      have HBE := Lib.hid (byteAt_eq s i hlt)
      go_wp2_with fail
      rw [HBE.out]
      refine (step_val dm _ G ST _ _ (byteAt s i) M.out HFIT.out I.out HAL.out hbl).mono ?_
      rintro e w6 ⟨v6, rfl, h6, F6⟩
      have I6 := Lib.hid h6
      have M6 := Lib.hid (M.out.move F6)
      have HF6 := Lib.hid (HFr.out.tr F6)
      clear h6 F6
      go_wp2_with fail
      go_roundw
      case rel => exact ⟨i + 1, by omega, by go_num, by rw [HT.out]; exact I6.out, HF6.out, M6.out⟩
      case measure => simp [intOf]; omega
    · obtain rfl : i = s.size := by omega
      have htk : (bytesN s).take s.size = bytesN s := List.take_of_length_le (by rw [bytesN_length]; exact Nat.le_refl _)
      rw [htk] at I HAL
      obtain ⟨xa, xc, rfl, hxc⟩ := I.out.slice
      rw [ints_length]
      rw [ints_length] at hxc
      by_cases h0 : atM G ST (bytesN s) = []
      · have HR1 := Lib.hid (run_nowhere G ST _ h0)
        have HR2 := Lib.hid (run_nowhere G ST _ (at_nowhere G ST (bytesN s) (bytesN t) h0))
        rw [← bytesN_append] at HR2
        rw [h0] at hxc ⊢
        simp only [List.length_nil] at hxc ⊢
        have hst : (s ++ t).size = s.size + t.size := by simp
        have HSZ := Lib.hid (show (s ++ t).size ≤ 100000 by omega)
        clear h0 hst
        go_wp2_with fail
        refine (run_val dm _ G ST (s ++ t) 0 M.out HFIT.out HST.out HSZ.out HR2.out).mono ?_
        rintro e w7 ⟨rfl, F7⟩
        have M7 := Lib.hid (M.out.move F7)
        have HF7 := Lib.hid (HFr.out.tr F7)
        clear F7
        go_wp2_with fail
        refine (run_val dm _ G ST s 0 M7.out HFIT.out HST.out (by omega) HR1.out).mono ?_
        rintro e w8 ⟨rfl, F8⟩
        have HF8 := Lib.hid (HF7.out.tr F8)
        clear F8
        go_wp2_with fail
        go_ret
        exact ⟨rfl, HF8.out.below⟩
      · have hpos : 0 < (atM G ST (bytesN s)).length := List.length_pos_iff.2 h0
        obtain ⟨L, hL⟩ : ∃ L : Nat, (atM G ST (bytesN s)).length = L := ⟨_, rfl⟩
        rw [hL] at hpos hxc ⊢
        have hpos' : (0 : Int) < (L : Int) := by omega
        clear h0 hL
        go_wp2_with fail
        go_ret
        exact ⟨rfl, HFr.out.below⟩

theorem nfaNothing_any (a : Option Addr) (len cap : Nat) (zs : List ByteArray) (s t : ByteArray) (w : World) (h : StrsAt w a len zs) (hs : s.size ≤ 140737488351232) (ht : t.size ≤ 140737488351232) :
    Calls Try.prog 5 #[.slice a len cap, .string s, .string t] w fun e w' => e = .returned (.bool true) ∧ Below w.heap.size w w' := by
  by_cases hc : ¬ Few zs ∨ 40 < s.size ∨ 40 < t.size
  · exact nothing_skip a len cap zs s t w h hs ht hc
  · have hf : Few zs := Classical.byContradiction fun hn => hc (.inl hn)
    by_cases hm : 3000 < Rx.sizes (parsedM zs)
    · exact nothing_many a len cap zs s t w h hf (by omega) (by omega) hm
    · exact nothing_runs a len cap zs s t w h hf (by omega) (by omega) (by omega)
end Go.Proofs.Ytgpmbkgedhcbjaa
