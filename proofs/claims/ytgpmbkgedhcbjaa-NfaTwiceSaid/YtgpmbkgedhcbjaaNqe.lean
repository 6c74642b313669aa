/-
  The law NfaTwice: a regex that is there twice is matched twice; put in another order each is matched where it is.
-/
import Derived.Test.YtgpmbkgedhcbjaaNqd
namespace Go.Proofs.Ytgpmbkgedhcbjaa
open Go.RowKit

set_option maxRecDepth 100000 in
theorem bhas_val (s : Nat) (n : Int) (w : World) (hs : s < 18446744073709551616) :
    Calls Try.prog 25 #[.int .u64 s, .int .i64 n] w fun e w' => e = .returned (.bool (decide (0 ≤ n) && s.testBit n.toNat)) ∧ w = w' := by
  have HO := Lib.hid (and_bit_ne s n hs)
  go_enter Try.func25, Try.ntmps25
  go_wp2_with fail
  refine (bit_any _ _).mono ?_
  rintro e w' ⟨rfl, rfl⟩
  go_wp2_with fail
  go_ret
  exact ⟨by rw [HO.out]; rfl, rfl⟩

theorem sizes_append (a b : List Rx) : Rx.sizes (a ++ b) = Rx.sizes a + Rx.sizes b := by
  induction a with
  | nil => simp [Rx.sizes]
  | cons x a ih => simp [Rx.sizes, ih]; omega
theorem sizes_reverse (a : List Rx) : Rx.sizes a.reverse = Rx.sizes a := by
  induction a with
  | nil => rfl
  | cons x a ih => rw [List.reverse_cons, sizes_append, ih]; simp [Rx.sizes]; omega
theorem runM_lt (l : List St) (starts : List Nat) (bs : List Nat) : runM l starts bs < 18446744073709551616 := tagsM_lt _ _
/-- Turned round, each is matched where it is. -/
theorem run_turned (rs : List Rx) (h : rs.length ≤ 60) (bs : List Nat) (i : Nat) (hi : i < rs.length) :
    (runM (buildM rs 0 [] []).1 (buildM rs 0 [] []).2 bs).testBit i = (runM (buildM rs.reverse 0 [] []).1 (buildM rs.reverse 0 [] []).2 bs).testBit (rs.length - 1 - i) := by
  rw [Bool.eq_iff_iff, run_lang rs (by omega), run_lang rs.reverse (by simp; omega)]
  have : rs.reverse[rs.length - 1 - i]? = rs[i]? := by
    rw [List.getElem?_reverse (by omega)]
    congr 1
    omega
  rw [this]

set_option maxRecDepth 100000 in
set_option maxHeartbeats 4000000 in
theorem twice_skip (a : Option Addr) (len cap : Nat) (zs : List ByteArray) (s : ByteArray) (w : World) (h : StrsAt w a len zs) (hs : s.size ≤ 140737488351232)
    (hc : ¬ Few zs ∨ 40 < s.size) :
    Calls Try.prog 6 #[.slice a len cap, .string s] w fun e w' => e = .returned (.bool true) ∧ Below w.heap.size w w' := by
  have H := Lib.hid h
  clear h
  by_cases hf : Few zs
  · have HFEW := Lib.hid hf
    have h1 : 40 < s.size := by
      rcases hc with h | h
      · exact absurd hf h
      · exact h
    have h1' : (40 : Int) < (s.size : Int) := by omega
    clear hc hf
    go_enter Try.func6, Try.ntmps6
    go_wp2_with fail
    refine (works_any _).mono ?_
    rintro e w1 ⟨rfl, F1⟩
    have HF := Lib.hid F1
    clear F1
    go_wp2_with fail
    refine (over_no a len cap zs _ (H.out.move HF.out) HFEW.out).mono ?_
    rintro e w2 ⟨rfl, rfl⟩
    go_wp2_with fail
    go_ret
    exact ⟨rfl, HF.out.below⟩
  · have HFEW := Lib.hid hf
    clear hc hf
    go_enter Try.func6, Try.ntmps6
    go_wp2_with fail
    refine (works_any _).mono ?_
    rintro e w1 ⟨rfl, F1⟩
    have HF := Lib.hid F1
    clear F1
    go_wp2_with fail
    refine (over_yes a len cap zs _ (H.out.move HF.out) HFEW.out).mono ?_
    rintro e w2 ⟨rfl, rfl⟩
    go_wp2_with fail
    go_ret
    exact ⟨rfl, HF.out.below⟩

set_option maxRecDepth 100000 in
set_option maxHeartbeats 4000000 in
theorem twice_many (a : Option Addr) (len cap : Nat) (zs : List ByteArray) (s : ByteArray) (w : World) (h : StrsAt w a len zs) (hf : Few zs) (hs : s.size ≤ 40) (hm : 3000 < Rx.sizes (parsedM zs)) :
    Calls Try.prog 6 #[.slice a len cap, .string s] w fun e w' => e = .returned (.bool true) ∧ Below w.heap.size w w' := by
  obtain ⟨i0, hi, hz0, hz1, hz2⟩ := info_parts rx_info
  have H := Lib.hid h
  have HFEW := Lib.hid hf
  have h1' : (s.size : Int) ≤ 40 := by omega
  have HS4 := parsedM_sizes zs hf.1
  have hle : (parsedM zs).length ≤ 8 := by have := parsedM_length zs; have := hf.1; omega
  clear h hf
  go_enter Try.func6, Try.ntmps6
  go_wp2_with fail
  refine (works_any _).mono ?_
  rintro e w1 ⟨rfl, F1⟩
  have HF := Lib.hid F1
  clear F1
  go_wp2_with fail
  refine (over_no a len cap zs _ (H.out.move HF.out) HFEW.out).mono ?_
  rintro e w2 ⟨rfl, rfl⟩
  go_wp2_with fail
  refine (parsed_any a len cap zs _ (H.out.move HF.out) HFEW.out).mono ?_
  rintro e w3 ⟨a', cap', rfl, hc', hl', F3⟩
  have HL := Lib.hid hl'
  have HF3 := Lib.hid (HF.out.tr F3)
  clear hl' F3
  generalize parsedM zs = rs at *
  obtain ⟨N, hN⟩ : ∃ N : Nat, rs.length = N := ⟨_, rfl⟩
  rw [hN] at hc' hle ⊢
  have HN := Lib.hid hN
  clear hN
  obtain ⟨Z, hZ⟩ : ∃ Z : Nat, Rx.sizes rs = Z := ⟨_, rfl⟩
  rw [hZ] at HS4 hm
  have HZ := Lib.hid hZ
  clear hZ
  go_wp2_with fail
  obtain ⟨r0, hr0⟩ : ∃ x : World, x = w3 := ⟨_, rfl⟩
  clear hr0
  go_loopw [7, 8] (fun x7 x8 wr => ∃ i : Nat, i ≤ N ∧ x8 = .int .i64 ((N : Int) - 1 - i) ∧ Aside (RxOwn w3.heap.size (fun k => k < w3.heap.size) wr x7 ((rs.drop (N - i)).reverse)) ∧ Aside (Fr none_ w3 wr)) (fun _ x8 _ => (intOf x8 + 1).toNat)
  case atStart => exact ⟨0, Nat.zero_le _, by first | rfl | (simp; done) | go_num, by
    have : rs.drop (N - 0) = [] := List.drop_of_length_le (by rw [HN.out]; omega)
    rw [this]; exact RxOwn.nil _ _ _, Fr.refl _ _⟩
  case round =>
    obtain ⟨i, hi', rfl, hown', hfr'⟩ := hrel
    have HOWN := Lib.hid hown'.out
    have HFr := Lib.hid hfr'.out
    clear hown' hfr'
    have hsr := HFr.out.size
    by_cases hlt : i < N
    · obtain ⟨j, hj⟩ : ∃ j : Nat, (N : Int) - 1 - i = j := ⟨N - 1 - i, by omega⟩
      have hjN : j < N := by omega
      have hjN' : (j : Int) < (N : Int) := by omega
      have hjd : N - i = j + 1 := by omega
      obtain ⟨⟨k, b0, b1, b2, b3, kids⟩, hr⟩ : ∃ r, rs[j]? = some r := ⟨rs[j]'(by rw [HN.out]; exact hjN), List.getElem?_eq_getElem _⟩
      have HT := Lib.hid (show (rs.drop (N - (i + 1))).reverse = (rs.drop (N - i)).reverse ++ [.mk k b0 b1 b2 b3 kids] by
        have h1 : N - (i + 1) = j := by omega
        have h2 : rs.drop j = Rx.mk k b0 b1 b2 b3 kids :: rs.drop (j + 1) := by
          have hh := List.drop_eq_getElem_cons (l := rs) (i := j) (by rw [HN.out]; exact hjN)
          rw [hh]
          congr 1
          have := (List.getElem?_eq_some_iff.1 hr).2
          exact this
        rw [h1, hjd, h2, List.reverse_cons])
      have HLr := (RxL.mono (ok' := fun k => k < w3.heap.size) (fun k hk => hk.2) _ _ _ (RxL.bound _ _ _ HL.out))
      have HLr2 := RxL.move (w' := wr) (fun k hk hlt => HFr.out.block k hlt (fun h => h)) _ _ _ HLr
      obtain ⟨ad, ka, kcap, rfl, hok, c0, c1, c2, c3, c4, c5, hkc, hkl⟩ := HLr2.elem hr
      have hrl : ((rs.drop (N - i)).reverse).length = i := by rw [List.length_reverse, List.length_drop, HN.out]; omega
      obtain ⟨cells, hrow, hels⟩ := HOWN.out
      have HUB := Lib.hid (show ∀ j, u7.ownBlock = some j → w3.heap.size ≤ j from fun j hj => (hrow.lt j hj).1)
      have HROW := Lib.hid hrow
      have HELS := Lib.hid hels
      rw [hrl] at HROW
      have HRL := Lib.hid hrl
      have HKL := Lib.hid hkl
      have hi8 : i ≤ 8 := by omega
      clear hrow hels hrl hkl HLr HLr2 hr
      rw [hj]
      have HJ := Lib.hid hj
      clear hj
      go_wp2_with (at_builtin; refine wpList_append_lies _ rfl (.tmp 36) (.tmp 41) 26 rfl w3.heap.size 28 i0 _ 6 64 Try.underlying26 hi hz0 hz1 hz2 rfl (by decide) _ i cells rfl (HROW.out.alloc _) ⟨wr.heap.size, 0, none⟩ 1 1 [.int .i64 k, .int .u64 b0, .int .u64 b1, .int .u64 b2, .int .u64 b3, .slice ka kids.length kcap] rfl rfl (getElem_block (alloc_new _ _)) ?c1 (by decide) ?c2 ?c3 ?c4 (wr.heap.size + 1) (by simp) ?_)
      case c1 => simp [Value.oneCell']
      case c2 => unfold maxLen; omega
      case c3 => omega
      case c4 => first | omega | (simp; omega)
      intro g gcap wn hownn hgrown hatn hltn
      have PU := RxOwn.push (B := w3.heap.size) (ok := fun k => k < w3.heap.size) (by rw [HRL.out]; exact HROW.out) HELS.out hkc (RxL.mono (fun j hj => ⟨hj, fun e => by have := HUB.out j e.symm; omega⟩) _ _ _ HKL.out) (by rw [HRL.out]; exact hownn) hgrown hatn
      rw [HRL.out] at PU
      have HP1 := Lib.hid PU.1
      have HP2 := Lib.hid (HFr.out.trans PU.2 (fun j hj hs => by omega))
      clear PU hownn hgrown hatn hltn c0 c1 c2 c3 c4 c5
      go_wp2_with fail
      go_roundw
      case rel =>
        refine ⟨i + 1, by omega, ?_, ?_, HP2.out⟩
        · have := HJ.out
          exact congrArg (Value.int .i64) (by omega)
        · rw [HT.out]
          exact HP1.out
      case measure => first | (simp [intOf]; done) | (simp [intOf]; omega)
    · obtain rfl : i = N := by omega
      have hneg : (i : Int) - 1 - i = -1 := by omega
      rw [hneg]
      have hdr : rs.drop (i - i) = rs := by rw [Nat.sub_self]; rfl
      rw [hdr] at HOWN
      have HLr := Lib.hid (RxL.move (w' := wr) (fun k hk hlt => HFr.out.block k hlt (fun h => h)) _ _ _ HL.out)
      have HFW := Lib.hid (HF3.out.tr HFr.out)
      clear hneg hdr
      have hm' : (3000 : Int) < (Z : Int) := by omega
      go_wp2_with fail
      refine (rsizes_val rs a' i cap' _ _ Z HN.out HZ.out (by omega) HLr.out).mono ?_
      rintro e w5 ⟨rfl, F5⟩
      have HF5 := Lib.hid (HFW.out.tr F5)
      clear F5
      go_wp2_with fail
      go_ret
      exact ⟨rfl, HF5.out.below⟩
set_option maxRecDepth 100000 in
set_option maxHeartbeats 8000000 in
theorem twice_runs (a : Option Addr) (len cap : Nat) (zs : List ByteArray) (s : ByteArray) (w : World) (h : StrsAt w a len zs) (hf : Few zs) (hs : s.size ≤ 40) (hm : Rx.sizes (parsedM zs) ≤ 3000) :
    Calls Try.prog 6 #[.slice a len cap, .string s] w fun e w' => e = .returned (.bool true) ∧ Below w.heap.size w w' := by
  obtain ⟨i0, hi, hz0, hz1, hz2⟩ := info_parts rx_info
  have H := Lib.hid h
  have HFEW := Lib.hid hf
  have h1' : (s.size : Int) ≤ 40 := by omega
  have HS4 := parsedM_sizes zs hf.1
  have hle : (parsedM zs).length ≤ 8 := by have := parsedM_length zs; have := hf.1; omega
  have HFIT := Lib.hid (fit_build (parsedM zs) hm)
  have HFIT2 := Lib.hid (fit_build (parsedM zs).reverse (by rw [sizes_reverse]; exact hm))
  have hst : ∀ l : List Rx, l.length ≤ 8 → (buildM l 0 [] []).2.length ≤ 1000 := fun l h => by
    have h1 := (buildM_facts l 0 [] []).2.1
    simp only [List.length_nil, Nat.zero_add] at h1
    omega
  have HST := Lib.hid (hst _ hle)
  have HST2 := Lib.hid (hst (parsedM zs).reverse (by simpa using hle))
  have HTU := Lib.hid (run_turned (parsedM zs) (by omega) (bytesN s))
  clear h hf hst
  go_enter Try.func6, Try.ntmps6
  go_wp2_with fail
  refine (works_any _).mono ?_
  rintro e w1 ⟨rfl, F1⟩
  have HF := Lib.hid F1
  clear F1
  go_wp2_with fail
  refine (over_no a len cap zs _ (H.out.move HF.out) HFEW.out).mono ?_
  rintro e w2 ⟨rfl, rfl⟩
  go_wp2_with fail
  refine (parsed_any a len cap zs _ (H.out.move HF.out) HFEW.out).mono ?_
  rintro e w3 ⟨a', cap', rfl, hc', hl', F3⟩
  have HL := Lib.hid hl'
  have HF3 := Lib.hid (HF.out.tr F3)
  clear hl' F3
  generalize parsedM zs = rs at *
  obtain ⟨N, hN⟩ : ∃ N : Nat, rs.length = N := ⟨_, rfl⟩
  rw [hN] at hc' hle ⊢
  have HN := Lib.hid hN
  clear hN
  obtain ⟨Z, hZ⟩ : ∃ Z : Nat, Rx.sizes rs = Z := ⟨_, rfl⟩
  rw [hZ] at HS4 hm
  have HZ := Lib.hid hZ
  clear hZ
  go_wp2_with fail
  obtain ⟨r0, hr0⟩ : ∃ x : World, x = w3 := ⟨_, rfl⟩
  clear hr0
  go_loopw [7, 8] (fun x7 x8 wr => ∃ i : Nat, i ≤ N ∧ x8 = .int .i64 ((N : Int) - 1 - i) ∧ Aside (RxOwn w3.heap.size (fun k => k < w3.heap.size) wr x7 ((rs.drop (N - i)).reverse)) ∧ Aside (Fr none_ w3 wr)) (fun _ x8 _ => (intOf x8 + 1).toNat)
  case atStart => exact ⟨0, Nat.zero_le _, by first | rfl | (simp; done) | go_num, by
    have : rs.drop (N - 0) = [] := List.drop_of_length_le (by rw [HN.out]; omega)
    rw [this]; exact RxOwn.nil _ _ _, Fr.refl _ _⟩
  case round =>
    obtain ⟨i, hi', rfl, hown', hfr'⟩ := hrel
    have HOWN := Lib.hid hown'.out
    have HFr := Lib.hid hfr'.out
    clear hown' hfr'
    have hsr := HFr.out.size
    by_cases hlt : i < N
    · obtain ⟨j, hj⟩ : ∃ j : Nat, (N : Int) - 1 - i = j := ⟨N - 1 - i, by omega⟩
      have hjN : j < N := by omega
      have hjN' : (j : Int) < (N : Int) := by omega
      have hjd : N - i = j + 1 := by omega
      obtain ⟨⟨k, b0, b1, b2, b3, kids⟩, hr⟩ : ∃ r, rs[j]? = some r := ⟨rs[j]'(by rw [HN.out]; exact hjN), List.getElem?_eq_getElem _⟩
      have HT := Lib.hid (show (rs.drop (N - (i + 1))).reverse = (rs.drop (N - i)).reverse ++ [.mk k b0 b1 b2 b3 kids] by
        have h1 : N - (i + 1) = j := by omega
        have h2 : rs.drop j = Rx.mk k b0 b1 b2 b3 kids :: rs.drop (j + 1) := by
          have hh := List.drop_eq_getElem_cons (l := rs) (i := j) (by rw [HN.out]; exact hjN)
          rw [hh]
          congr 1
          have := (List.getElem?_eq_some_iff.1 hr).2
          exact this
        rw [h1, hjd, h2, List.reverse_cons])
      have HLr := (RxL.mono (ok' := fun k => k < w3.heap.size) (fun k hk => hk.2) _ _ _ (RxL.bound _ _ _ HL.out))
      have HLr2 := RxL.move (w' := wr) (fun k hk hlt => HFr.out.block k hlt (fun h => h)) _ _ _ HLr
      obtain ⟨ad, ka, kcap, rfl, hok, c0, c1, c2, c3, c4, c5, hkc, hkl⟩ := HLr2.elem hr
      have hrl : ((rs.drop (N - i)).reverse).length = i := by rw [List.length_reverse, List.length_drop, HN.out]; omega
      obtain ⟨cells, hrow, hels⟩ := HOWN.out
      have HUB := Lib.hid (show ∀ j, u7.ownBlock = some j → w3.heap.size ≤ j from fun j hj => (hrow.lt j hj).1)
      have HROW := Lib.hid hrow
      have HELS := Lib.hid hels
      rw [hrl] at HROW
      have HRL := Lib.hid hrl
      have HKL := Lib.hid hkl
      have hi8 : i ≤ 8 := by omega
      clear hrow hels hrl hkl HLr HLr2 hr
      rw [hj]
      have HJ := Lib.hid hj
      clear hj
      go_wp2_with (at_builtin; refine wpList_append_lies _ rfl (.tmp 36) (.tmp 41) 26 rfl w3.heap.size 28 i0 _ 6 64 Try.underlying26 hi hz0 hz1 hz2 rfl (by decide) _ i cells rfl (HROW.out.alloc _) ⟨wr.heap.size, 0, none⟩ 1 1 [.int .i64 k, .int .u64 b0, .int .u64 b1, .int .u64 b2, .int .u64 b3, .slice ka kids.length kcap] rfl rfl (getElem_block (alloc_new _ _)) ?c1 (by decide) ?c2 ?c3 ?c4 (wr.heap.size + 1) (by simp) ?_)
      case c1 => simp [Value.oneCell']
      case c2 => unfold maxLen; omega
      case c3 => omega
      case c4 => first | omega | (simp; omega)
      intro g gcap wn hownn hgrown hatn hltn
      have PU := RxOwn.push (B := w3.heap.size) (ok := fun k => k < w3.heap.size) (by rw [HRL.out]; exact HROW.out) HELS.out hkc (RxL.mono (fun j hj => ⟨hj, fun e => by have := HUB.out j e.symm; omega⟩) _ _ _ HKL.out) (by rw [HRL.out]; exact hownn) hgrown hatn
      rw [HRL.out] at PU
      have HP1 := Lib.hid PU.1
      have HP2 := Lib.hid (HFr.out.trans PU.2 (fun j hj hs => by omega))
      clear PU hownn hgrown hatn hltn c0 c1 c2 c3 c4 c5
      go_wp2_with fail
      go_roundw
      case rel =>
        refine ⟨i + 1, by omega, ?_, ?_, HP2.out⟩
        · have := HJ.out
          exact congrArg (Value.int .i64) (by omega)
        · rw [HT.out]
          exact HP1.out
      case measure => first | (simp [intOf]; done) | (simp [intOf]; omega)
    · obtain rfl : i = N := by omega
      have hneg : (i : Int) - 1 - i = -1 := by omega
      rw [hneg]
      have hdr : rs.drop (i - i) = rs := by rw [Nat.sub_self]; rfl
      rw [hdr] at HOWN
      have HLr := Lib.hid (RxL.move (w' := wr) (fun k hk hlt => HFr.out.block k hlt (fun h => h)) _ _ _ HL.out)
      have HFW := Lib.hid (HF3.out.tr HFr.out)
      clear hneg hdr
      have hm' : (Z : Int) ≤ 3000 := by omega
      obtain ⟨ta, tcap, rfl, htc, htl⟩ := HOWN.out.rows
      have HRL := Lib.hid (show rs.reverse.length = i by rw [List.length_reverse]; exact HN.out)
      rw [HRL.out] at htc ⊢
      have HTL := Lib.hid htl
      clear htl HOWN
      go_wp2_with fail
      refine (rsizes_val rs a' i cap' _ _ Z HN.out HZ.out (by omega) HLr.out).mono ?_
      rintro e w5 ⟨rfl, F5⟩
      have HF5 := Lib.hid (HFW.out.tr F5)
      have HL5 := Lib.hid (RxL.move (fun k hk hlt => F5.block k hlt (fun h => h)) _ _ _ HLr.out)
      have HTL5 := Lib.hid (RxL.move (fun k hk hlt => F5.block k hlt (fun h => h)) _ _ _ HTL.out)
      clear F5
      go_wp2_with fail
      refine (build_val rs a' i cap' _ _ HN.out HL5.out (by rw [HN.out]; omega) (by rw [HZ.out]; exact hm)).mono ?_
      rintro e w6 ⟨dm, rfl, hmg, F6⟩
      have M6 := Lib.hid hmg
      have HF6 := Lib.hid (HF5.out.tr F6)
      have HTL6 := Lib.hid (RxL.move (fun k hk hlt => F6.block k hlt (fun h => h)) _ _ _ HTL5.out)
      clear F6 hmg
      go_wp2_with fail
      refine (build_val rs.reverse ta i tcap _ _ HRL.out HTL6.out (by rw [HRL.out]; omega) (by rw [sizes_reverse, HZ.out]; exact hm)).mono ?_
      rintro e w7 ⟨dm2, rfl, hmg2, F7⟩
      have M7 := Lib.hid (M6.out.move F7)
      have MM7 := Lib.hid hmg2
      have HF7 := Lib.hid (HF6.out.tr F7)
      clear F7 hmg2 M6
      generalize (buildM rs 0 [] []).1 = G at *
      generalize (buildM rs 0 [] []).2 = ST at *
      generalize (buildM rs.reverse 0 [] []).1 = G2 at *
      generalize (buildM rs.reverse 0 [] []).2 = ST2 at *
      have HX := Lib.hid (show ∃ x : Nat, runM G ST (bytesN s) = x ∧ x < 18446744073709551616 from ⟨_, rfl, runM_lt _ _ _⟩)
      have HY := Lib.hid (show ∃ x : Nat, runM G2 ST2 (bytesN s) = x ∧ x < 18446744073709551616 from ⟨_, rfl, runM_lt _ _ _⟩)
      obtain ⟨x, hx, hxl⟩ := HX.out
      obtain ⟨y, hy, hyl⟩ := HY.out
      rw [hx, hy, HN.out] at HTU
      have HX1 := Lib.hid hx
      have HY1 := Lib.hid hy
      clear hx hy HX HY
      go_wp2_with fail
      refine (run_val dm _ G ST s x M7.out HFIT.out HST.out (by omega) HX1.out).mono ?_
      rintro e w8 ⟨rfl, F8⟩
      have MM8 := Lib.hid (MM7.out.move F8)
      have HF8 := Lib.hid (HF7.out.tr F8)
      clear F8 MM7 M7
      go_wp2_with fail
      refine (run_val dm2 _ G2 ST2 s y MM8.out HFIT2.out HST2.out (by omega) HY1.out).mono ?_
      rintro e w9 ⟨rfl, F9⟩
      have HF9 := Lib.hid (HF8.out.tr F9)
      clear F9 MM8
      go_wp2_with fail
      go_loopw [15] (fun x15 wr => ∃ q : Nat, q ≤ i ∧ x15 = .int .i64 q ∧ Aside (Fr none_ w9 wr)) (fun x15 _ => i - (intOf x15).toNat)
      case atStart => exact ⟨0, Nat.zero_le _, rfl, Fr.refl _ _⟩
      case round =>
        obtain ⟨q, hq, rfl, hfq⟩ := hrel
        have HQ := Lib.hid hfq.out
        clear hfq
        by_cases hqi : q < i
        · have hqi' : (q : Int) < (i : Int) := by omega
          obtain ⟨p, hp⟩ : ∃ p : Nat, (i : Int) - 1 - q = p := ⟨i - 1 - q, by omega⟩
          have HPP := Lib.hid hp
          have hpp : i - 1 - q = p := by omega
          obtain ⟨B, hB⟩ : ∃ B : Bool, y.testBit p = B := ⟨_, rfl⟩
          have HB1 := Lib.hid (show (decide ((0 : Int) ≤ (q : Int)) && x.testBit (q : Int).toNat) = B by
            simp only [Int.natCast_nonneg, decide_true, Bool.true_and, Int.toNat_natCast]
            rw [HTU.out q hqi, hpp, hB])
          have HB2 := Lib.hid (show (decide ((0 : Int) ≤ (p : Int)) && y.testBit (p : Int).toNat) = B by
            simp only [Int.natCast_nonneg, decide_true, Bool.true_and, Int.toNat_natCast]
            exact hB)
          clear hp hpp hB
          go_wp2_with fail
          refine (bhas_val x q _ hxl).mono ?_
          rintro e wx ⟨rfl, rfl⟩
          rw [HB1.out]
          go_wp2_with fail
          rw [HPP.out]
          refine (bhas_val y p _ hyl).mono ?_
          rintro e wx ⟨rfl, rfl⟩
          rw [HB2.out]
          go_wp2_with fail
          go_roundw
          case rel => exact ⟨q + 1, by omega, by go_num, HQ.out⟩
          case measure => simp [intOf]; omega
        · obtain rfl : q = i := by omega
          go_wp2_with fail
          go_ret
          exact ⟨rfl, (HF9.out.tr HQ.out).below⟩

theorem nfaTwice_any (a : Option Addr) (len cap : Nat) (zs : List ByteArray) (s : ByteArray) (w : World) (h : StrsAt w a len zs) (hs : s.size ≤ 140737488351232) :
    Calls Try.prog 6 #[.slice a len cap, .string s] w fun e w' => e = .returned (.bool true) ∧ Below w.heap.size w w' := by
  by_cases hc : ¬ Few zs ∨ 40 < s.size
  · exact twice_skip a len cap zs s w h hs hc
  · have hf : Few zs := Classical.byContradiction fun hn => hc (.inl hn)
    by_cases hm : 3000 < Rx.sizes (parsedM zs)
    · exact twice_many a len cap zs s w h hf (by omega) hm
    · exact twice_runs a len cap zs s w h hf (by omega) (by omega)
end Go.Proofs.Ytgpmbkgedhcbjaa
