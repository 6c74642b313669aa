/-
  The law NfaSteps: the walk.
-/
import Derived.Test.YtgpmbkgedhcbjaaNqc
namespace Go.Proofs.Ytgpmbkgedhcbjaa
open Go.RowKit

set_option maxRecDepth 100000 in
set_option maxHeartbeats 4000000 in
theorem steps_skip (a : Option Addr) (len cap : Nat) (zs : List ByteArray) (s : ByteArray) (oa : Option Addr) (olen ocap : Nat) (os : List Int) (w : World) (h : StrsAt w a len zs) (ho : IntsIn w oa olen os) (hs : s.size ≤ 140737488351232)
    (hc : ¬ Few zs ∨ 40 < s.size ∨ 40 < olen) :
    Calls Try.prog 4 #[.slice a len cap, .string s, .slice oa olen ocap] w fun e w' => e = .returned (.bool true) ∧ Below w.heap.size w w' := by
  have hom : olen ≤ 9223372036854775807 := by have := ho.max; unfold maxLen at this; omega
  have H := Lib.hid h
  clear h ho
  by_cases hf : Few zs
  · have HFEW := Lib.hid hf
    have hc' : 40 < s.size ∨ 40 < olen := by
      rcases hc with h | h
      · exact absurd hf h
      · exact h
    clear hc hf
    by_cases h1 : 40 < s.size
    · have h1' : (40 : Int) < (s.size : Int) := by omega
      clear hc'
      go_enter Try.func4, Try.ntmps4
      go_wp2_with fail
      refine (works_any _).mono ?_
      rintro e w1 ⟨rfl, F1⟩
      have HF := Lib.hid F1
      clear F1
      go_wp2_with fail
      refine (over_no a len cap zs _ (H.out.move HF.out) HFEW.out).mono ?_
      rintro e w2 ⟨rfl, rfl⟩
      go_wp2_with fail
      go_ret
      exact ⟨rfl, HF.out.below⟩
    · have h1' : (s.size : Int) ≤ 40 := by omega
      have h2' : (40 : Int) < (olen : Int) := by omega
      clear hc' h1
      go_enter Try.func4, Try.ntmps4
      go_wp2_with fail
      refine (works_any _).mono ?_
      rintro e w1 ⟨rfl, F1⟩
      have HF := Lib.hid F1
      clear F1
      go_wp2_with fail
      refine (over_no a len cap zs _ (H.out.move HF.out) HFEW.out).mono ?_
      rintro e w2 ⟨rfl, rfl⟩
      go_wp2_with fail
      go_ret
      exact ⟨rfl, HF.out.below⟩
  · have HFEW := Lib.hid hf
    clear hc hf
    go_enter Try.func4, Try.ntmps4
    go_wp2_with fail
    refine (works_any _).mono ?_
    rintro e w1 ⟨rfl, F1⟩
    have HF := Lib.hid F1
    clear F1
    go_wp2_with fail
    refine (over_yes a len cap zs _ (H.out.move HF.out) HFEW.out).mono ?_
    rintro e w2 ⟨rfl, rfl⟩
    go_wp2_with fail
    go_ret
    exact ⟨rfl, HF.out.below⟩

set_option maxRecDepth 100000 in
set_option maxHeartbeats 4000000 in
theorem steps_many (a : Option Addr) (len cap : Nat) (zs : List ByteArray) (s : ByteArray) (oa : Option Addr) (olen ocap : Nat) (os : List Int) (w : World) (h : StrsAt w a len zs) (ho : IntsIn w oa olen os) (hf : Few zs) (hs : s.size ≤ 40) (hol : olen ≤ 40) (hm : 3000 < Rx.sizes (parsedM zs)) :
    Calls Try.prog 4 #[.slice a len cap, .string s, .slice oa olen ocap] w fun e w' => e = .returned (.bool true) ∧ Below w.heap.size w w' := by
  have H := Lib.hid h
  have HODD := Lib.hid ho
  have HFEW := Lib.hid hf
  have h1' : (s.size : Int) ≤ 40 := by omega
  have h2' : (olen : Int) ≤ 40 := by omega
  have HS4 := parsedM_sizes zs hf.1
  have HLE := Lib.hid (show (parsedM zs).length ≤ 8 by have := parsedM_length zs; have := hf.1; omega)
  clear h ho hf
  go_enter Try.func4, Try.ntmps4
  go_wp2_with fail
  refine (works_any _).mono ?_
  rintro e w1 ⟨rfl, F1⟩
  have HF := Lib.hid F1
  clear F1
  go_wp2_with fail
  refine (over_no a len cap zs _ (H.out.move HF.out) HFEW.out).mono ?_
  rintro e w2 ⟨rfl, rfl⟩
  go_wp2_with fail
  refine (parsed_any a len cap zs _ (H.out.move HF.out) HFEW.out).mono ?_
  rintro e w3 ⟨a', cap', rfl, hc', hl', F3⟩
  have HL := Lib.hid hl'
  have HF3 := Lib.hid (HF.out.tr F3)
  clear hl' F3
  obtain ⟨N, hN⟩ : ∃ N : Nat, (parsedM zs).length = N := ⟨_, rfl⟩
  rw [hN] at hc' ⊢
  have HN := Lib.hid hN
  clear hN
  obtain ⟨Z, hZ⟩ : ∃ Z : Nat, Rx.sizes (parsedM zs) = Z := ⟨_, rfl⟩
  rw [hZ] at HS4 hm
  have HZ := Lib.hid hZ
  clear hZ
  go_wp2_with fail
  refine (build_no (parsedM zs) a' N cap' _ _ HN.out (by rw [HZ.out]; omega) HL.out (.inr (by rw [HZ.out]; exact hm))).mono ?_
  rintro e w4 ⟨rfl, F4⟩
  have HF4 := Lib.hid (HF3.out.tr F4)
  have HL4 := Lib.hid (RxL.move (fun j _ hlt => F4.block j hlt (fun h => h)) _ _ _ HL.out)
  clear F4
  have hm' : (3000 : Int) < (Z : Int) := by omega
  go_wp2_with fail
  refine (rsizes_val (parsedM zs) a' N cap' _ _ Z HN.out HZ.out (by omega) HL4.out).mono ?_
  rintro e w5 ⟨rfl, F5⟩
  have HF5 := Lib.hid (HF4.out.tr F5)
  clear F5
  go_wp2_with fail
  go_ret
  exact ⟨rfl, HF5.out.below⟩

set_option maxRecDepth 100000 in
set_option maxHeartbeats 8000000 in
theorem steps_runs (a : Option Addr) (len cap : Nat) (zs : List ByteArray) (s : ByteArray) (oa : Option Addr) (olen ocap : Nat) (os : List Int) (w : World) (h : StrsAt w a len zs) (ho : IntsIn w oa olen os) (hf : Few zs) (hs : s.size ≤ 40) (hol : olen ≤ 40) (hm : Rx.sizes (parsedM zs) ≤ 3000) :
    Calls Try.prog 4 #[.slice a len cap, .string s, .slice oa olen ocap] w fun e w' => e = .returned (.bool true) ∧ Below w.heap.size w w' := by
  obtain ⟨i0, hi, hz0, hz1, hz2⟩ := info_parts int_info
  have H := Lib.hid h
  have HODD := Lib.hid ho
  have HFEW := Lib.hid hf
  have h1' : (s.size : Int) ≤ 40 := by omega
  have h2' : (olen : Int) ≤ 40 := by omega
  have HS4 := parsedM_sizes zs hf.1
  have HLE := Lib.hid (show (parsedM zs).length ≤ 8 by have := parsedM_length zs; have := hf.1; omega)
  have HFIT := Lib.hid (fit_build (parsedM zs) hm)
  have HST := Lib.hid (show (buildM (parsedM zs) 0 [] []).2.length ≤ 1000 by
    have h1 := (buildM_facts (parsedM zs) 0 [] []).2.1
    have := HLE.out
    simp only [List.length_nil, Nat.zero_add] at h1
    omega)
  clear h ho hf
  go_enter Try.func4, Try.ntmps4
  go_wp2_with fail
  refine (works_any _).mono ?_
  rintro e w1 ⟨rfl, F1⟩
  have HF := Lib.hid F1
  clear F1
  go_wp2_with fail
  refine (over_no a len cap zs _ (H.out.move HF.out) HFEW.out).mono ?_
  rintro e w2 ⟨rfl, rfl⟩
  go_wp2_with fail
  refine (parsed_any a len cap zs _ (H.out.move HF.out) HFEW.out).mono ?_
  rintro e w3 ⟨a', cap', rfl, hc', hl', F3⟩
  have HL := Lib.hid hl'
  have HF3 := Lib.hid (HF.out.tr F3)
  clear hl' F3
  obtain ⟨N, hN⟩ : ∃ N : Nat, (parsedM zs).length = N := ⟨_, rfl⟩
  rw [hN] at hc' ⊢
  have HN := Lib.hid hN
  clear hN
  obtain ⟨Z, hZ⟩ : ∃ Z : Nat, Rx.sizes (parsedM zs) = Z := ⟨_, rfl⟩
  rw [hZ] at HS4 hm
  have HZ := Lib.hid hZ
  clear hZ
  go_wp2_with fail
  refine (build_val (parsedM zs) a' N cap' _ _ HN.out HL.out (by have := HLE.out; omega) (by rw [HZ.out]; exact hm)).mono ?_
  rintro e w4 ⟨dm, rfl, hmg, F4⟩
  have MG := Lib.hid hmg
  have HF4 := Lib.hid (HF3.out.tr F4)
  have HL4 := Lib.hid (RxL.move (fun j _ hlt => F4.block j hlt (fun h => h)) _ _ _ HL.out)
  clear F4 hmg
  generalize (buildM (parsedM zs) 0 [] []).1 = G at *
  generalize (buildM (parsedM zs) 0 [] []).2 = ST at *
  have hm' : (Z : Int) ≤ 3000 := by omega
  go_wp2_with fail
  refine (rsizes_val (parsedM zs) a' N cap' _ _ Z HN.out HZ.out (by omega) HL4.out).mono ?_
  rintro e w5 ⟨rfl, F5⟩
  have M5 := Lib.hid (MG.out.move F5)
  have HF5 := Lib.hid (HF4.out.tr F5)
  clear F5
  go_wp2_with fail
  refine (begin_val dm _ G ST M5.out HFIT.out HST.out).mono ?_
  rintro e w6 ⟨v6, rfl, h6, F6⟩
  have I6 := Lib.hid h6
  have M6 := Lib.hid (M5.out.move F6)
  have HF6 := Lib.hid (HF5.out.tr F6)
  clear F6 h6
  go_wp2_with fail
  go_loopw [11, 12] (fun x11 x12 wr => ∃ i : Nat, i ≤ s.size ∧ x12 = .int .i64 i ∧ Aside (IntsAt wr x11 (ints (atM G ST ((bytesN s).take i)))) ∧ Aside (Fr none_ w wr) ∧ Aside (MachG dm wr G ST)) (fun _ x12 _ => s.size - (intOf x12).toNat)
  case atStart => exact ⟨0, Nat.zero_le _, rfl, I6.out, HF6.out, M6.out⟩
  case round =>
    obtain ⟨i, hi', rfl, hi11, hfr, hmr⟩ := hrel
    have I := Lib.hid hi11.out
    have HFr := Lib.hid hfr.out
    have M := Lib.hid hmr.out
    clear hi11 hfr hmr I6 M6 MG HF6 HF5 M5 HF4 HL4 HF3 HL HF
    have HAL := Lib.hid (show (ints (atM G ST ((bytesN s).take i))).length ≤ 100000 by
      rw [ints_length]
      have := atM_length G ST ((bytesN s).take i)
      have := HFIT.out.len
      omega)
    by_cases hlt : i < s.size
    · have hil : (i : Int) < (s.size : Int) := by omega
      have HT := Lib.hid (show atM G ST ((bytesN s).take (i + 1)) = stepM G (ints (atM G ST ((bytesN s).take i))) (byteAt s i) by
        rw [bytesN_take s i hlt]; simp [atM])
      have hbl := byteAt_lt s i
      have HBE := Lib.hid (byteAt_eq s i hlt)
      have HR := Lib.hid (show runM G ST (bytesN (s.extract 0 i)) = tagsM G (ints (atM G ST ((bytesN s).take i))) by
        rw [bytesN_extract s i hi']; rfl)
      have HXS := Lib.hid (show (s.extract 0 i).size ≤ 100000 by simp; omega)
      obtain ⟨T, hT⟩ : ∃ T : Nat, tagsM G (ints (atM G ST ((bytesN s).take i))) = T := ⟨_, rfl⟩
      rw [hT] at HR
      have HTG := Lib.hid hT
      clear hT
      go_wp2_with fail
      have G0 : Fr none_ wr wr.drew := (Fr.refl none_ wr).drew
      go_region_held3 (fun w' => True) (trivial) (first
        | (go_at_call 22; refine (tags_val dm _ G ST _ _ T (M.out.move (by assumption)) HFIT.out (I.out.move (by assumption)) (by have := HAL.out; omega) HTG.out).mono ?_; rintro e wx ⟨rfl, rfl⟩)
        | (go_at_call 23; refine (run_val dm _ G ST _ T (M.out.move (by assumption)) HFIT.out HST.out HXS.out HR.out).mono ?_; rintro e wx ⟨rfl, Fx⟩; have Gx := Fr.tr (a := wr) (by assumption) Fx; clear Fx))
      have GX := Lib.hid (Fr.tr HFr.out (by assumption))
      have MX := Lib.hid (M.out.move (by assumption))
      have IX := Lib.hid (I.out.move (by assumption))
      clear G0
      go_wp2_with fail
      rw [HBE.out]
      refine (step_val dm _ G ST _ _ (byteAt s i) MX.out HFIT.out IX.out (by have := HAL.out; omega) hbl).mono ?_
      rintro e w7 ⟨v7, rfl, h7, F7⟩
      rw [← HT.out] at h7
      have M7 := Lib.hid (MX.out.move F7)
      have F7' := Lib.hid (GX.out.tr F7)
      obtain ⟨xa, xc, rfl, hxc⟩ := h7.slice
      have I7 := Lib.hid h7
      have HSO := Lib.hid (at_sorted G ST ((bytesN s).take (i + 1)))
      clear F7 h7 GX MX IX
      obtain ⟨L, hL⟩ : ∃ L : Nat, (ints (atM G ST ((bytesN s).take (i + 1)))).length = L := ⟨_, rfl⟩
      rw [hL] at hxc I7 ⊢
      have hLm : L ≤ 100000 := by
        rw [← hL, ints_length]
        have := atM_length G ST ((bytesN s).take (i + 1))
        have := HFIT.out.len
        omega
      have HL7 := Lib.hid hL
      clear hL
      obtain ⟨wo, hwo⟩ : ∃ wo : World, wo = wr := ⟨_, rfl⟩
      clear hwo
      go_wp2_with fail
      go_loopw [13] (fun x13 wq => ∃ k : Nat, k ≤ L ∧ x13 = .int .i64 ((k : Int) + 1) ∧ Aside (Fr none_ w7 wq)) (fun x13 _ => L - (intOf x13 - 1).toNat)
      case atStart => exact ⟨0, Nat.zero_le _, rfl, Fr.refl _ _⟩
      case round =>
        obtain ⟨k, hk, rfl, hq⟩ := hrel
        have HQ := Lib.hid hq.out
        clear hq
        by_cases hkl : k + 1 < L
        · have hkl' : (k : Int) + 1 < (L : Int) := by omega
          obtain ⟨x, hx⟩ : ∃ x, (ints (atM G ST ((bytesN s).take (i + 1))))[k]? = some x := ⟨(ints (atM G ST ((bytesN s).take (i + 1))))[k]'(by rw [HL7.out]; omega), List.getElem?_eq_getElem _⟩
          obtain ⟨y, hy⟩ : ∃ y, (ints (atM G ST ((bytesN s).take (i + 1))))[k + 1]? = some y := ⟨(ints (atM G ST ((bytesN s).take (i + 1))))[k + 1]'(by rw [HL7.out]; omega), List.getElem?_eq_getElem _⟩
          have hxy : x < y := sorted_at HSO.out hx hy
          obtain ⟨g, hg, cx⟩ := (I7.out.move HQ.out).cell hx
          obtain ⟨g', hg', cy⟩ := (I7.out.move HQ.out).cell hy
          subst hg
          cases hg'
          have hd : decide (y ≤ x) = false := by simp; omega
          clear hx hy
          go_wp2_with fail
          go_quiet (fail)
          go_wp2_with fail
          go_roundw
          case rel => exact ⟨k + 1, by omega, by go_num, HQ.out.drewN _⟩
          case measure => simp [intOf]; omega
        · have hkl' : (L : Int) ≤ (k : Int) + 1 := by omega
          go_wp2_with fail
          go_roundw
          case rel => exact ⟨i + 1, by omega, by go_num, I7.out.move HQ.out, F7'.out.tr HQ.out, M7.out.move HQ.out⟩
          case measure => simp [intOf]; omega
    · obtain rfl : i = s.size := by omega
      have htk : (bytesN s).take s.size = bytesN s := List.take_of_length_le (by rw [bytesN_length]; exact Nat.le_refl _)
      rw [htk] at I HAL
      obtain ⟨w8, rfl⟩ : ∃ w8 : World, w8 = wr := ⟨_, rfl⟩
      have HTG := Lib.hid (show tagsM G (ints (atM G ST (bytesN s))) = runM G ST (bytesN s) from rfl)
      generalize ints (atM G ST (bytesN s)) = A at *
      obtain ⟨T, hT⟩ : ∃ T : Nat, runM G ST (bytesN s) = T := ⟨_, rfl⟩
      rw [hT] at HTG
      have HRT := Lib.hid hT
      clear hT
      have hAL := HAL.out
      obtain ⟨abase, hIa⟩ := I.out
      have HIA := Lib.hid hIa
      clear hIa
      go_wp2_with (at_builtin; refine wpList_append_ints _ rfl (.tmp 92) (.tmp 93) 39 rfl w8.heap.size 3 i0 _ 8 Try.underlying39 hi hz0 hz1 hz2 rfl _ 0 [] rfl (World.ownsRow_nil _ _ _ _) _ A abase rfl HIA.out ?c1 ?c2 ?c3 ?_)
      case c1 => unfold maxLen; omega
      case c2 => omega
      case c3 => exact Nat.le_refl _
      intro v9 w9 hown9 hgrow9
      have HO9 := Lib.hid hown9
      have F9 := Lib.hid ((Fr.refl none_ w8).grown hgrow9 (fun k hk => by simp [Value.ownBlock] at hk))
      clear hown9 hgrow9
      go_wp2_with fail
      go_loopw [14, 15] (fun x14 x15 wr => ∃ i : Nat, i ≤ olen ∧ x15 = .int .i64 i ∧ Aside (wr.ownsRow w8.heap.size 3 1 x14 (A ++ oddM (os.take i)).length (intsV (A ++ oddM (os.take i)))) ∧ Aside (Fr none_ w8 wr)) (fun _ x15 _ => olen - (intOf x15).toNat)
      case atStart => exact ⟨0, Nat.zero_le _, rfl, by simp [oddM]; exact HO9.out, F9.out⟩
      case round =>
        obtain ⟨i, hi', rfl, how, hfr⟩ := hrel
        have HO := Lib.hid how.out
        have HF8 := Lib.hid hfr.out
        clear how hfr HO9 F9
        have hfl : (A ++ oddM (os.take i)).length ≤ 200000 := by
          have := oddM_length (os.take i)
          simp only [List.length_append, List.length_take] at this ⊢
          omega
        by_cases hlt : i < olen
        · have hil : (i : Int) < (olen : Int) := by omega
          obtain ⟨z, hz⟩ : ∃ z, os[i]? = some z := ⟨os[i]'(by rw [HODD.out.len_]; exact hlt), List.getElem?_eq_getElem _⟩
          obtain ⟨ad, rfl, hc⟩ := (HODD.out.move (HFr.out.tr HF8.out)).cell i z hz
          have HT := Lib.hid (show oddM (os.take (i + 1)) = oddM (os.take i) ++ (if z < 0 ∨ 1073741824 < z then [z] else []) by
            rw [List.take_add_one, hz]; exact oddM_snoc _ _)
          clear hz
          by_cases hzz : z < 0 ∨ 1073741824 < z
          · have HZZ := Lib.hid (show oddM (os.take (i + 1)) = oddM (os.take i) ++ [z] by rw [HT.out, if_pos hzz])
            by_cases hz0' : z < 0
            · clear hzz
              go_wp2_with (at_builtin; refine wpList_append_lies _ rfl (.tmp 113) (.tmp 118) 39 rfl w8.heap.size 3 i0 _ 1 8 Try.underlying39 hi hz0 hz1 hz2 rfl (by decide) _ (A ++ oddM (os.take i)).length (intsV (A ++ oddM (os.take i))) rfl (HO.out.alloc _) ⟨wr.heap.size, 0, none⟩ 1 1 [.int .i64 z] rfl rfl (getElem_block (alloc_new _ _)) ?c1 (by decide) ?c2 ?c3 ?c4 (wr.heap.size + 1) (by simp) ?_)
              case c1 => simp [Value.oneCell']
              case c2 => unfold maxLen; omega
              case c3 => omega
              case c4 => have := HF8.out.size; first | omega | (simp; omega)
              intro g2 cap2 w2 hown2 hgrow2 hat2 hlt2
              have FN := Lib.hid ((HF8.out.alloc (.cells #[.int .i64 z] 3)).grown hgrow2 (fun k hk => .inr (HO.out.lt k hk).1))
              have HN2 := Lib.hid hown2
              clear hown2 hgrow2 hat2 hlt2 hc
              go_wp2_with fail
              go_roundw
              case rel =>
                refine ⟨i + 1, by omega, by go_num, ?_, FN.out⟩
                rw [HZZ.out, ← List.append_assoc]
                have e2 : intsV (A ++ oddM (os.take i) ++ [z]) = intsV (A ++ oddM (os.take i)) ++ [.int .i64 z] := by simp [intsV]
                have el : (A ++ oddM (os.take i) ++ [z]).length = A.length + (oddM (os.take i)).length + 1 := by simp only [List.length_append, List.length_cons, List.length_nil]
                rw [e2, el]
                exact HN2.out
              case measure => simp [intOf]; omega
            · have hz2' : 0 ≤ z := by omega
              have hz3' : (1073741824 : Int) < z := by omega
              clear hzz hz0'
              go_wp2_with (at_builtin; refine wpList_append_lies _ rfl (.tmp 113) (.tmp 118) 39 rfl w8.heap.size 3 i0 _ 1 8 Try.underlying39 hi hz0 hz1 hz2 rfl (by decide) _ (A ++ oddM (os.take i)).length (intsV (A ++ oddM (os.take i))) rfl (HO.out.alloc _) ⟨wr.heap.size, 0, none⟩ 1 1 [.int .i64 z] rfl rfl (getElem_block (alloc_new _ _)) ?c1 (by decide) ?c2 ?c3 ?c4 (wr.heap.size + 1) (by simp) ?_)
              case c1 => simp [Value.oneCell']
              case c2 => unfold maxLen; omega
              case c3 => omega
              case c4 => have := HF8.out.size; first | omega | (simp; omega)
              intro g2 cap2 w2 hown2 hgrow2 hat2 hlt2
              have FN := Lib.hid ((HF8.out.alloc (.cells #[.int .i64 z] 3)).grown hgrow2 (fun k hk => .inr (HO.out.lt k hk).1))
              have HN2 := Lib.hid hown2
              clear hown2 hgrow2 hat2 hlt2 hc
              go_wp2_with fail
              go_roundw
              case rel =>
                refine ⟨i + 1, by omega, by go_num, ?_, FN.out⟩
                rw [HZZ.out, ← List.append_assoc]
                have e2 : intsV (A ++ oddM (os.take i) ++ [z]) = intsV (A ++ oddM (os.take i)) ++ [.int .i64 z] := by simp [intsV]
                have el : (A ++ oddM (os.take i) ++ [z]).length = A.length + (oddM (os.take i)).length + 1 := by simp only [List.length_append, List.length_cons, List.length_nil]
                rw [e2, el]
                exact HN2.out
              case measure => simp [intOf]; omega
          · have HZZ := Lib.hid (show oddM (os.take (i + 1)) = oddM (os.take i) by rw [HT.out, if_neg hzz, List.append_nil])
            have hz0' : 0 ≤ z := by omega
            have hz1' : z ≤ 1073741824 := by omega
            clear hzz
            go_wp2_with fail
            go_roundw
            case rel => exact ⟨i + 1, by omega, by go_num, by rw [HZZ.out]; exact HO.out, HF8.out⟩
            case measure => simp [intOf]; omega
        · obtain rfl : i = olen := by omega
          have hto : os.take i = os := List.take_of_length_le (by rw [HODD.out.len_]; exact Nat.le_refl _)
          rw [hto] at HO hfl
          go_wp2_with (at_builtin; refine wpList_append_ints _ rfl (.tmp 120) (.tmp 121) 39 rfl w8.heap.size 3 i0 _ 8 Try.underlying39 hi hz0 hz1 hz2 rfl _ (A ++ oddM os).length (intsV (A ++ oddM os)) rfl HO.out _ A abase rfl (ownsRow_same HIA.out (fun b hb => HF8.out.block b (HIA.out.lt b hb).2 (fun h => h))) ?e1 ?e2 ?e3 ?_)
          case e1 => unfold maxLen; omega
          case e2 => omega
          case e3 => exact HF8.out.size
          intro vf wf hownf hgrowf
          have FF := Lib.hid (HF8.out.grown hgrowf (fun k hk => .inr (HO.out.lt k hk).1))
          have hfar : wf.ownsRow w8.heap.size 3 1 vf (A ++ oddM os ++ A).length (intsV (A ++ oddM os ++ A)) := by
            have el : (A ++ oddM os ++ A).length = A.length + (oddM os).length + A.length := by simp only [List.length_append]
            rw [el]
            have e2 : intsV (A ++ oddM os ++ A) = intsV (A ++ oddM os) ++ intsV A := by simp [intsV]
            rw [e2]
            exact hownf
          have IF := Lib.hid (show IntsAt wf vf (A ++ oddM os ++ A) from ⟨_, hfar⟩)
          have IA := Lib.hid (I.out.move FF.out)
          have MF := Lib.hid (M.out.move FF.out)
          have FW := Lib.hid (HFr.out.tr FF.out)
          have HTF := Lib.hid (show tagsM G (A ++ oddM os ++ A) = T by rw [tags_far HFIT.out.len, HTG.out])
          have HSF := Lib.hid (step_far HFIT.out.len A os 97)
          have HFL := Lib.hid (show (A ++ oddM os ++ A).length ≤ 1000000 by rw [List.length_append]; omega)
          have HSN := Lib.hid (show ints (stepM G [] 97) = [] by
            have : stepM G [] 97 = [] := by unfold stepM stepW; exact closed_nil G
            rw [this]; rfl)
          clear hfar hownf hgrowf HO hfl HF8 I M
          generalize A ++ oddM os ++ A = B at *
          go_wp2_with fail
          refine (tags_val dm _ G ST _ _ T MF.out HFIT.out IA.out (by omega) HTG.out).mono ?_
          rintro e wx ⟨rfl, rfl⟩
          go_wp2_with fail
          refine (run_val dm _ G ST _ T MF.out HFIT.out HST.out (by omega) HRT.out).mono ?_
          rintro e wx ⟨rfl, Fx⟩
          have IF1 := Lib.hid (IF.out.move Fx)
          have IA1 := Lib.hid (IA.out.move Fx)
          have MF1 := Lib.hid (MF.out.move Fx)
          have FW1 := Lib.hid (FW.out.tr Fx)
          clear Fx IF IA MF FW
          go_wp2_with fail
          refine (tags_val dm _ G ST _ _ T MF1.out HFIT.out IF1.out HFL.out HTF.out).mono ?_
          rintro e wx ⟨rfl, rfl⟩
          go_wp2_with fail
          refine (run_val dm _ G ST _ T MF1.out HFIT.out HST.out (by omega) HRT.out).mono ?_
          rintro e wx ⟨rfl, Fx⟩
          have IF2 := Lib.hid (IF1.out.move Fx)
          have IA2 := Lib.hid (IA1.out.move Fx)
          have MF2 := Lib.hid (MF1.out.move Fx)
          have FW2 := Lib.hid (FW1.out.tr Fx)
          clear Fx IF1 IA1 MF1 FW1
          go_wp2_with fail
          refine (step_val dm _ G ST _ [] 97 MF2.out HFIT.out (IntsAt.nil _) (by simp) (by decide)).mono ?_
          rintro e wx ⟨vx, rfl, hvx, Fx⟩
          rw [HSN.out] at hvx
          obtain ⟨xa, xc, rfl, hxc⟩ := hvx.slice
          have IF3 := Lib.hid (IF2.out.move Fx)
          have IA3 := Lib.hid (IA2.out.move Fx)
          have MF3 := Lib.hid (MF2.out.move Fx)
          have FW3 := Lib.hid (FW2.out.tr Fx)
          clear Fx IF2 IA2 MF2 FW2 hvx
          simp only [List.length_nil] at hxc ⊢
          go_wp2_with fail
          refine (tags_val dm _ G ST _ [] 0 MF3.out HFIT.out (IntsAt.nil _) (by simp) rfl).mono ?_
          rintro e wx ⟨rfl, rfl⟩
          go_wp2_with fail
          refine (step_val dm _ G ST _ B 97 MF3.out HFIT.out IF3.out HFL.out (by decide)).mono ?_
          rintro e wx ⟨vx, rfl, hvx, Fx⟩
          rw [HSF.out] at hvx
          obtain ⟨ya, yc, rfl, hyc⟩ := hvx.slice
          have IA4 := Lib.hid (IA3.out.move Fx)
          have MF4 := Lib.hid (MF3.out.move Fx)
          have FW4 := Lib.hid (FW3.out.tr Fx)
          clear Fx IF3 IA3 MF3 FW3 hvx
          obtain ⟨Q, hQ⟩ : ∃ Q : Nat, (ints (stepM G A 97)).length = Q := ⟨_, rfl⟩
          rw [hQ] at hyc ⊢
          have HQ := Lib.hid hQ
          clear hQ
          go_wp2_with fail
          refine (step_val dm _ G ST _ A 97 MF4.out HFIT.out IA4.out (by omega) (by decide)).mono ?_
          rintro e wx ⟨vx, rfl, hvx, Fx⟩
          obtain ⟨za, zc, rfl, hzc⟩ := hvx.slice
          have FW5 := Lib.hid (FW4.out.tr Fx)
          clear Fx IA4 MF4 FW4 hvx
          rw [HQ.out] at hzc ⊢
          go_wp2_with fail
          go_ret
          exact ⟨rfl, FW5.out.below⟩

theorem nfaSteps_any (a : Option Addr) (len cap : Nat) (zs : List ByteArray) (s : ByteArray) (oa : Option Addr) (olen ocap : Nat) (os : List Int) (w : World) (h : StrsAt w a len zs) (hs : s.size ≤ 140737488351232) (ho : IntsIn w oa olen os) :
    Calls Try.prog 4 #[.slice a len cap, .string s, .slice oa olen ocap] w fun e w' => e = .returned (.bool true) ∧ Below w.heap.size w w' := by
  by_cases hc : ¬ Few zs ∨ 40 < s.size ∨ 40 < olen
  · exact steps_skip a len cap zs s oa olen ocap os w h ho hs hc
  · have hf : Few zs := Classical.byContradiction fun hn => hc (.inl hn)
    by_cases hm : 3000 < Rx.sizes (parsedM zs)
    · exact steps_many a len cap zs s oa olen ocap os w h ho hf (by omega) (by omega) hm
    · exact steps_runs a len cap zs s oa olen ocap os w h ho hf (by omega) (by omega) (by omega)
end Go.Proofs.Ytgpmbkgedhcbjaa
