/-
  The law DfaParts: what is run in two parts is run as a whole.
-/
import Derived.Test.YtglflmkkecephaaDoorKt
namespace Go.Proofs.YtglflmkkecephaaDoor
open Go.RowKit

theorem DfaIn.parts {w : World} {v : Value} {D : Dfa} (h : DfaIn w v D) : ∃ (C : List Value) (ta : Option Addr) (tcap : Nat), v = .agg C.toArray ∧ C.length = 258 ∧ C.toArray.all (·.oneCell') = true ∧ C[257]? = some (.slice ta D.tags.length tcap) ∧ ∀ (j : Nat) (z : Nat), D.tags[j]? = some z → ∃ ad, ta = some ad ∧ w.cell? (ad.add j) = some (.int .u64 (z : Int)) := by
  obtain ⟨C, rfl, ta, tcap, h1, h2⟩ := tags_in h
  obtain ⟨C', hv, h3, h4⟩ := h.cells
  have : C = C' := by injection hv with hv; injection hv
  subst this
  exact ⟨C, ta, tcap, rfl, h3, h4, h1, h2⟩
theorem go_neg (D : Dfa) (a : Int) (b : Nat) (h : a < 0) : goM D a b = -1 := by
  unfold goM
  simp only []
  rw [if_pos (.inl h)]
theorem at_neg (D : Dfa) (l : List Nat) : ∀ (a : Int), a < 0 → atD D a l < 0 := by
  induction l with
  | nil => exact fun a h => h
  | cons b l ih => exact fun a h => ih _ (by rw [go_neg D a b h]; omega)
theorem tag_neg (D : Dfa) (a : Int) (h : a < 0) : tagD D a = 0 := by rw [tagD, if_pos (.inl h)]
theorem at_app (D : Dfa) (a : Int) (l m : List Nat) : atD D a (l ++ m) = atD D (atD D a l) m := by simp [atD]
theorem bytesN_app (a b : ByteArray) : bytesN (a ++ b) = bytesN a ++ bytesN b := by
  simp [bytesN]
theorem run_app (D : Dfa) (s t : ByteArray) : runD D (bytesN (s ++ t)) = tagD D (atD D (atD D 0 (bytesN s)) (bytesN t)) := by rw [runD, bytesN_app, at_app]
theorem dfa_ends {G : List St} {cls B : List Nat} {D : Dfa} (h : dfaOf G cls B = some D) : 0 < D.next.length ∧ D.tags.length = D.next.length := by
  unfold dfaOf at h
  split at h
  · obtain rfl := Option.some.inj h
    exact ⟨by simp, by simp⟩
  · rename_i hB
    cases he : endD G (firstsM cls 256) B 2002 0 with
    | none => rw [he] at h; simp at h
    | some m =>
      rw [he] at h
      have hD := Option.some.inj h
      obtain ⟨hr, hm⟩ := endD_some hB 2002 0 m (rounds_zero G _ B hB) he
      obtain ⟨m2, hm2⟩ := rounds_begin G (firstsM cls 256) B m
      rw [hm2] at hm
      subst hD
      refine ⟨?_, ?_⟩
      · show 0 < (roundD G (firstsM cls 256) B m).next.length
        rw [hr.hn]; simp at hm; omega
      · show (roundD G (firstsM cls 256) B m).tags.length = (roundD G (firstsM cls 256) B m).next.length
        rw [hr.hn, hr.ht]
theorem dfaX_ends {rs : List Rx} {D : Dfa} (h : dfaX rs = some D) : 0 < D.next.length ∧ D.tags.length = D.next.length := by
  unfold dfaX at h
  split at h
  · cases h
  · exact dfa_ends h
theorem at_range (D : Dfa) (h : 0 < D.next.length) (l : List Nat) (a : Int) (ha : a < D.next.length) : atD D a l < D.next.length := by
  induction l generalizing a with
  | nil => exact ha
  | cons b l ih => exact ih _ (by rcases go_range D a b with h | h <;> omega)
theorem tag_at {D : Dfa} (he : D.tags.length = D.next.length) {k z : Nat} (hz : D.tags[k]? = some z) : tagD D k = z := by
  have hl := (List.getElem?_eq_some_iff.1 hz).1
  have hm : Nat.min D.tags.length D.next.length = D.tags.length := Nat.min_eq_left (by omega)
  rw [tagD, if_neg (by rw [hm]; omega)]
  simp [List.getD, hz]

set_option maxRecDepth 100000 in
set_option maxHeartbeats 4000000 in
theorem parts_skip (a : Option Addr) (len cap : Nat) (zs : List ByteArray) (s t : ByteArray) (w : World) (h : StrsAt w a len zs) (hp : PowOk w) (hs : s.size ≤ 140737488351232) (ht : t.size ≤ 140737488351232)
    (hc : ¬ Few zs ∨ 40 < s.size ∨ 40 < t.size) :
    Calls Tryd.prog 3 #[.slice a len cap, .string s, .string t] w fun e w' => e = .returned (.bool true) ∧ Below w.heap.size w w' := by
  have H := Lib.hid h
  have HP := Lib.hid hp
  clear h hp
  by_cases hf : Few zs
  · have HFEW := Lib.hid hf
    replace hc := hc.resolve_left (fun h => h hf)
    clear hf
    by_cases g0 : 40 < s.size
    · have g0' : (40 : Int) < (s.size : Int) := by omega
      clear hc
      go_enter Tryd.func3, Tryd.ntmps3
      go_wp2_with fail
      refine (works5_any _ HP.out).mono ?_
      rintro e w1 ⟨rfl, F1⟩
      have HF := Lib.hid F1
      clear F1
      go_wp2_with fail
      refine (over_no a len cap zs _ (H.out.move HF.out) HFEW.out).mono ?_
      rintro e w2 ⟨rfl, rfl⟩
      go_wp2_with fail
      go_ret
      exact ⟨rfl, HF.out.below⟩
    replace hc := hc.resolve_left g0
    have g0' : (s.size : Int) ≤ 40 := by omega
    clear g0
    have g1' : (40 : Int) < (t.size : Int) := by omega
    clear hc
    go_enter Tryd.func3, Tryd.ntmps3
    go_wp2_with fail
    refine (works5_any _ HP.out).mono ?_
    rintro e w1 ⟨rfl, F1⟩
    have HF := Lib.hid F1
    clear F1
    go_wp2_with fail
    refine (over_no a len cap zs _ (H.out.move HF.out) HFEW.out).mono ?_
    rintro e w2 ⟨rfl, rfl⟩
    go_wp2_with fail
    go_ret
    exact ⟨rfl, HF.out.below⟩
  · have HFEW := Lib.hid hf
    clear hc hf
    go_enter Tryd.func3, Tryd.ntmps3
    go_wp2_with fail
    refine (works5_any _ HP.out).mono ?_
    rintro e w1 ⟨rfl, F1⟩
    have HF := Lib.hid F1
    clear F1
    go_wp2_with fail
    refine (over_yes a len cap zs _ (H.out.move HF.out) HFEW.out).mono ?_
    rintro e w2 ⟨rfl, rfl⟩
    go_wp2_with fail
    go_ret
    exact ⟨rfl, HF.out.below⟩

set_option maxRecDepth 100000 in
set_option maxHeartbeats 4000000 in
theorem parts_none (a : Option Addr) (len cap : Nat) (zs : List ByteArray) (s t : ByteArray) (w : World) (h : StrsAt w a len zs) (hp : PowOk w) (hf : Few zs) (hs : s.size ≤ 40) (ht : t.size ≤ 40) (hd : dfaX (parsedM zs) = none) :
    Calls Tryd.prog 3 #[.slice a len cap, .string s, .string t] w fun e w' => e = .returned (.bool true) ∧ Below w.heap.size w w' := by
  have HP := Lib.hid hp
  have H := Lib.hid h
  have HFEW := Lib.hid hf
  have HS4 := Lib.hid (show Rx.sizes (parsedM zs) < 4611686018427387904 by have := parsedM_sizes zs hf.1; omega)
  have h1' : (s.size : Int) ≤ 40 := by omega
  have h2' : (t.size : Int) ≤ 40 := by omega
  clear h hf hp
  go_enter Tryd.func3, Tryd.ntmps3
  go_wp2_with fail
  refine (works5_any _ HP.out).mono ?_
  rintro e w1 ⟨rfl, F1⟩
  have HF := Lib.hid F1
  clear F1
  go_wp2_with fail
  refine (over_no a len cap zs _ (H.out.move HF.out) HFEW.out).mono ?_
  rintro e w2 ⟨rfl, rfl⟩
  go_wp2_with fail
  refine (parsed_any a len cap zs _ (H.out.move HF.out) HFEW.out).mono ?_
  rintro e w3 ⟨a', cap', rfl, hc', hl', F3⟩
  have HL := Lib.hid hl'
  have HF3 := Lib.hid (HF.out.tr F3)
  clear hl' F3
  go_wp2_with fail
  refine (dbuild_any (parsedM zs) a' cap' _ _ hc' HS4.out HL.out (HP.out.move HF3.out)).mono ?_
  rintro e w4 ⟨hB, F4⟩
  have HF4 := Lib.hid (HF3.out.tr F4)
  clear F4 HL
  rw [hd] at hB
  obtain rfl := hB
  go_wp2_with (refine wpList_store_row rfl 29 _ _ rfl w4.heap.size 29 Tryd.zeroCells29 Tryd.zeroCells29 rfl rfl (alloc_new w4 _) (by rw [zeroD_size]; exact dfa_info) rfl zeroD_one ?_)
  go_ret
  exact ⟨rfl, (HF4.out.tr (laid_row w4 _ _ _).1).below⟩

set_option maxRecDepth 100000 in
set_option maxHeartbeats 4000000 in
theorem parts_runs (a : Option Addr) (len cap : Nat) (zs : List ByteArray) (s t : ByteArray) (w : World) (h : StrsAt w a len zs) (hp : PowOk w) (hf : Few zs) (hs : s.size ≤ 40) (ht : t.size ≤ 40) (D : Dfa) (hd : dfaX (parsedM zs) = some D) :
    Calls Tryd.prog 3 #[.slice a len cap, .string s, .string t] w fun e w' => e = .returned (.bool true) ∧ Below w.heap.size w w' := by
  have HEND := Lib.hid (dfaX_ends hd)
  have q0 : s.size + t.size ≤ 9223372036854775807 := by omega
  have HP := Lib.hid hp
  have H := Lib.hid h
  have HFEW := Lib.hid hf
  have HS4 := Lib.hid (show Rx.sizes (parsedM zs) < 4611686018427387904 by have := parsedM_sizes zs hf.1; omega)
  have h1' : (s.size : Int) ≤ 40 := by omega
  have h2' : (t.size : Int) ≤ 40 := by omega
  clear h hf hp
  go_enter Tryd.func3, Tryd.ntmps3
  go_wp2_with fail
  refine (works5_any _ HP.out).mono ?_
  rintro e w1 ⟨rfl, F1⟩
  have HF := Lib.hid F1
  clear F1
  go_wp2_with fail
  refine (over_no a len cap zs _ (H.out.move HF.out) HFEW.out).mono ?_
  rintro e w2 ⟨rfl, rfl⟩
  go_wp2_with fail
  refine (parsed_any a len cap zs _ (H.out.move HF.out) HFEW.out).mono ?_
  rintro e w3 ⟨a', cap', rfl, hc', hl', F3⟩
  have HL := Lib.hid hl'
  have HF3 := Lib.hid (HF.out.tr F3)
  clear hl' F3
  go_wp2_with fail
  refine (dbuild_any (parsedM zs) a' cap' _ _ hc' HS4.out HL.out (HP.out.move HF3.out)).mono ?_
  rintro e w4 ⟨hB, F4⟩
  have HF4 := Lib.hid (HF3.out.tr F4)
  clear F4 HL
  rw [hd] at hB
  clear hd
  obtain ⟨v, rfl, hD⟩ := hB
  obtain ⟨C, ta, tcap, rfl, hz, hone, h257, htag⟩ := hD.parts
  have H257 := Lib.hid h257
  have HTAG := Lib.hid htag
  have HDI := Lib.hid hD
  have LF := Lib.hid (laid_row w4 Tryd.zeroCells29 29 C.toArray).1
  have LB := Lib.hid (laid_row w4 Tryd.zeroCells29 29 C.toArray).2
  clear hD h257 htag
  go_wp2_with (refine wpList_store_row rfl 29 _ _ rfl w4.heap.size 29 Tryd.zeroCells29 C.toArray rfl rfl (alloc_new w4 _) (by rw [List.size_toArray, hz]; exact dfa_info) (by rw [zeroD_size, List.size_toArray, hz]) hone ?_)
  generalize hwf : (w4.alloc (.cells Tryd.zeroCells29 29)).setRow w4.heap.size C.toArray = w5 at *
  have HD5 := Lib.hid (HDI.out.move LF.out)
  have F5 := Lib.hid (HF4.out.tr LF.out)
  have HTG := Lib.hid (show ∀ (j : Nat) (z : Nat), D.tags[j]? = some z → ∃ ad, ta = some ad ∧ w5.cell? (ad.add j) = some (.int .u64 (z : Int)) from fun j z hjz => by
    obtain ⟨ad, ha, hc⟩ := HTAG.out j z hjz
    exact ⟨ad, ha, cell_move LF.out hc⟩)
  clear hwf HDI LF HF4 HTAG
  obtain ⟨M, hM⟩ : ∃ M, D.tags.length = M := ⟨_, rfl⟩
  have HM := Lib.hid hM
  have H257M := Lib.hid (show C[257]? = some (.slice ta M tcap) by rw [← hM]; exact H257.out)
  clear hM H257
  go_loopw [10, 11] (fun x10 xi wr => ∃ i : Nat, i ≤ s.size ∧ xi = .int .i64 i ∧ x10 = .int .i64 (atD D 0 ((bytesN s).take i)) ∧ Aside (Fr none_ w5 wr)) (fun _ xi _ => s.size - (intOf xi).toNat)
  case atStart => exact ⟨0, Nat.zero_le _, rfl, rfl, Fr.refl _ _⟩
  case round =>
    obtain ⟨i, hi', rfl, rfl, hF'⟩ := hrel
    have HFr := Lib.hid hF'.out
    clear hF'
    obtain ⟨at_, hat⟩ : ∃ a, atD D 0 ((bytesN s).take i) = a := ⟨_, rfl⟩
    have HAT := Lib.hid hat
    rw [hat]
    clear hat
    by_cases hlt : i < s.size
    case pos =>
      have hil : (i : Int) < (s.size : Int) := by omega
      have hi0 : (0 : Int) ≤ (i : Int) := by omega
      have HS := Lib.hid (show atD D 0 ((bytesN s).take (i + 1)) = goM D at_ (byteAt s i) by
        rw [bytesN_take s i hlt, atD_snoc, HAT.out])
      have hbl := byteAt_lt s i
      have hbe := byteAt_eq s i hlt
      have HBE := Lib.hid hbe
      clear hbe
      go_wp2_with fail
      refine wp_region_held_drew (S := fun w' => w'.rangeAt w4.heap.size 0 C) (by kernel_rfl) (range_of (HFr.out.drew.at_ LB.out (fun h => h))) (fun hHeld => ?_)
      refine wpAnyH_take (i := 0) lot0 (by kernel_rfl) (by kernel_rfl) (by kernel_rfl) (fun _ _ _ h => h) (yieldsIf_load_mid (by rfl) _ _ rfl _ _ rfl C _ (fun _ h => h) Tryd.underlying29 rfl (by rw [hz]; exact dfa_info)) (by assumption) ?_
      try simp only [Act.put, List.setIfInBounds_toArray, List.set_cons_zero, List.set_cons_succ]
      refine wpAnyH_take (i := 1) (v := ?_) lot1 (by kernel_rfl) (by kernel_rfl) (by kernel_rfl) (fun _ _ _ h => h) (Or.inl ⟨by rfl, ?_⟩) (by assumption) ?_
      rotate_left
      · (intro w hSw; (try dsimp only at hSw); go_simp) <;> with_reducible rfl
      try simp only [Act.put, List.setIfInBounds_toArray, List.set_cons_zero, List.set_cons_succ]
      refine wpAnyH_take (i := 2) (v := ?_) lot2 (by kernel_rfl) (by kernel_rfl) (by kernel_rfl) (fun _ _ _ h => h) (Or.inl ⟨by rfl, ?_⟩) (by assumption) ?_
      rotate_left
      · (intro w hSw; (try dsimp only at hSw); go_simp) <;> with_reducible rfl
      try simp only [Act.put, List.setIfInBounds_toArray, List.set_cons_zero, List.set_cons_succ]
      refine wpAnyH_take (i := 3) (v := ?_) lot3 (by kernel_rfl) (by kernel_rfl) (by kernel_rfl) (fun _ _ _ h => h) (Or.inl ⟨by rfl, ?_⟩) (by assumption) ?_
      rotate_left
      · (intro w hSw; (try dsimp only at hSw); go_simp) <;> with_reducible rfl
      try simp only [Act.put, List.setIfInBounds_toArray, List.set_cons_zero, List.set_cons_succ]
      refine wpAnyH_take (i := 4) (v := ?_) lot4 (by kernel_rfl) (by kernel_rfl) (by kernel_rfl) (fun _ _ _ h => h) (Or.inl ⟨by rfl, ?_⟩) (by assumption) ?_
      rotate_left
      · (intro w hSw; (try dsimp only at hSw); go_simp) <;> with_reducible rfl
      try simp only [Act.put, List.setIfInBounds_toArray, List.set_cons_zero, List.set_cons_succ]
      refine wpAnyH_ready (rs := [5]) (by kernel_rfl) (by simp) ?_
      refine AllReadyH.cons lot5 (fun K hK => ?_) AllReadyH.nil
      go_simp
      go_at_call 13
      rw [HBE.out]
      refine (dgo_any D _ at_ (byteAt s i) _ (HD5.out.move HFr.out.drew) hbl).mono ?_
      rintro e wx ⟨rfl, Fx⟩
      have Gx := Lib.hid ((HFr.out.drew).tr Fx)
      clear Fx
      refine hK.out _ _ (range_of (Gx.out.at_ LB.out (fun h => h))) (fun hHeld => ?_)
      clear hK K
      try simp only [Act.put, List.setIfInBounds_toArray, List.set_cons_zero, List.set_cons_succ]
      refine wpAnyH_take (i := 6) (v := ?_) lot6 (by kernel_rfl) (by kernel_rfl) (by kernel_rfl) (fun _ _ _ h => h) (Or.inl ⟨by rfl, ?_⟩) (by assumption) ?_
      rotate_left
      · (intro w hSw; (try dsimp only at hSw); go_simp) <;> with_reducible rfl
      try simp only [Act.put, List.setIfInBounds_toArray, List.set_cons_zero, List.set_cons_succ]
      refine wpAnyH_done (by kernel_rfl) ?_ _
      go_wp2_with fail
      go_roundw
      case rel => exact ⟨i + 1, by omega, by go_num, by rw [HS.out], Gx.out⟩
      case measure => simp [intOf]; omega
    case neg =>
      obtain rfl : i = s.size := by omega
      have htk : (bytesN s).take s.size = bytesN s := List.take_of_length_le (by rw [bytesN_length]; exact Nat.le_refl _)
      have HAT2 := HAT.out
      rw [htk] at HAT2
      have HA := Lib.hid HAT2
      have HR1 := Lib.hid (show runD D (bytesN s) = tagD D at_ by rw [runD, HAT2])
      have HR2 := Lib.hid (show runD D (bytesN (s ++ t)) = tagD D (atD D at_ (bytesN t)) by rw [run_app, HAT2])
      have hlt2 : at_ < M := by
        have := at_range D HEND.out.1 (bytesN s) 0 (by have := HEND.out.1; omega)
        rw [HAT2, ← HEND.out.2, HM.out] at this
        exact this
      have FR := Lib.hid (F5.out.tr HFr.out)
      have BR := Lib.hid (HFr.out.at_ LB.out (fun h => h))
      have DR := Lib.hid (HD5.out.move HFr.out)
      clear HAT2 htk HAT hlt
      by_cases hneg : at_ < 0
      case pos =>
        have HV := Lib.hid (show runD D (bytesN (s ++ t)) = 0 by rw [HR2.out, tag_neg D _ (at_neg D _ _ hneg)])
        go_wp2_with fail
        refine wp_load_mid 29 _ rfl w4.heap.size 0 rfl C _ (range_of BR.out) Tryd.underlying29 rfl (by rw [hz]; exact dfa_info) ?_
        go_wp2_with fail
        refine (drun_any D _ (s ++ t) _ DR.out (by rw [ByteArray.size_append]; omega)).mono ?_
        rintro e w6 ⟨rfl, F6⟩
        rw [HV.out]
        have F7 := Lib.hid (FR.out.tr F6)
        clear F6
        go_wp2_with fail
        go_ret
        exact ⟨rfl, F7.out.below⟩
      case neg =>
        obtain ⟨k, rfl⟩ := Int.eq_ofNat_of_zero_le (show 0 ≤ at_ by omega)
        have hk0 : (0 : Int) ≤ (k : Int) := by omega
        obtain ⟨z, hzz⟩ : ∃ z, D.tags[k]? = some z := ⟨_, List.getElem?_eq_getElem (by rw [HM.out]; omega)⟩
        obtain ⟨ad, rfl, hc⟩ := HTG.out k z hzz
        have HV := Lib.hid (show runD D (bytesN s) = z by rw [HR1.out, tag_at HEND.out.2 hzz])
        have HC := Lib.hid hc
        have g1 := cell_of_block BR.out (show C.toArray[257]? = some (.slice (some ad) M tcap) by simpa using H257M.out)
        have g2 := cell_move HFr.out hc
        have H0 := Lib.hid g1
        clear hc hneg
        go_wp2_with fail
        refine wp_region_held_drew (S := fun w' => w'.rangeAt w4.heap.size 0 C ∧ w'.cell? ⟨w4.heap.size, 257, none⟩ = some (.slice (some ad) M tcap) ∧ w'.cell? (ad.add k) = some (.int .u64 z)) (by kernel_rfl) ⟨range_of ((Fr.refl none_ wr).drew.at_ BR.out (fun h => h)), g1, g2⟩ (fun hHeld => ?_)
        refine wpAnyH_take (i := 0) lot0 (by kernel_rfl) (by kernel_rfl) (by kernel_rfl) (fun _ _ _ h => h) (yieldsIf_load_mid (by rfl) _ _ rfl _ _ rfl C _ (fun _ h => h.1) Tryd.underlying29 rfl (by rw [hz]; exact dfa_info)) (by assumption) ?_
        try simp only [Act.put, List.setIfInBounds_toArray, List.set_cons_zero, List.set_cons_succ]
        refine wpAnyH_take (i := 1) (v := ?_) lot1 (by kernel_rfl) (by kernel_rfl) (by kernel_rfl) (fun _ _ _ h => h) (Or.inl ⟨by rfl, ?_⟩) (by assumption) ?_
        rotate_left
        · (intro w hSw; (try dsimp only at hSw); go_simp) <;> with_reducible rfl
        try simp only [Act.put, List.setIfInBounds_toArray, List.set_cons_zero, List.set_cons_succ]
        refine wpAnyH_take (i := 3) (v := ?_) lot3 (by kernel_rfl) (by kernel_rfl) (by kernel_rfl) (fun _ _ _ h => h) (Or.inl ⟨by rfl, ?_⟩) (by assumption) ?_
        rotate_left
        · (intro w hSw; (try dsimp only at hSw); go_simp) <;> with_reducible rfl
        try simp only [Act.put, List.setIfInBounds_toArray, List.set_cons_zero, List.set_cons_succ]
        refine wpAnyH_take (i := 4) (v := ?_) lot4 (by kernel_rfl) (by kernel_rfl) (by kernel_rfl) (fun _ _ _ h => h) (Or.inl ⟨by rfl, ?_⟩) (by assumption) ?_
        rotate_left
        · (intro w hSw; (try dsimp only at hSw); go_simp) <;> with_reducible rfl
        try simp only [Act.put, List.setIfInBounds_toArray, List.set_cons_zero, List.set_cons_succ]
        refine wpAnyH_take (i := 5) (v := ?_) lot5 (by kernel_rfl) (by kernel_rfl) (by kernel_rfl) (fun _ _ _ h => h) (Or.inl ⟨by rfl, ?_⟩) (by assumption) ?_
        rotate_left
        · (intro w hSw; (try dsimp only at hSw); go_simp) <;> with_reducible rfl
        try simp only [Act.put, List.setIfInBounds_toArray, List.set_cons_zero, List.set_cons_succ]
        refine wpAnyH_take (i := 6) (v := ?_) lot6 (by kernel_rfl) (by kernel_rfl) (by kernel_rfl) (fun _ _ _ h => h) (Or.inl ⟨by rfl, ?_⟩) (by assumption) ?_
        rotate_left
        · (intro w hSw; (try dsimp only at hSw); go_simp) <;> with_reducible rfl
        try simp only [Act.put, List.setIfInBounds_toArray, List.set_cons_zero, List.set_cons_succ]
        refine wpAnyH_take (i := 7) (v := ?_) lot7 (by kernel_rfl) (by kernel_rfl) (by kernel_rfl) (fun _ _ _ h => h) (Or.inl ⟨by rfl, ?_⟩) (by assumption) ?_
        rotate_left
        · (intro w hSw; (try dsimp only at hSw); go_simp) <;> with_reducible rfl
        try simp only [Act.put, List.setIfInBounds_toArray, List.set_cons_zero, List.set_cons_succ]
        refine wpAnyH_ready (rs := [2]) (by kernel_rfl) (by simp) ?_
        refine AllReadyH.cons lot2 (fun K hK => ?_) AllReadyH.nil
        go_simp
        go_at_call 14
        refine (drun_any D _ s _ (DR.out.move (Fr.refl none_ wr).drew) (by omega)).mono ?_
        rintro e w6 ⟨rfl, F6⟩
        rw [HV.out]
        have G6 := Lib.hid ((HFr.out.drew).tr F6)
        clear F6
        refine hK.out _ _ ⟨range_of (G6.out.at_ LB.out (fun h => h)), cell_of_block (G6.out.at_ LB.out (fun h => h)) (show C.toArray[257]? = some (.slice (some ad) M tcap) by simpa using H257M.out), cell_move G6.out HC.out⟩ (fun hHeld => ?_)
        clear hK K
        try simp only [Act.put, List.setIfInBounds_toArray, List.set_cons_zero, List.set_cons_succ]
        refine wpAnyH_take (i := 8) (v := ?_) lot8 (by kernel_rfl) (by kernel_rfl) (by kernel_rfl) (fun _ _ _ h => h) (Or.inl ⟨by rfl, ?_⟩) (by assumption) ?_
        rotate_left
        · (intro w hSw; (try dsimp only at hSw); go_simp) <;> with_reducible rfl
        try simp only [Act.put, List.setIfInBounds_toArray, List.set_cons_zero, List.set_cons_succ]
        refine wpAnyH_done (by kernel_rfl) ?_ _
        go_wp2_with fail
        go_loopw [10, 12] (fun x10 xi wr => ∃ i : Nat, i ≤ t.size ∧ xi = .int .i64 i ∧ x10 = .int .i64 (atD D (k : Int) ((bytesN t).take i)) ∧ Aside (Fr none_ w6 wr)) (fun _ xi _ => t.size - (intOf xi).toNat)
        case atStart => exact ⟨0, Nat.zero_le _, rfl, rfl, Fr.refl _ _⟩
        case round =>
          have HB6 := Lib.hid (G6.out.at_ LB.out (fun h => h))
          have HD6 := Lib.hid (HD5.out.move G6.out)
          clear HFr FR
          obtain ⟨i, hi', rfl, rfl, hF'⟩ := hrel
          have HFr := Lib.hid hF'.out
          clear hF'
          obtain ⟨at_, hat⟩ : ∃ a, atD D (k : Int) ((bytesN t).take i) = a := ⟨_, rfl⟩
          have HAT := Lib.hid hat
          rw [hat]
          clear hat
          by_cases hlt : i < t.size
          case pos =>
            have hil : (i : Int) < (t.size : Int) := by omega
            have hi0 : (0 : Int) ≤ (i : Int) := by omega
            have HS := Lib.hid (show atD D (k : Int) ((bytesN t).take (i + 1)) = goM D at_ (byteAt t i) by
              rw [bytesN_take t i hlt, atD_snoc, HAT.out])
            have hbl := byteAt_lt t i
            have hbe := byteAt_eq t i hlt
            have HBE := Lib.hid hbe
            clear hbe
            go_wp2_with fail
            refine wp_region_held_drew (S := fun w' => w'.rangeAt w4.heap.size 0 C) (by kernel_rfl) (range_of (HFr.out.drew.at_ HB6.out (fun h => h))) (fun hHeld => ?_)
            refine wpAnyH_take (i := 0) lot0 (by kernel_rfl) (by kernel_rfl) (by kernel_rfl) (fun _ _ _ h => h) (yieldsIf_load_mid (by rfl) _ _ rfl _ _ rfl C _ (fun _ h => h) Tryd.underlying29 rfl (by rw [hz]; exact dfa_info)) (by assumption) ?_
            try simp only [Act.put, List.setIfInBounds_toArray, List.set_cons_zero, List.set_cons_succ]
            refine wpAnyH_take (i := 1) (v := ?_) lot1 (by kernel_rfl) (by kernel_rfl) (by kernel_rfl) (fun _ _ _ h => h) (Or.inl ⟨by rfl, ?_⟩) (by assumption) ?_
            rotate_left
            · (intro w hSw; (try dsimp only at hSw); go_simp) <;> with_reducible rfl
            try simp only [Act.put, List.setIfInBounds_toArray, List.set_cons_zero, List.set_cons_succ]
            refine wpAnyH_take (i := 2) (v := ?_) lot2 (by kernel_rfl) (by kernel_rfl) (by kernel_rfl) (fun _ _ _ h => h) (Or.inl ⟨by rfl, ?_⟩) (by assumption) ?_
            rotate_left
            · (intro w hSw; (try dsimp only at hSw); go_simp) <;> with_reducible rfl
            try simp only [Act.put, List.setIfInBounds_toArray, List.set_cons_zero, List.set_cons_succ]
            refine wpAnyH_take (i := 3) (v := ?_) lot3 (by kernel_rfl) (by kernel_rfl) (by kernel_rfl) (fun _ _ _ h => h) (Or.inl ⟨by rfl, ?_⟩) (by assumption) ?_
            rotate_left
            · (intro w hSw; (try dsimp only at hSw); go_simp) <;> with_reducible rfl
            try simp only [Act.put, List.setIfInBounds_toArray, List.set_cons_zero, List.set_cons_succ]
            refine wpAnyH_take (i := 4) (v := ?_) lot4 (by kernel_rfl) (by kernel_rfl) (by kernel_rfl) (fun _ _ _ h => h) (Or.inl ⟨by rfl, ?_⟩) (by assumption) ?_
            rotate_left
            · (intro w hSw; (try dsimp only at hSw); go_simp) <;> with_reducible rfl
            try simp only [Act.put, List.setIfInBounds_toArray, List.set_cons_zero, List.set_cons_succ]
            refine wpAnyH_ready (rs := [5]) (by kernel_rfl) (by simp) ?_
            refine AllReadyH.cons lot5 (fun K hK => ?_) AllReadyH.nil
            go_simp
            go_at_call 13
            rw [HBE.out]
            refine (dgo_any D _ at_ (byteAt t i) _ (HD6.out.move HFr.out.drew) hbl).mono ?_
            rintro e wx ⟨rfl, Fx⟩
            have Gx := Lib.hid ((HFr.out.drew).tr Fx)
            clear Fx
            refine hK.out _ _ (range_of (Gx.out.at_ HB6.out (fun h => h))) (fun hHeld => ?_)
            clear hK K
            try simp only [Act.put, List.setIfInBounds_toArray, List.set_cons_zero, List.set_cons_succ]
            refine wpAnyH_take (i := 6) (v := ?_) lot6 (by kernel_rfl) (by kernel_rfl) (by kernel_rfl) (fun _ _ _ h => h) (Or.inl ⟨by rfl, ?_⟩) (by assumption) ?_
            rotate_left
            · (intro w hSw; (try dsimp only at hSw); go_simp) <;> with_reducible rfl
            try simp only [Act.put, List.setIfInBounds_toArray, List.set_cons_zero, List.set_cons_succ]
            refine wpAnyH_done (by kernel_rfl) ?_ _
            go_wp2_with fail
            go_roundw
            case rel => exact ⟨i + 1, by omega, by go_num, by rw [HS.out], Gx.out⟩
            case measure => simp [intOf]; omega
          case neg =>
            obtain rfl : i = t.size := by omega
            have htk : (bytesN t).take t.size = bytesN t := List.take_of_length_le (by rw [bytesN_length]; exact Nat.le_refl _)
            have HAT2 := HAT.out
            rw [htk] at HAT2
            have HV2 := Lib.hid (show runD D (bytesN (s ++ t)) = tagD D at_ by rw [HR2.out, HAT2])
            have hlt3 : at_ < M := by
              have := at_range D HEND.out.1 (bytesN t) k (by have := HEND.out.2; have := HM.out; omega)
              rw [HAT2, ← HEND.out.2, HM.out] at this
              exact this
            have FR2 := Lib.hid (F5.out.tr (G6.out.tr HFr.out))
            have BR2 := Lib.hid (HFr.out.at_ HB6.out (fun h => h))
            have DR2 := Lib.hid (HD6.out.move HFr.out)
            clear HAT2 htk HAT hlt
            by_cases hneg : at_ < 0
            case pos =>
              have HV3 := Lib.hid (show runD D (bytesN (s ++ t)) = 0 by rw [HV2.out, tag_neg D _ hneg])
              go_wp2_with fail
              refine wp_load_mid 29 _ rfl w4.heap.size 0 rfl C _ (range_of BR2.out) Tryd.underlying29 rfl (by rw [hz]; exact dfa_info) ?_
              go_wp2_with fail
              refine (drun_any D _ (s ++ t) _ DR2.out (by rw [ByteArray.size_append]; omega)).mono ?_
              rintro e w7 ⟨rfl, F7⟩
              rw [HV3.out]
              have F8 := Lib.hid (FR2.out.tr F7)
              clear F7
              go_wp2_with fail
              go_ret
              exact ⟨rfl, F8.out.below⟩
            case neg =>
              obtain ⟨j, rfl⟩ := Int.eq_ofNat_of_zero_le (show 0 ≤ at_ by omega)
              have hj0 : (0 : Int) ≤ (j : Int) := by omega
              obtain ⟨y, hy⟩ : ∃ y, D.tags[j]? = some y := ⟨_, List.getElem?_eq_getElem (by rw [HM.out]; omega)⟩
              obtain ⟨ad2, had, hc⟩ := HTG.out j y hy
              obtain rfl : ad = ad2 := Option.some.inj had
              have HV3 := Lib.hid (show runD D (bytesN (s ++ t)) = y by rw [HV2.out, tag_at HEND.out.2 hy])
              have g3 := cell_of_block BR2.out (show C.toArray[257]? = some (.slice (some ad) M tcap) by simpa using H257M.out)
              have g4 := cell_move (G6.out.tr HFr.out) hc
              clear hc hneg hy
              go_wp2_with fail
              refine wp_load_mid 29 _ rfl w4.heap.size 0 rfl C _ (range_of BR2.out) Tryd.underlying29 rfl (by rw [hz]; exact dfa_info) ?_
              go_wp2_with fail
              refine (drun_any D _ (s ++ t) _ DR2.out (by rw [ByteArray.size_append]; omega)).mono ?_
              rintro e w7 ⟨rfl, F7⟩
              rw [HV3.out]
              have F8 := Lib.hid (FR2.out.tr F7)
              clear F7
              go_wp2_with fail
              go_ret
              exact ⟨rfl, F8.out.below⟩
theorem parts_any (a : Option Addr) (len cap : Nat) (zs : List ByteArray) (s t : ByteArray) (w : World) (h : StrsAt w a len zs) (hs : s.size ≤ 140737488351232) (ht : t.size ≤ 140737488351232) (hp : PowOk w) :
    Calls Tryd.prog 3 #[.slice a len cap, .string s, .string t] w fun e w' => e = .returned (.bool true) ∧ Below w.heap.size w w' := by
  by_cases hf : Few zs ∧ s.size ≤ 40 ∧ t.size ≤ 40
  · obtain ⟨hf, h1, h2⟩ := hf
    cases hd : dfaX (parsedM zs) with
    | none => exact parts_none a len cap zs s t w h hp hf h1 h2 hd
    | some D => exact parts_runs a len cap zs s t w h hp hf h1 h2 D hd
  · refine parts_skip a len cap zs s t w h hp hs ht ?_
    by_cases h1 : Few zs
    · by_cases h2 : s.size ≤ 40
      · exact .inr (.inr (Nat.lt_of_not_le fun h3 => hf ⟨h1, h2, h3⟩))
      · exact .inr (.inl (Nat.lt_of_not_le h2))
    · exact .inl h1
end Go.Proofs.YtglflmkkecephaaDoor
