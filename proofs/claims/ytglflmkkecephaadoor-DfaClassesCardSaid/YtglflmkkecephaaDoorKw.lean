/-
  The law DfaClasses: two bytes of one class are run alike.
-/
import Derived.Test.YtglflmkkecephaaDoorKu
import Derived.Laws.IdiomStrings
namespace Go.Proofs.YtglflmkkecephaaDoor
open Go.RowKit

theorem conv_byte (x : Nat) (hx : x < 256) (w : World) :
    (convert 40 9 (.slice (some ⟨w.heap.size, 0, none⟩) 1 1)).run Tryd.prog (w.alloc (.cells #[.int .u8 (x : Int)] 5)) = .ok (.string ⟨#[UInt8.ofNat x]⟩) (w.alloc (.cells #[.int .u8 (x : Int)] 5)) := by
  have h := run_convert_bytes_back (P := Tryd.prog) (w.alloc (.cells #[.int .u8 (x : Int)] 5)) 40 9 5 ⟨w.heap.size, 0, none⟩ 1 [UInt8.ofNat x] Tryd.underlying40 Tryd.underlying5 Tryd.underlying9 (fun j hj => by
    obtain rfl : j = 0 := by simpa using hj
    have e : (UInt8.ofNat x).toNat = x := by simp; omega
    show (w.alloc (.cells #[.int .u8 (x : Int)] 5)).cell? ⟨w.heap.size, 0, none⟩ = some (.int .u8 ((UInt8.ofNat x).toNat : Int))
    rw [e, Lib.cell_of_heap (alloc_new w (.cells #[.int .u8 (x : Int)] 5))]
    rfl)
  exact h
theorem go_cls (D : Dfa) (a : Int) {b c : Nat} (h : D.cls.getD b 0 = D.cls.getD c 0) : goM D a b = goM D a c := by
  unfold goM
  rw [h]
theorem put_byte (s : ByteArray) (i b : Nat) (hi : i < s.size) (hb : b < 256) :
    bytesN (s.extract 0 i ++ ⟨#[UInt8.ofNat b]⟩ ++ s.extract (i + 1) s.size) = (bytesN s).take i ++ b :: (bytesN s).drop (i + 1) := by
  have e : bytesN ⟨#[UInt8.ofNat b]⟩ = [b] := by
    show [(UInt8.ofNat b).toNat] = [b]
    congr 1
    simp; omega
  rw [bytesN_app, bytesN_app, e]
  have h1 : bytesN (s.extract 0 i) = (bytesN s).take i := by simp [bytesN, ByteArray.data_extract, List.map_take]
  have h2 : bytesN (s.extract (i + 1) s.size) = (bytesN s).drop (i + 1) := by
    simp only [bytesN, ByteArray.data_extract, Array.toList_extract, List.extract_eq_take_drop, List.map_take, List.map_drop]
    rw [List.take_of_length_le]
    simp
  rw [h1, h2]
  simp
theorem bytesN_cut (s : ByteArray) (i : Nat) (hi : i < s.size) : bytesN s = (bytesN s).take i ++ byteAt s i :: (bytesN s).drop (i + 1) := by
  have h := bytesN_take s i hi
  have : bytesN s = (bytesN s).take (i + 1) ++ (bytesN s).drop (i + 1) := (List.take_append_drop _ _).symm
  rw [h] at this
  simpa using this
theorem run_cls (D : Dfa) (s : ByteArray) (i b : Nat) (hi : i < s.size) (hb : b < 256) (h : D.cls.getD b 0 = D.cls.getD (byteAt s i) 0) :
    runD D (bytesN s) = runD D (bytesN (s.extract 0 i ++ ⟨#[UInt8.ofNat b]⟩ ++ s.extract (i + 1) s.size)) := by
  rw [put_byte s i b hi hb]
  conv => lhs; rw [bytesN_cut s i hi]
  unfold runD
  rw [at_app, at_app]
  show tagD D (atD D (goM D _ (byteAt s i)) _) = tagD D (atD D (goM D _ b) _)
  rw [go_cls D _ h]

set_option maxRecDepth 100000 in
set_option maxHeartbeats 4000000 in
theorem classes_skip (a : Option Addr) (len cap : Nat) (zs : List ByteArray) (s : ByteArray) (at_ b : Int) (w : World) (h : StrsAt w a len zs) (hp : PowOk w) (hs : s.size ≤ 140737488351232) (hb0 : 0 ≤ b) (hb1 : b < 256)
    (hc : ¬ Few zs ∨ 40 < s.size ∨ at_ < 0 ∨ (s.size : Int) ≤ at_) :
    Calls Tryd.prog 4 #[.slice a len cap, .string s, .int .i64 at_, .int .u8 b] w fun e w' => e = .returned (.bool true) ∧ Below w.heap.size w w' := by
  have H := Lib.hid h
  have HP := Lib.hid hp
  clear h hp
  by_cases hf : Few zs
  · have HFEW := Lib.hid hf
    replace hc := hc.resolve_left (fun h => h hf)
    clear hf
    by_cases g0 : 40 < s.size
    · have g0' : (40 : Int) < (s.size : Int) := by omega
      clear hc
      go_enter Tryd.func4, Tryd.ntmps4
      go_wp2_with fail
      refine (works5_any _ HP.out).mono ?_
      rintro e w1 ⟨rfl, F1⟩
      have HF := Lib.hid F1
      clear F1
      go_wp2_with fail
      refine (over_no a len cap zs _ (H.out.move HF.out) HFEW.out).mono ?_
      rintro e w2 ⟨rfl, rfl⟩
      go_wp2_with fail
      go_ret
      exact ⟨rfl, HF.out.below⟩
    replace hc := hc.resolve_left g0
    have g0' : (s.size : Int) ≤ 40 := by omega
    clear g0
    by_cases g1 : at_ < 0
    · have g1' : at_ < 0 := by omega
      clear hc
      go_enter Tryd.func4, Tryd.ntmps4
      go_wp2_with fail
      refine (works5_any _ HP.out).mono ?_
      rintro e w1 ⟨rfl, F1⟩
      have HF := Lib.hid F1
      clear F1
      go_wp2_with fail
      refine (over_no a len cap zs _ (H.out.move HF.out) HFEW.out).mono ?_
      rintro e w2 ⟨rfl, rfl⟩
      go_wp2_with fail
      go_ret
      exact ⟨rfl, HF.out.below⟩
    replace hc := hc.resolve_left g1
    have g1' : 0 ≤ at_ := by omega
    clear g1
    have g2' : (s.size : Int) ≤ at_ := by omega
    clear hc
    go_enter Tryd.func4, Tryd.ntmps4
    go_wp2_with fail
    refine (works5_any _ HP.out).mono ?_
    rintro e w1 ⟨rfl, F1⟩
    have HF := Lib.hid F1
    clear F1
    go_wp2_with fail
    refine (over_no a len cap zs _ (H.out.move HF.out) HFEW.out).mono ?_
    rintro e w2 ⟨rfl, rfl⟩
    go_wp2_with fail
    go_ret
    exact ⟨rfl, HF.out.below⟩
  · have HFEW := Lib.hid hf
    clear hc hf
    go_enter Tryd.func4, Tryd.ntmps4
    go_wp2_with fail
    refine (works5_any _ HP.out).mono ?_
    rintro e w1 ⟨rfl, F1⟩
    have HF := Lib.hid F1
    clear F1
    go_wp2_with fail
    refine (over_yes a len cap zs _ (H.out.move HF.out) HFEW.out).mono ?_
    rintro e w2 ⟨rfl, rfl⟩
    go_wp2_with fail
    go_ret
    exact ⟨rfl, HF.out.below⟩

set_option maxRecDepth 100000 in
set_option maxHeartbeats 4000000 in
theorem classes_none (a : Option Addr) (len cap : Nat) (zs : List ByteArray) (s : ByteArray) (i b : Nat) (w : World) (h : StrsAt w a len zs) (hp : PowOk w) (hf : Few zs) (hs : s.size ≤ 40) (hi : i < s.size) (hb : b < 256) (hd : dfaX (parsedM zs) = none) :
    Calls Tryd.prog 4 #[.slice a len cap, .string s, .int .i64 i, .int .u8 b] w fun e w' => e = .returned (.bool true) ∧ Below w.heap.size w w' := by
  have HP := Lib.hid hp
  have H := Lib.hid h
  have HFEW := Lib.hid hf
  have HS4 := Lib.hid (show Rx.sizes (parsedM zs) < 4611686018427387904 by have := parsedM_sizes zs hf.1; omega)
  have h1' : (s.size : Int) ≤ 40 := by omega
  have h2' : (0 : Int) ≤ (i : Int) := by omega
  have h3' : (i : Int) < (s.size : Int) := by omega
  clear h hf hp
  go_enter Tryd.func4, Tryd.ntmps4
  go_wp2_with fail
  refine (works5_any _ HP.out).mono ?_
  rintro e w1 ⟨rfl, F1⟩
  have HF := Lib.hid F1
  clear F1
  go_wp2_with fail
  refine (over_no a len cap zs _ (H.out.move HF.out) HFEW.out).mono ?_
  rintro e w2 ⟨rfl, rfl⟩
  go_wp2_with fail
  refine (parsed_any a len cap zs _ (H.out.move HF.out) HFEW.out).mono ?_
  rintro e w3 ⟨a', cap', rfl, hc', hl', F3⟩
  have HL := Lib.hid hl'
  have HF3 := Lib.hid (HF.out.tr F3)
  clear hl' F3
  go_wp2_with fail
  refine (dbuild_any (parsedM zs) a' cap' _ _ hc' HS4.out HL.out (HP.out.move HF3.out)).mono ?_
  rintro e w4 ⟨hB, F4⟩
  have HF4 := Lib.hid (HF3.out.tr F4)
  clear F4 HL
  rw [hd] at hB
  obtain rfl := hB
  go_wp2_with (refine wpList_store_row rfl 29 _ _ rfl w4.heap.size 29 Tryd.zeroCells29 Tryd.zeroCells29 rfl rfl (alloc_new w4 _) (by rw [zeroD_size]; exact dfa_info) rfl zeroD_one ?_)
  go_quiet (fail)
  go_wp2_with fail
  go_ret
  exact ⟨rfl, ((HF4.out.tr (laid_row w4 _ _ _).1).drewN _).below⟩

set_option maxRecDepth 100000 in
set_option maxHeartbeats 4000000 in
theorem classes_runs (a : Option Addr) (len cap : Nat) (zs : List ByteArray) (s : ByteArray) (i b : Nat) (w : World) (h : StrsAt w a len zs) (hp : PowOk w) (hf : Few zs) (hs : s.size ≤ 40) (hi : i < s.size) (hb : b < 256) (D : Dfa) (hd : dfaX (parsedM zs) = some D) :
    Calls Tryd.prog 4 #[.slice a len cap, .string s, .int .i64 i, .int .u8 b] w fun e w' => e = .returned (.bool true) ∧ Below w.heap.size w w' := by
  have HP := Lib.hid hp
  have H := Lib.hid h
  have HFEW := Lib.hid hf
  have HS4 := Lib.hid (show Rx.sizes (parsedM zs) < 4611686018427387904 by have := parsedM_sizes zs hf.1; omega)
  have h1' : (s.size : Int) ≤ 40 := by omega
  have h2' : (0 : Int) ≤ (i : Int) := by omega
  have h3' : (i : Int) < (s.size : Int) := by omega
  clear h hf hp
  go_enter Tryd.func4, Tryd.ntmps4
  go_wp2_with fail
  refine (works5_any _ HP.out).mono ?_
  rintro e w1 ⟨rfl, F1⟩
  have HF := Lib.hid F1
  clear F1
  go_wp2_with fail
  refine (over_no a len cap zs _ (H.out.move HF.out) HFEW.out).mono ?_
  rintro e w2 ⟨rfl, rfl⟩
  go_wp2_with fail
  refine (parsed_any a len cap zs _ (H.out.move HF.out) HFEW.out).mono ?_
  rintro e w3 ⟨a', cap', rfl, hc', hl', F3⟩
  have HL := Lib.hid hl'
  have HF3 := Lib.hid (HF.out.tr F3)
  clear hl' F3
  go_wp2_with fail
  refine (dbuild_any (parsedM zs) a' cap' _ _ hc' HS4.out HL.out (HP.out.move HF3.out)).mono ?_
  rintro e w4 ⟨hB, F4⟩
  have HF4 := Lib.hid (HF3.out.tr F4)
  clear F4 HL
  rw [hd] at hB
  clear hd
  obtain ⟨v, rfl, hD⟩ := hB
  have HLn := hD.len
  have hbl := byteAt_lt s i
  have hbe := byteAt_eq s i hi
  obtain ⟨nv, tv, rfl, hn, ht⟩ := hD.ex
  have hca := dfaC_cls HLn nv tv hb
  have hcb := dfaC_cls HLn nv tv hbl
  obtain ⟨C, hCv, hz, hone⟩ := hD.cells
  obtain rfl : dfaC D.cls nv tv = C := by injection hCv with hCv; injection hCv
  obtain ⟨C, hC⟩ : ∃ C, dfaC D.cls nv tv = C := ⟨_, rfl⟩
  rw [hC] at hca hcb hz hone hD ⊢
  obtain ⟨x, hx⟩ : ∃ x, D.cls.getD b 0 = x := ⟨_, rfl⟩
  obtain ⟨y, hy⟩ : ∃ y, D.cls.getD (byteAt s i) 0 = y := ⟨_, rfl⟩
  rw [hx] at hca
  rw [hy] at hcb
  have HX := Lib.hid hx
  have HY := Lib.hid hy
  have HDI := Lib.hid hD
  have LF := Lib.hid (laid_row w4 Tryd.zeroCells29 29 C.toArray).1
  have LB := Lib.hid (laid_row w4 Tryd.zeroCells29 29 C.toArray).2
  have f1 : ((w4.alloc (.cells Tryd.zeroCells29 29)).setRow w4.heap.size C.toArray).cell? ⟨w4.heap.size, b, none⟩ = some (.int .i64 x) := cell_of_block LB.out (by simpa using hca)
  have f2 : ((w4.alloc (.cells Tryd.zeroCells29 29)).setRow w4.heap.size C.toArray).cell? ⟨w4.heap.size, byteAt s i, none⟩ = some (.int .i64 y) := cell_of_block LB.out (by simpa using hcb)
  have hb0 : (0 : Int) ≤ (b : Int) := by omega
  have hb1 : (b : Int) < 256 := by omega
  have hc0 : (0 : Int) ≤ (byteAt s i : Int) := by omega
  have hc1 : (byteAt s i : Int) < 256 := by omega
  clear hD hn ht hx hy hC hCv
  by_cases hxy : x = y
  case neg =>
    go_wp2_with (refine wpList_store_row rfl 29 _ _ rfl w4.heap.size 29 Tryd.zeroCells29 C.toArray rfl rfl (alloc_new w4 _) (by rw [List.size_toArray, hz]; exact dfa_info) (by rw [zeroD_size, List.size_toArray, hz]) hone ?_)
    go_quiet (fail)
    go_wp2_with fail
    go_ret
    exact ⟨rfl, ((HF4.out.tr LF.out).drewN _).below⟩
  case pos =>
    subst hxy
    go_wp2_with (refine wpList_store_row rfl 29 _ _ rfl w4.heap.size 29 Tryd.zeroCells29 C.toArray rfl rfl (alloc_new w4 _) (by rw [List.size_toArray, hz]; exact dfa_info) (by rw [zeroD_size, List.size_toArray, hz]) hone ?_)
    go_quiet (fail)
    have F5 := Lib.hid ((HF4.out.tr LF.out).drewN nq)
    have HD5 := Lib.hid (HDI.out.move (LF.out.drewN nq))
    have B5 := Lib.hid (((Fr.refl none_ _).drewN nq).at_ LB.out (fun h => h))
    generalize hwf : ((w4.alloc (.cells Tryd.zeroCells29 29)).setRow w4.heap.size C.toArray).drewN nq = w5 at *
    have HT := Lib.hid (run_cls D s i b hi hb (by rw [HX.out, HY.out]))
    have kb : (convert 40 9 (.slice (some ⟨w5.heap.size, 0, none⟩) 1 1)).run Tryd.prog (w5.alloc (.cells #[.int .u8 (b : Int)] 5)).drew = .ok (.string ⟨#[UInt8.ofNat b]⟩) (w5.alloc (.cells #[.int .u8 (b : Int)] 5)).drew := conv_byte b hb w5.drew
    have hi' : i ≤ s.size := by omega
    have hi2 : i + 1 ≤ s.size := by omega
    have s1 : (s.extract 0 i).size = i := by simp; omega
    have s2 : (s.extract (i + 1) s.size).size = s.size - (i + 1) := by simp
    have q1 : (s.extract 0 i).size + 1 ≤ 9223372036854775807 := by omega
    have q2 : (s.extract 0 i).size + 1 + (s.extract (i + 1) s.size).size ≤ 9223372036854775807 := by omega
    clear f1 f2 hwf LF LB HDI
    go_wp2_with fail
    go_region
    have F6 := Lib.hid ((F5.out.alloc (.cells #[.int .u8 (b : Int)] 5)).drew)
    have HD6 := Lib.hid (HD5.out.move (((Fr.refl none_ w5).alloc (.cells #[.int .u8 (b : Int)] 5)).drew))
    have B6 := Lib.hid ((((Fr.refl none_ w5).alloc (.cells #[.int .u8 (b : Int)] 5)).drew).at_ B5.out (fun h => h))
    obtain ⟨T, hT⟩ : ∃ T, s.extract 0 i ++ (⟨#[UInt8.ofNat b]⟩ : ByteArray) ++ s.extract (i + 1) s.size = T := ⟨_, rfl⟩
    have hTz : T.size < 4611686018427387904 := by
      rw [← hT, ByteArray.size_append, ByteArray.size_append, s1, s2]
      show i + 1 + _ < _
      omega
    rw [hT]
    rw [hT] at HT
    generalize hwg : (w5.alloc (.cells #[.int .u8 (b : Int)] 5)).drew = w6 at *
    clear hwg hT s1 s2 q1 q2 kb HD5 B5 F5
    go_wp2_with fail
    refine wp_region_held_drew (S := fun w' => w'.rangeAt w4.heap.size 0 C) (by kernel_rfl) (range_of ((Fr.refl none_ w6).drew.at_ B6.out (fun h => h))) (fun hHeld => ?_)
    refine wpAnyH_take (i := 0) (v := ?_) lot0 (by kernel_rfl) (by kernel_rfl) (by kernel_rfl) (fun _ _ _ h => h) (Or.inl ⟨by rfl, ?_⟩) (by assumption) ?_
    rotate_left
    · (intro w hSw; (try dsimp only at hSw); go_simp) <;> with_reducible rfl
    try simp only [Act.put, List.setIfInBounds_toArray, List.set_cons_zero, List.set_cons_succ]
    refine wpAnyH_take (i := 1) (v := ?_) lot1 (by kernel_rfl) (by kernel_rfl) (by kernel_rfl) (fun _ _ _ h => h) (Or.inl ⟨by rfl, ?_⟩) (by assumption) ?_
    rotate_left
    · (intro w hSw; (try dsimp only at hSw); go_simp) <;> with_reducible rfl
    try simp only [Act.put, List.setIfInBounds_toArray, List.set_cons_zero, List.set_cons_succ]
    refine wpAnyH_take (i := 2) lot2 (by kernel_rfl) (by kernel_rfl) (by kernel_rfl) (fun _ _ _ h => h) (yieldsIf_load_mid (by rfl) _ _ rfl _ _ rfl C _ (fun _ h => h) Tryd.underlying29 rfl (by rw [hz]; exact dfa_info)) (by assumption) ?_
    try simp only [Act.put, List.setIfInBounds_toArray, List.set_cons_zero, List.set_cons_succ]
    refine wpAnyH_take (i := 3) (v := ?_) lot3 (by kernel_rfl) (by kernel_rfl) (by kernel_rfl) (fun _ _ _ h => h) (Or.inl ⟨by rfl, ?_⟩) (by assumption) ?_
    rotate_left
    · (intro w hSw; (try dsimp only at hSw); go_simp) <;> with_reducible rfl
    try simp only [Act.put, List.setIfInBounds_toArray, List.set_cons_zero, List.set_cons_succ]
    refine wpAnyH_take (i := 5) lot5 (by kernel_rfl) (by kernel_rfl) (by kernel_rfl) (fun _ _ _ h => h) (yieldsIf_load_mid (by rfl) _ _ rfl _ _ rfl C _ (fun _ h => h) Tryd.underlying29 rfl (by rw [hz]; exact dfa_info)) (by assumption) ?_
    try simp only [Act.put, List.setIfInBounds_toArray, List.set_cons_zero, List.set_cons_succ]
    refine wpAnyH_take (i := 6) (v := ?_) lot6 (by kernel_rfl) (by kernel_rfl) (by kernel_rfl) (fun _ _ _ h => h) (Or.inl ⟨by rfl, ?_⟩) (by assumption) ?_
    rotate_left
    · (intro w hSw; (try dsimp only at hSw); go_simp) <;> with_reducible rfl
    try simp only [Act.put, List.setIfInBounds_toArray, List.set_cons_zero, List.set_cons_succ]
    refine wpAnyH_ready (rs := [4]) (by kernel_rfl) (by simp) ?_
    refine AllReadyH.cons lot4 (fun K hK => ?_) AllReadyH.nil
    go_simp
    go_at_call 14
    refine (drun_any D _ s _ (HD6.out.move (Fr.refl none_ w6).drew) (by omega)).mono ?_
    rintro e w7 ⟨rfl, Fw7⟩
    rw [HT.out]
    have Gw7 := Lib.hid (((Fr.refl none_ w6).drew).tr Fw7)
    clear Fw7
    refine hK.out _ _ (range_of (Gw7.out.at_ B6.out (fun h => h))) (fun hHeld => ?_)
    clear hK K
    try simp only [Act.put, List.setIfInBounds_toArray, List.set_cons_zero, List.set_cons_succ]
    refine wpAnyH_ready (rs := [7]) (by kernel_rfl) (by simp) ?_
    refine AllReadyH.cons lot7 (fun K hK => ?_) AllReadyH.nil
    go_simp
    go_at_call 14
    refine (drun_any D _ T _ (HD6.out.move Gw7.out) (by omega)).mono ?_
    rintro e w8 ⟨rfl, Fw8⟩
    skip
    have Gw8 := Lib.hid ((Gw7.out).tr Fw8)
    clear Fw8
    refine hK.out _ _ (range_of (Gw8.out.at_ B6.out (fun h => h))) (fun hHeld => ?_)
    clear hK K
    try simp only [Act.put, List.setIfInBounds_toArray, List.set_cons_zero, List.set_cons_succ]
    refine wpAnyH_take (i := 8) (v := ?_) lot8 (by kernel_rfl) (by kernel_rfl) (by kernel_rfl) (fun _ _ _ h => h) (Or.inl ⟨by rfl, ?_⟩) (by assumption) ?_
    rotate_left
    · (intro w hSw; (try dsimp only at hSw); go_simp) <;> with_reducible rfl
    try simp only [Act.put, List.setIfInBounds_toArray, List.set_cons_zero, List.set_cons_succ]
    refine wpAnyH_take (i := 9) (v := ?_) lot9 (by kernel_rfl) (by kernel_rfl) (by kernel_rfl) (fun _ _ _ h => h) (Or.inl ⟨by rfl, ?_⟩) (by assumption) ?_
    rotate_left
    · (intro w hSw; (try dsimp only at hSw); go_simp) <;> with_reducible rfl
    try simp only [Act.put, List.setIfInBounds_toArray, List.set_cons_zero, List.set_cons_succ]
    refine wpAnyH_take (i := 10) (v := ?_) lot10 (by kernel_rfl) (by kernel_rfl) (by kernel_rfl) (fun _ _ _ h => h) (Or.inl ⟨by rfl, ?_⟩) (by assumption) ?_
    rotate_left
    · (intro w hSw; (try dsimp only at hSw); go_simp) <;> with_reducible rfl
    try simp only [Act.put, List.setIfInBounds_toArray, List.set_cons_zero, List.set_cons_succ]
    refine wpAnyH_done (by kernel_rfl) ?_ _
    go_wp2_with fail
    go_ret
    exact ⟨rfl, (F6.out.tr Gw8.out).below⟩
theorem classes_any_law (a : Option Addr) (len cap : Nat) (zs : List ByteArray) (s : ByteArray) (at_ b : Int) (w : World) (h : StrsAt w a len zs) (hs : s.size ≤ 140737488351232) (hb : 0 ≤ b ∧ b < 256) (hp : PowOk w) :
    Calls Tryd.prog 4 #[.slice a len cap, .string s, .int .i64 at_, .int .u8 b] w fun e w' => e = .returned (.bool true) ∧ Below w.heap.size w w' := by
  by_cases hf : Few zs ∧ s.size ≤ 40 ∧ 0 ≤ at_ ∧ at_ < (s.size : Int)
  · obtain ⟨hf, h1, h2, h3⟩ := hf
    obtain ⟨i, rfl⟩ := Int.eq_ofNat_of_zero_le h2
    obtain ⟨c, rfl⟩ := Int.eq_ofNat_of_zero_le hb.1
    cases hd : dfaX (parsedM zs) with
    | none => exact classes_none a len cap zs s i c w h hp hf h1 (by omega) (by omega) hd
    | some D => exact classes_runs a len cap zs s i c w h hp hf h1 (by omega) (by omega) D hd
  · refine classes_skip a len cap zs s at_ b w h hp hs hb.1 hb.2 ?_
    by_cases h1 : Few zs
    · by_cases h2 : s.size ≤ 40
      · by_cases h3 : 0 ≤ at_
        · exact .inr (.inr (.inr (Int.not_lt.1 fun h4 => hf ⟨h1, h2, h3, h4⟩)))
        · exact .inr (.inr (.inl (by omega)))
      · exact .inr (.inl (by omega))
    · exact .inl h1
end Go.Proofs.YtglflmkkecephaaDoor
