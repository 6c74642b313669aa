/-
  The law RegexRange: a range has just the bytes from the one to the other; one that is turned round is none; with a sign ahead just the others.
-/
import Derived.Test.YtgpmbkgedhcbjaaRk
import Derived.Laws.IdiomStrings
namespace Go.Proofs.Ytgpmbkgedhcbjaa
open Go.RowKit

theorem conv_one (x : Nat) (hx : x < 256) (w : World) :
    (convert 59 9 (.slice (some ⟨w.heap.size, 0, none⟩) 1 1)).run Try.prog (w.alloc (.cells #[.int .u8 (x : Int)] 5)) = .ok (.string ⟨#[UInt8.ofNat x]⟩) (w.alloc (.cells #[.int .u8 (x : Int)] 5)) := by
  have h := run_convert_bytes_back (P := Try.prog) (w.alloc (.cells #[.int .u8 (x : Int)] 5)) 59 9 5 ⟨w.heap.size, 0, none⟩ 1 [UInt8.ofNat x] Try.underlying59 Try.underlying5 Try.underlying9 (fun j hj => by
    obtain rfl : j = 0 := by simpa using hj
    have e : (UInt8.ofNat x).toNat = x := by simp; omega
    show (w.alloc (.cells #[.int .u8 (x : Int)] 5)).cell? ⟨w.heap.size, 0, none⟩ = some (.int .u8 ((UInt8.ofNat x).toNat : Int))
    rw [e, Lib.cell_of_heap (alloc_new w (.cells #[.int .u8 (x : Int)] 5))]
    rfl)
  exact h
theorem conv_92 (w : World) :
    (convert 59 9 (.slice (some ⟨w.heap.size, 0, none⟩) 1 1)).run Try.prog (w.alloc (.cells #[.int .u8 92] 5)) = .ok (.string ⟨#[92]⟩) (w.alloc (.cells #[.int .u8 92] 5)) := conv_one 92 (by decide) w
theorem hexd_at {i : Nat} (h : i < 16) : (⟨#[48, 49, 50, 51, 52, 53, 54, 55, 56, 57, 97, 98, 99, 100, 101, 102]⟩ : ByteArray).extract i (i + 1) = bstr [hexB i] := by
  have : ∀ i : Fin 16, (⟨#[48, 49, 50, 51, 52, 53, 54, 55, 56, 57, 97, 98, 99, 100, 101, 102]⟩ : ByteArray).extract i.val (i.val + 1) = bstr [hexB i.val] := by decide
  exact this ⟨i, h⟩
theorem range_text {lo hi : Nat} (h1 : lo < 256) (h2 : hi < 256) : ((⟨#[92]⟩ : ByteArray) ++ ⟨#[120]⟩) ++ (⟨#[48, 49, 50, 51, 52, 53, 54, 55, 56, 57, 97, 98, 99, 100, 101, 102]⟩ : ByteArray).extract (lo / 16) (lo / 16 + 1) ++ (⟨#[48, 49, 50, 51, 52, 53, 54, 55, 56, 57, 97, 98, 99, 100, 101, 102]⟩ : ByteArray).extract (lo % 16) (lo % 16 + 1) ++ ⟨#[45]⟩ ++ ((⟨#[92]⟩ : ByteArray) ++ ⟨#[120]⟩) ++ (⟨#[48, 49, 50, 51, 52, 53, 54, 55, 56, 57, 97, 98, 99, 100, 101, 102]⟩ : ByteArray).extract (hi / 16) (hi / 16 + 1) ++ (⟨#[48, 49, 50, 51, 52, 53, 54, 55, 56, 57, 97, 98, 99, 100, 101, 102]⟩ : ByteArray).extract (hi % 16) (hi % 16 + 1) = bstr (rangeT lo hi) := by
  rw [hexd_at (show lo / 16 < 16 by omega), hexd_at (show lo % 16 < 16 by omega), hexd_at (show hi / 16 < 16 by omega), hexd_at (show hi % 16 < 16 by omega)]
  show (bstr [92] ++ bstr [120]) ++ bstr [hexB (lo / 16)] ++ bstr [hexB (lo % 16)] ++ bstr [45] ++ (bstr [92] ++ bstr [120]) ++ bstr [hexB (hi / 16)] ++ bstr [hexB (hi % 16)] = _
  simp only [bstr_append]
  rfl
theorem match_byte (x : Bs) {b : Nat} (hb : b < 256) : matchP x.rx ⟨#[UInt8.ofNat b]⟩ = x.rx.has b := by
  have e : bytesN ⟨#[UInt8.ofNat b]⟩ = [b] := by
    show [(UInt8.ofNat b).toNat] = [b]
    congr 1
    simp; omega
  rw [Bool.eq_iff_iff, matchP_true, e, has_lang1]

set_option maxRecDepth 100000 in
set_option maxHeartbeats 4000000 in
theorem range_near (lo hi b : Nat) (w : World) (h1 : lo < 256) (h2 : hi < 256) (h3 : b < 256) :
    Calls Try.prog 10 #[.int .u8 lo, .int .u8 hi, .int .u8 b] w fun e w' => e = .returned (.bool true) ∧ Below w.heap.size w w' := by
  have q1 : (lo : Int) < 256 := by omega
  have q2 : (hi : Int) < 256 := by omega
  have q3 : (b : Int) < 256 := by omega
  have k92 := conv_92
  have HD := Lib.hid (range_text h1 h2)
  go_enter Try.func10, Try.ntmps10
  go_wp2_with fail
  refine (works3_any _).mono ?_
  rintro e w0 ⟨rfl, F0⟩
  have HF0 := Lib.hid F0
  clear F0
  go_wp2_with fail
  have HF1 := Lib.hid (HF0.out.alloc (.cells #[.int .u8 92] 5))
  go_quiet (fail)
  obtain ⟨D, hD⟩ : ∃ D, ((⟨#[92]⟩ : ByteArray) ++ ⟨#[120]⟩) ++ (⟨#[48, 49, 50, 51, 52, 53, 54, 55, 56, 57, 97, 98, 99, 100, 101, 102]⟩ : ByteArray).extract (lo / 16) (lo / 16 + 1) ++ (⟨#[48, 49, 50, 51, 52, 53, 54, 55, 56, 57, 97, 98, 99, 100, 101, 102]⟩ : ByteArray).extract (lo % 16) (lo % 16 + 1) ++ ⟨#[45]⟩ ++ ((⟨#[92]⟩ : ByteArray) ++ ⟨#[120]⟩) ++ (⟨#[48, 49, 50, 51, 52, 53, 54, 55, 56, 57, 97, 98, 99, 100, 101, 102]⟩ : ByteArray).extract (hi / 16) (hi / 16 + 1) ++ (⟨#[48, 49, 50, 51, 52, 53, 54, 55, 56, 57, 97, 98, 99, 100, 101, 102]⟩ : ByteArray).extract (hi % 16) (hi % 16 + 1) = D := ⟨_, rfl⟩
  rw [hD] at HD ⊢
  have hds : D.size = 9 := by rw [HD.out]; rfl
  clear hD k92
  have HT0 := Lib.hid (show ((⟨#[91]⟩ : ByteArray) ++ D ++ ⟨#[93]⟩).size = 1 + D.size + 1 by simp only [ByteArray.size_append]; rfl)
  have HT1 := Lib.hid (show ((⟨#[91, 94]⟩ : ByteArray) ++ D ++ ⟨#[93]⟩).size = 2 + D.size + 1 by simp only [ByteArray.size_append]; rfl)
  have s1 : 1 + D.size ≤ 9223372036854775807 := by omega
  have s2 : 1 + D.size + 1 ≤ 9223372036854775807 := by omega
  have s3 : 2 + D.size ≤ 9223372036854775807 := by omega
  have s4 : 2 + D.size + 1 ≤ 9223372036854775807 := by omega
  go_wp2_with fail
  obtain ⟨t0, ht0⟩ : ∃ t, (⟨#[91]⟩ : ByteArray) ++ D ++ ⟨#[93]⟩ = t := ⟨_, rfl⟩
  have hz0 : t0.size < 9223372036854775808 := by rw [← ht0, HT0.out]; omega
  rw [ht0]
  have HX0 := Lib.hid ht0
  clear ht0 HT0
  refine (parse_un t0 hz0 _).mono ?_
  rintro e w1 ⟨v0, rfl, hv, Fi⟩
  obtain ⟨r0, hr0⟩ : ∃ r, parseR t0 = r := ⟨_, rfl⟩
  rw [hr0] at hv
  obtain ⟨k0, b00, b01, b02, b03, ks0⟩ := r0
  have HR0 := Lib.hid hr0
  obtain ⟨a0, c0, rfl, hc0, hl⟩ := hv.open_
  have HL0 := Lib.hid hl
  obtain ⟨n0, hn0⟩ : ∃ n, parseN t0 = n := ⟨_, rfl⟩
  rw [hn0]
  have HN0 := Lib.hid hn0
  have FS0 := Lib.hid (Fi.alloc (.cells #[.int .i64 k0, .int .u64 b00, .int .u64 b01, .int .u64 b02, .int .u64 b03, .slice a0 ks0.length c0] 28))
  have NB0 := Lib.hid (alloc_new w1 (.cells #[.int .i64 k0, .int .u64 b00, .int .u64 b01, .int .u64 b02, .int .u64 b03, .slice a0 ks0.length c0] 28))
  have HA0 := Lib.hid ((Fr.refl none_ w1).alloc (.cells #[.int .i64 k0, .int .u64 b00, .int .u64 b01, .int .u64 b02, .int .u64 b03, .slice a0 ks0.length c0] 28))
  clear hv hl Fi hr0 hn0
  go_wp2_with fail
  obtain ⟨t1, ht1⟩ : ∃ t, (⟨#[91, 94]⟩ : ByteArray) ++ D ++ ⟨#[93]⟩ = t := ⟨_, rfl⟩
  have hz1 : t1.size < 9223372036854775808 := by rw [← ht1, HT1.out]; omega
  rw [ht1]
  have HX1 := Lib.hid ht1
  clear ht1 HT1
  refine (parse_un t1 hz1 _).mono ?_
  rintro e w2 ⟨v1, rfl, hv, Fi⟩
  obtain ⟨r1, hr1⟩ : ∃ r, parseR t1 = r := ⟨_, rfl⟩
  rw [hr1] at hv
  obtain ⟨k1, b10, b11, b12, b13, ks1⟩ := r1
  have HR1 := Lib.hid hr1
  obtain ⟨a1, c1, rfl, hc1, hl⟩ := hv.open_
  have HL1 := Lib.hid hl
  obtain ⟨n1, hn1⟩ : ∃ n, parseN t1 = n := ⟨_, rfl⟩
  rw [hn1]
  have HN1 := Lib.hid hn1
  have FS1 := Lib.hid (Fi.alloc (.cells #[.int .i64 k1, .int .u64 b10, .int .u64 b11, .int .u64 b12, .int .u64 b13, .slice a1 ks1.length c1] 28))
  have NB1 := Lib.hid (alloc_new w2 (.cells #[.int .i64 k1, .int .u64 b10, .int .u64 b11, .int .u64 b12, .int .u64 b13, .slice a1 ks1.length c1] 28))
  have HA1 := Lib.hid ((Fr.refl none_ w2).alloc (.cells #[.int .i64 k1, .int .u64 b10, .int .u64 b11, .int .u64 b12, .int .u64 b13, .slice a1 ks1.length c1] 28))
  clear hv hl Fi hr1 hn1
  have P0 := Lib.hid (range_read false (lo := lo) (hi := hi) h1 h2)
  have P1 := Lib.hid (range_read true (lo := lo) (hi := hi) h1 h2)
  have U0 := Lib.hid (show t0 = bstr ((if false then [91, 94] else [91]) ++ rangeT lo hi ++ [93]) by rw [← HX0.out, HD.out]; show bstr [91] ++ bstr (rangeT lo hi) ++ bstr [93] = _; simp only [bstr_append]; rfl)
  have U1 := Lib.hid (show t1 = bstr ((if true then [91, 94] else [91]) ++ rangeT lo hi ++ [93]) by rw [← HX1.out, HD.out]; show bstr [91, 94] ++ bstr (rangeT lo hi) ++ bstr [93] = _; simp only [bstr_append]; rfl)
  have Q0 := P0.out
  have Q1 := P1.out
  rw [← U0.out] at Q0
  rw [← U1.out] at Q1
  clear P0 P1 U0 U1 s1 s2 s3 s4 hz0 hz1 HX0 HX1 hds
  have G := Lib.hid ((HF1.out.drewN _).tr (FS0.out.tr FS1.out))
  by_cases hlt : hi < lo
  · rw [if_pos hlt] at Q0 Q1
    have y0 : n0 = 5 := by rw [← HN0.out]; exact parseN_err Q0
    have y1 : n1 = 5 := by rw [← HN1.out]; exact parseN_err Q1
    subst y0 y1
    clear Q0 Q1
    have hlt' : (hi : Int) < (lo : Int) := by omega
    go_wp2_with fail
    go_ret
    exact ⟨rfl, G.out.below⟩
  · rw [if_neg hlt] at Q0 Q1
    have y0 : n0 = 0 := by rw [← HN0.out, parseN, Q0]
    have y1 : n1 = 0 := by rw [← HN1.out, parseN, Q1]
    have x0 : Rx.mk k0 b00 b01 b02 b03 ks0 = (Bs.zero.addN lo (hi + 1 - lo)).rx := by rw [← HR0.out, parseR, Q0]; rfl
    have x1 : Rx.mk k1 b10 b11 b12 b13 ks1 = (Bs.zero.addN lo (hi + 1 - lo)).others.rx := by rw [← HR1.out, parseR, Q1]; rfl
    have hz : Bs.zero.rx.has b = false := by simp [Bs.zero, Bs.rx, Rx.has]; split <;> simp
    have hb0 : Rx.has (.mk k0 b00 b01 b02 b03 ks0) b = (decide (lo ≤ b) && decide (b ≤ hi)) := by
      rw [x0, addN_has h3 _ _ _ (by omega), hz, Bool.false_or, Bool.eq_iff_iff]
      simp; omega
    have hb1 : Rx.has (.mk k1 b10 b11 b12 b13 ks1) b = !(decide (lo ≤ b) && decide (b ≤ hi)) := by
      rw [x1, others_has _ ((Bs.Ok.zero).addN _ _) h3, ← x0, hb0]
    have mb : matchP (.mk k0 b00 b01 b02 b03 ks0) ⟨#[UInt8.ofNat b]⟩ = (decide (lo ≤ b) && decide (b ≤ hi)) := by
      rw [← hb0, x0, match_byte _ h3]
    subst y0 y1
    clear Q0 Q1 x0 x1 hz HN0 HN1
    have hlt' : (lo : Int) ≤ (hi : Int) := by omega
    have T1 := Lib.hid HA1.out
    have T0 := Lib.hid (HA0.out.tr FS1.out)
    have C1 := Lib.hid NB1.out
    have C0 := Lib.hid (FS1.out.at_ NB0.out (fun h => h))
    have X0 := Lib.hid (Fr.refl none_ (w2.alloc (.cells #[.int .i64 k1, .int .u64 b10, .int .u64 b11, .int .u64 b12, .int .u64 b13, .slice a1 ks1.length c1] 28)))
    clear HA0 HA1 NB0 NB1 FS0 FS1 HF0 HF1 hlt
    by_cases p : lo ≤ b
    · by_cases q : b ≤ hi
      · have HB0 := Lib.hid (show Rx.has (.mk k0 b00 b01 b02 b03 ks0) b = true by rw [hb0]; simp [p, q])
        have HB1 := Lib.hid (show Rx.has (.mk k1 b10 b11 b12 b13 ks1) b = false by rw [hb1]; simp [p, q])
        have MB := Lib.hid (show matchP (.mk k0 b00 b01 b02 b03 ks0) ⟨#[UInt8.ofNat b]⟩ = true by rw [mb]; simp [p, q])
        have p' : (lo : Int) ≤ (b : Int) := by omega
        have q' : (b : Int) ≤ (hi : Int) := by omega
        clear hb0 hb1 mb
        obtain ⟨z00, z01, z02, z03, z04, z05⟩ := six C0.out
        go_wp2_with fail
        refine (rhas_any (.mk k0 b00 b01 b02 b03 ks0) b _ (fun _ => True) _ (RxV.mk_ hc0 (RxL.move (fun i _ hlt => (T0.out.tr X0.out).block i hlt (fun h => h)) _ _ _ HL0.out)) h3).mono ?_
        rintro e u0 ⟨rfl, Fu⟩
        have X1 := Lib.hid (X0.out.tr Fu)
        rw [HB0.out]
        clear Fu z00 z01 z02 z03 z04 z05
        obtain ⟨z10, z11, z12, z13, z14, z15⟩ := six (X1.out.at_ C1.out (fun h => h))
        go_wp2_with fail
        refine (rhas_any (.mk k1 b10 b11 b12 b13 ks1) b _ (fun _ => True) _ (RxV.mk_ hc1 (RxL.move (fun i _ hlt => (T1.out.tr X1.out).block i hlt (fun h => h)) _ _ _ HL1.out)) h3).mono ?_
        rintro e u1 ⟨rfl, Fu⟩
        have X2 := Lib.hid (X1.out.tr Fu)
        rw [HB1.out]
        clear Fu z10 z11 z12 z13 z14 z15
        obtain ⟨z00, z01, z02, z03, z04, z05⟩ := six (X2.out.at_ C0.out (fun h => h))
        have kb := conv_one b h3
        go_wp2_with fail
        have X3 := Lib.hid (X2.out.alloc (.cells #[.int .u8 (b : Int)] 5))
        refine (match_any (.mk k0 b00 b01 b02 b03 ks0) ⟨#[UInt8.ofNat b]⟩ _ (fun _ => True) _ (show 1 ≤ 1000 by omega) (by have := parseR_size t0; rw [HR0.out] at this; omega) (RxV.mk_ hc0 (RxL.move (fun i _ hlt => (T0.out.tr X3.out).block i hlt (fun h => h)) _ _ _ HL0.out))).mono ?_
        rintro e u2 ⟨rfl, Fu⟩
        have X4 := Lib.hid (X3.out.tr Fu)
        rw [MB.out]
        clear Fu z00 z01 z02 z03 z04 z05 kb
        go_wp2_with fail
        go_ret
        exact ⟨rfl, (G.out.tr X4.out).below⟩
      · have HB0 := Lib.hid (show Rx.has (.mk k0 b00 b01 b02 b03 ks0) b = false by rw [hb0]; simp [q])
        have HB1 := Lib.hid (show Rx.has (.mk k1 b10 b11 b12 b13 ks1) b = true by rw [hb1]; simp [q])
        have MB := Lib.hid (show matchP (.mk k0 b00 b01 b02 b03 ks0) ⟨#[UInt8.ofNat b]⟩ = false by rw [mb]; simp [q])
        have p' : (lo : Int) ≤ (b : Int) := by omega
        have q' : (hi : Int) < (b : Int) := by omega
        clear hb0 hb1 mb
        obtain ⟨z00, z01, z02, z03, z04, z05⟩ := six C0.out
        go_wp2_with fail
        refine (rhas_any (.mk k0 b00 b01 b02 b03 ks0) b _ (fun _ => True) _ (RxV.mk_ hc0 (RxL.move (fun i _ hlt => (T0.out.tr X0.out).block i hlt (fun h => h)) _ _ _ HL0.out)) h3).mono ?_
        rintro e u0 ⟨rfl, Fu⟩
        have X1 := Lib.hid (X0.out.tr Fu)
        rw [HB0.out]
        clear Fu z00 z01 z02 z03 z04 z05
        obtain ⟨z10, z11, z12, z13, z14, z15⟩ := six (X1.out.at_ C1.out (fun h => h))
        go_wp2_with fail
        refine (rhas_any (.mk k1 b10 b11 b12 b13 ks1) b _ (fun _ => True) _ (RxV.mk_ hc1 (RxL.move (fun i _ hlt => (T1.out.tr X1.out).block i hlt (fun h => h)) _ _ _ HL1.out)) h3).mono ?_
        rintro e u1 ⟨rfl, Fu⟩
        have X2 := Lib.hid (X1.out.tr Fu)
        rw [HB1.out]
        clear Fu z10 z11 z12 z13 z14 z15
        obtain ⟨z00, z01, z02, z03, z04, z05⟩ := six (X2.out.at_ C0.out (fun h => h))
        have kb := conv_one b h3
        go_wp2_with fail
        have X3 := Lib.hid (X2.out.alloc (.cells #[.int .u8 (b : Int)] 5))
        refine (match_any (.mk k0 b00 b01 b02 b03 ks0) ⟨#[UInt8.ofNat b]⟩ _ (fun _ => True) _ (show 1 ≤ 1000 by omega) (by have := parseR_size t0; rw [HR0.out] at this; omega) (RxV.mk_ hc0 (RxL.move (fun i _ hlt => (T0.out.tr X3.out).block i hlt (fun h => h)) _ _ _ HL0.out))).mono ?_
        rintro e u2 ⟨rfl, Fu⟩
        have X4 := Lib.hid (X3.out.tr Fu)
        rw [MB.out]
        clear Fu z00 z01 z02 z03 z04 z05 kb
        go_wp2_with fail
        go_ret
        exact ⟨rfl, (G.out.tr X4.out).below⟩
    · have HB0 := Lib.hid (show Rx.has (.mk k0 b00 b01 b02 b03 ks0) b = false by rw [hb0]; simp [p])
      have HB1 := Lib.hid (show Rx.has (.mk k1 b10 b11 b12 b13 ks1) b = true by rw [hb1]; simp [p])
      have MB := Lib.hid (show matchP (.mk k0 b00 b01 b02 b03 ks0) ⟨#[UInt8.ofNat b]⟩ = false by rw [mb]; simp [p])
      have p' : (b : Int) < (lo : Int) := by omega
      clear hb0 hb1 mb
      obtain ⟨z00, z01, z02, z03, z04, z05⟩ := six C0.out
      go_wp2_with fail
      refine (rhas_any (.mk k0 b00 b01 b02 b03 ks0) b _ (fun _ => True) _ (RxV.mk_ hc0 (RxL.move (fun i _ hlt => (T0.out.tr X0.out).block i hlt (fun h => h)) _ _ _ HL0.out)) h3).mono ?_
      rintro e u0 ⟨rfl, Fu⟩
      have X1 := Lib.hid (X0.out.tr Fu)
      rw [HB0.out]
      clear Fu z00 z01 z02 z03 z04 z05
      obtain ⟨z10, z11, z12, z13, z14, z15⟩ := six (X1.out.at_ C1.out (fun h => h))
      go_wp2_with fail
      refine (rhas_any (.mk k1 b10 b11 b12 b13 ks1) b _ (fun _ => True) _ (RxV.mk_ hc1 (RxL.move (fun i _ hlt => (T1.out.tr X1.out).block i hlt (fun h => h)) _ _ _ HL1.out)) h3).mono ?_
      rintro e u1 ⟨rfl, Fu⟩
      have X2 := Lib.hid (X1.out.tr Fu)
      rw [HB1.out]
      clear Fu z10 z11 z12 z13 z14 z15
      obtain ⟨z00, z01, z02, z03, z04, z05⟩ := six (X2.out.at_ C0.out (fun h => h))
      have kb := conv_one b h3
      go_wp2_with fail
      have X3 := Lib.hid (X2.out.alloc (.cells #[.int .u8 (b : Int)] 5))
      refine (match_any (.mk k0 b00 b01 b02 b03 ks0) ⟨#[UInt8.ofNat b]⟩ _ (fun _ => True) _ (show 1 ≤ 1000 by omega) (by have := parseR_size t0; rw [HR0.out] at this; omega) (RxV.mk_ hc0 (RxL.move (fun i _ hlt => (T0.out.tr X3.out).block i hlt (fun h => h)) _ _ _ HL0.out))).mono ?_
      rintro e u2 ⟨rfl, Fu⟩
      have X4 := Lib.hid (X3.out.tr Fu)
      rw [MB.out]
      clear Fu z00 z01 z02 z03 z04 z05 kb
      go_wp2_with fail
      go_ret
      exact ⟨rfl, (G.out.tr X4.out).below⟩

theorem regexRange_any (lo hi b : Int) (w : World) (h1 : 0 ≤ lo ∧ lo < 256) (h2 : 0 ≤ hi ∧ hi < 256) (h3 : 0 ≤ b ∧ b < 256) :
    Calls Try.prog 10 #[.int .u8 lo, .int .u8 hi, .int .u8 b] w fun e w' => e = .returned (.bool true) ∧ Below w.heap.size w w' := by
  obtain ⟨lo, rfl⟩ := Int.eq_ofNat_of_zero_le h1.1
  obtain ⟨hi, rfl⟩ := Int.eq_ofNat_of_zero_le h2.1
  obtain ⟨b, rfl⟩ := Int.eq_ofNat_of_zero_le h3.1
  exact range_near lo hi b w (by omega) (by omega) (by omega)

end Go.Proofs.Ytgpmbkgedhcbjaa
