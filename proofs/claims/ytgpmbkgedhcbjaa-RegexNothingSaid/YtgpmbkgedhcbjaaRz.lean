/-
  The law RegexNothing: what matches nothing adds nothing to another way.
-/
import Derived.Test.YtgpmbkgedhcbjaaRg
namespace Go.Proofs.Ytgpmbkgedhcbjaa
open Go.RowKit

theorem nothing_1 {a : ByteArray} {r : Rx} (h : a.size ≤ 15) (hp : parseM a = .ok r) : parseM ((⟨#[40]⟩ : ByteArray) ++ a ++ ⟨#[41, 124, 91, 93]⟩) = fitR (.mk 3 0 0 0 0 [r, Bs.zero.rx]) :=
  parse_ornone (by omega) hp (by simp only [ByteArray.size_append]; show 1 + a.size + 4 = _; omega) (byteAt_head _ _ _ 0 (by decide)) (Inside.mk_ ⟨#[40]⟩ a _ (by decide) (by decide))
    (byteAt_tail _ _ _ _ 1 (by show _ = 1 + a.size + 1; omega)) (byteAt_tail _ _ _ _ 2 (by show _ = 1 + a.size + 2; omega)) (byteAt_tail _ _ _ _ 3 (by show _ = 1 + a.size + 3; omega))
theorem nothing_2 {a : ByteArray} {r : Rx} (h : a.size ≤ 15) (hp : parseM a = .ok r) : parseM ((⟨#[40]⟩ : ByteArray) ++ a ++ ⟨#[41, 91, 93]⟩) = fitR (.mk 2 0 0 0 0 [r, Bs.zero.rx]) :=
  parse_catnone (by omega) hp (by simp only [ByteArray.size_append]; show 1 + a.size + 3 = _; omega) (byteAt_head _ _ _ 0 (by decide)) (Inside.mk_ ⟨#[40]⟩ a _ (by decide) (by decide))
    (byteAt_tail _ _ _ _ 1 (by show _ = 1 + a.size + 1; omega)) (byteAt_tail _ _ _ _ 2 (by show _ = 1 + a.size + 2; omega))
theorem nothing_3 {a : ByteArray} {r : Rx} (h : a.size ≤ 15) (hp : parseM a = .ok r) : parseM ((⟨#[91, 93, 42, 40]⟩ : ByteArray) ++ a ++ ⟨#[41, 40, 41]⟩) = fitR (.mk 2 0 0 0 0 [starR Bs.zero.rx, r, .zero]) :=
  parse_nonecat (by omega) hp (by simp only [ByteArray.size_append]; show 4 + a.size + 3 = _; omega) (byteAt_head _ _ _ 0 (by decide)) (byteAt_head _ _ _ 1 (by decide)) (byteAt_head _ _ _ 2 (by decide)) (byteAt_head _ _ _ 3 (by decide)) (Inside.mk_ ⟨#[91, 93, 42, 40]⟩ a _ (by decide) (by decide))
    (byteAt_tail _ _ _ _ 1 (by show _ = 4 + a.size + 1; omega)) (byteAt_tail _ _ _ _ 2 (by show _ = 4 + a.size + 2; omega))

set_option maxRecDepth 100000 in
set_option maxHeartbeats 4000000 in
theorem nothing_far (a s : ByteArray) (w : World) (ha : a.size ≤ 140737488351232) (hs : s.size ≤ 140737488351232) (h : 15 < a.size ∨ 12 < s.size) :
    Calls Try.prog 12 #[.string a, .string s] w fun e w' => e = .returned (.bool true) ∧ Below w.heap.size w w' := by
  by_cases h1 : 15 < a.size
  · have h1' : (15 : Int) < (a.size : Int) := by omega
    clear h
    go_enter Try.func12, Try.ntmps12
    go_wp2_with fail
    refine (works3_any _).mono ?_
    rintro e w1 ⟨rfl, F1⟩
    have HF := Lib.hid F1
    clear F1
    go_wp2_with fail
    go_ret
    exact ⟨rfl, HF.out.below⟩
  · have h2 : 12 < s.size := by omega
    have h1' : (a.size : Int) ≤ 15 := by omega
    have h2' : (12 : Int) < (s.size : Int) := by omega
    clear h
    go_enter Try.func12, Try.ntmps12
    go_wp2_with fail
    refine (works3_any _).mono ?_
    rintro e w1 ⟨rfl, F1⟩
    have HF := Lib.hid F1
    clear F1
    go_wp2_with fail
    go_ret
    exact ⟨rfl, HF.out.below⟩

set_option maxRecDepth 100000 in
set_option maxHeartbeats 400000 in
theorem nothing_near (a s : ByteArray) (w : World) (h1 : a.size ≤ 15) (h2 : s.size ≤ 12) :
    Calls Try.prog 12 #[.string a, .string s] w fun e w' => e = .returned (.bool true) ∧ Below w.heap.size w w' := by
  have h1' : (a.size : Int) ≤ 15 := by omega
  have h2' : (s.size : Int) ≤ 12 := by omega
  have HT1 := Lib.hid (show ((⟨#[40]⟩ : ByteArray) ++ a ++ ⟨#[41, 124, 91, 93]⟩).size = 1 + a.size + 4 by simp only [ByteArray.size_append]; rfl)
  have HT2 := Lib.hid (show ((⟨#[40]⟩ : ByteArray) ++ a ++ ⟨#[41, 91, 93]⟩).size = 1 + a.size + 3 by simp only [ByteArray.size_append]; rfl)
  have HT3 := Lib.hid (show ((⟨#[91, 93, 42, 40]⟩ : ByteArray) ++ a ++ ⟨#[41, 40, 41]⟩).size = 4 + a.size + 3 by simp only [ByteArray.size_append]; rfl)
  have q1 : 1 + a.size ≤ 9223372036854775807 := by omega
  have q2 : 1 + a.size + 4 ≤ 9223372036854775807 := by omega
  have q3 : 1 + a.size + 3 ≤ 9223372036854775807 := by omega
  have q4 : 4 + a.size ≤ 9223372036854775807 := by omega
  have q5 : 4 + a.size + 3 ≤ 9223372036854775807 := by omega
  go_enter Try.func12, Try.ntmps12
  go_wp2_with fail
  refine (works3_any _).mono ?_
  rintro e w0 ⟨rfl, F0⟩
  have HF0 := Lib.hid F0
  clear F0
  go_wp2_with fail
  refine (parse_un a (by omega) _).mono ?_
  rintro e w1 ⟨v0, rfl, hv, Fi⟩
  obtain ⟨r0, hr0⟩ : ∃ r, parseR a = r := ⟨_, rfl⟩
  rw [hr0] at hv
  obtain ⟨k0, b00, b01, b02, b03, ks0⟩ := r0
  have HR0 := Lib.hid hr0
  obtain ⟨a0, c0, rfl, hc0, hl⟩ := hv.open_
  have HL0 := Lib.hid hl
  obtain ⟨n0, hn0⟩ : ∃ n, parseN a = n := ⟨_, rfl⟩
  rw [hn0]
  have HN0 := Lib.hid hn0
  have FS0 := Lib.hid (Fi.alloc (.cells #[.int .i64 k0, .int .u64 b00, .int .u64 b01, .int .u64 b02, .int .u64 b03, .slice a0 ks0.length c0] 28))
  have NB0 := Lib.hid (alloc_new w1 (.cells #[.int .i64 k0, .int .u64 b00, .int .u64 b01, .int .u64 b02, .int .u64 b03, .slice a0 ks0.length c0] 28))
  have HA0 := Lib.hid ((Fr.refl none_ w1).alloc (.cells #[.int .i64 k0, .int .u64 b00, .int .u64 b01, .int .u64 b02, .int .u64 b03, .slice a0 ks0.length c0] 28))
  clear hv hl Fi hr0 hn0
  go_wp2_with fail
  obtain ⟨t1, ht1⟩ : ∃ t, ((⟨#[40]⟩ : ByteArray) ++ a ++ ⟨#[41, 124, 91, 93]⟩) = t := ⟨_, rfl⟩
  have hz1 : t1.size < 9223372036854775808 := by rw [← ht1, HT1.out]; omega
  rw [ht1]
  have HX1 := Lib.hid ht1
  clear ht1 HT1
  refine (parse_un t1 hz1 _).mono ?_
  rintro e w2 ⟨v1, rfl, hv, Fi⟩
  obtain ⟨r1, hr1⟩ : ∃ r, parseR t1 = r := ⟨_, rfl⟩
  rw [hr1] at hv
  obtain ⟨k1, b10, b11, b12, b13, ks1⟩ := r1
  have HR1 := Lib.hid hr1
  obtain ⟨a1, c1, rfl, hc1, hl⟩ := hv.open_
  have HL1 := Lib.hid hl
  obtain ⟨n1, hn1⟩ : ∃ n, parseN t1 = n := ⟨_, rfl⟩
  rw [hn1]
  have HN1 := Lib.hid hn1
  have FS1 := Lib.hid (Fi.alloc (.cells #[.int .i64 k1, .int .u64 b10, .int .u64 b11, .int .u64 b12, .int .u64 b13, .slice a1 ks1.length c1] 28))
  have NB1 := Lib.hid (alloc_new w2 (.cells #[.int .i64 k1, .int .u64 b10, .int .u64 b11, .int .u64 b12, .int .u64 b13, .slice a1 ks1.length c1] 28))
  have HA1 := Lib.hid ((Fr.refl none_ w2).alloc (.cells #[.int .i64 k1, .int .u64 b10, .int .u64 b11, .int .u64 b12, .int .u64 b13, .slice a1 ks1.length c1] 28))
  clear hv hl Fi hr1 hn1
  go_wp2_with fail
  obtain ⟨t2, ht2⟩ : ∃ t, ((⟨#[40]⟩ : ByteArray) ++ a ++ ⟨#[41, 91, 93]⟩) = t := ⟨_, rfl⟩
  have hz2 : t2.size < 9223372036854775808 := by rw [← ht2, HT2.out]; omega
  rw [ht2]
  have HX2 := Lib.hid ht2
  clear ht2 HT2
  refine (parse_un t2 hz2 _).mono ?_
  rintro e w3 ⟨v2, rfl, hv, Fi⟩
  obtain ⟨r2, hr2⟩ : ∃ r, parseR t2 = r := ⟨_, rfl⟩
  rw [hr2] at hv
  obtain ⟨k2, b20, b21, b22, b23, ks2⟩ := r2
  have HR2 := Lib.hid hr2
  obtain ⟨a2, c2, rfl, hc2, hl⟩ := hv.open_
  have HL2 := Lib.hid hl
  obtain ⟨n2, hn2⟩ : ∃ n, parseN t2 = n := ⟨_, rfl⟩
  rw [hn2]
  have HN2 := Lib.hid hn2
  have FS2 := Lib.hid (Fi.alloc (.cells #[.int .i64 k2, .int .u64 b20, .int .u64 b21, .int .u64 b22, .int .u64 b23, .slice a2 ks2.length c2] 28))
  have NB2 := Lib.hid (alloc_new w3 (.cells #[.int .i64 k2, .int .u64 b20, .int .u64 b21, .int .u64 b22, .int .u64 b23, .slice a2 ks2.length c2] 28))
  have HA2 := Lib.hid ((Fr.refl none_ w3).alloc (.cells #[.int .i64 k2, .int .u64 b20, .int .u64 b21, .int .u64 b22, .int .u64 b23, .slice a2 ks2.length c2] 28))
  clear hv hl Fi hr2 hn2
  go_wp2_with fail
  obtain ⟨t3, ht3⟩ : ∃ t, ((⟨#[91, 93, 42, 40]⟩ : ByteArray) ++ a ++ ⟨#[41, 40, 41]⟩) = t := ⟨_, rfl⟩
  have hz3 : t3.size < 9223372036854775808 := by rw [← ht3, HT3.out]; omega
  rw [ht3]
  have HX3 := Lib.hid ht3
  clear ht3 HT3
  refine (parse_un t3 hz3 _).mono ?_
  rintro e w4 ⟨v3, rfl, hv, Fi⟩
  obtain ⟨r3, hr3⟩ : ∃ r, parseR t3 = r := ⟨_, rfl⟩
  rw [hr3] at hv
  obtain ⟨k3, b30, b31, b32, b33, ks3⟩ := r3
  have HR3 := Lib.hid hr3
  obtain ⟨a3, c3, rfl, hc3, hl⟩ := hv.open_
  have HL3 := Lib.hid hl
  obtain ⟨n3, hn3⟩ : ∃ n, parseN t3 = n := ⟨_, rfl⟩
  rw [hn3]
  have HN3 := Lib.hid hn3
  have FS3 := Lib.hid (Fi.alloc (.cells #[.int .i64 k3, .int .u64 b30, .int .u64 b31, .int .u64 b32, .int .u64 b33, .slice a3 ks3.length c3] 28))
  have NB3 := Lib.hid (alloc_new w4 (.cells #[.int .i64 k3, .int .u64 b30, .int .u64 b31, .int .u64 b32, .int .u64 b33, .slice a3 ks3.length c3] 28))
  have HA3 := Lib.hid ((Fr.refl none_ w4).alloc (.cells #[.int .i64 k3, .int .u64 b30, .int .u64 b31, .int .u64 b32, .int .u64 b33, .slice a3 ks3.length c3] 28))
  clear hv hl Fi hr3 hn3
  have G := Lib.hid ((((HF0.out.tr FS0.out).tr FS1.out).tr FS2.out).tr FS3.out)
  by_cases z0 : n0 = 0
  case neg =>
    have e0 : (n0 == 0) = false := by rw [beq_eq_false_iff_ne]; exact z0
    go_wp2_with fail
    go_ret
    exact ⟨rfl, G.out.below⟩
  by_cases z1 : n1 = 4
  case pos =>
    subst z0 z1
    go_wp2_with fail
    go_ret
    exact ⟨rfl, G.out.below⟩
  have e1 : (n1 == 4) = false := by rw [beq_eq_false_iff_ne]; exact z1
  by_cases z2 : n2 = 4
  case pos =>
    subst z0 z2
    go_wp2_with fail
    go_ret
    exact ⟨rfl, G.out.below⟩
  have e2 : (n2 == 4) = false := by rw [beq_eq_false_iff_ne]; exact z2
  by_cases z3 : n3 = 4
  case pos =>
    subst z0 z3
    go_wp2_with fail
    go_ret
    exact ⟨rfl, G.out.below⟩
  have e3 : (n3 == 4) = false := by rw [beq_eq_false_iff_ne]; exact z3
  have hpa : parseM a = .ok (.mk k0 b00 b01 b02 b03 ks0) := by have := parseN_of (s := a) (by rw [HN0.out]; exact z0); rw [HR0.out] at this; exact this
  have E1 : n1 = 0 ∧ (Rx.mk k1 b10 b11 b12 b13 ks1) = .mk 3 0 0 0 0 [(.mk k0 b00 b01 b02 b03 ks0), Bs.zero.rx] := by
    have h := parseN_fit (nothing_1 h1 hpa)
    rw [HX1.out, HN1.out, HR1.out] at h
    exact h.resolve_left z1
  have E2 : n2 = 0 ∧ (Rx.mk k2 b20 b21 b22 b23 ks2) = .mk 2 0 0 0 0 [(.mk k0 b00 b01 b02 b03 ks0), Bs.zero.rx] := by
    have h := parseN_fit (nothing_2 h1 hpa)
    rw [HX2.out, HN2.out, HR2.out] at h
    exact h.resolve_left z2
  have E3 : n3 = 0 ∧ (Rx.mk k3 b30 b31 b32 b33 ks3) = .mk 2 0 0 0 0 [starR Bs.zero.rx, (.mk k0 b00 b01 b02 b03 ks0), .zero] := by
    have h := parseN_fit (nothing_3 h1 hpa)
    rw [HX3.out, HN3.out, HR3.out] at h
    exact h.resolve_left z3
  have M1 := Lib.hid (show matchP (.mk k1 b10 b11 b12 b13 ks1) s = matchP (.mk k0 b00 b01 b02 b03 ks0) s by rw [E1.2, match_or, match_bzero, Bool.or_false])
  have M2 := Lib.hid (show matchP (.mk k2 b20 b21 b22 b23 ks2) s = false by rw [E2.2, match_catnone])
  have M3 := Lib.hid (show matchP (.mk k3 b30 b31 b32 b33 ks3) s = matchP (.mk k0 b00 b01 b02 b03 ks0) s by rw [E3.2, match_nonecat])
  have y1 := E1.1
  have y2 := E2.1
  have y3 := E3.1
  clear E1 E2 E3 e1 e2 e3 z1 z2 z3 hpa
  subst z0 y1 y2 y3
  have T3 := Lib.hid HA3.out
  have T2 := Lib.hid (HA2.out.tr FS3.out)
  have T1 := Lib.hid ((HA1.out.tr FS2.out).tr FS3.out)
  have T0 := Lib.hid (((HA0.out.tr FS1.out).tr FS2.out).tr FS3.out)
  have C3 := Lib.hid NB3.out
  have C2 := Lib.hid (FS3.out.at_ NB2.out (fun h => h))
  have C1 := Lib.hid ((FS2.out.tr FS3.out).at_ NB1.out (fun h => h))
  have C0 := Lib.hid (((FS1.out.tr FS2.out).tr FS3.out).at_ NB0.out (fun h => h))
  have X0 := Lib.hid (Fr.refl none_ (w4.alloc (.cells #[.int .i64 k3, .int .u64 b30, .int .u64 b31, .int .u64 b32, .int .u64 b33, .slice a3 ks3.length c3] 28)))
  obtain ⟨z00, z01, z02, z03, z04, z05⟩ := six (X0.out.at_ C0.out (fun h => h))
  go_wp2_with fail
  refine (match_any (.mk k0 b00 b01 b02 b03 ks0) s _ (fun _ => True) _ (by omega) (by have := parseR_size a; rw [HR0.out] at this; omega) (RxV.mk_ hc0 (RxL.move (fun i _ hlt => (T0.out.tr X0.out).block i hlt (fun h => h)) _ _ _ HL0.out))).mono ?_
  rintro e u0 ⟨rfl, Fu⟩
  have X1 := Lib.hid (X0.out.tr Fu)
  clear Fu z00 z01 z02 z03 z04 z05
  obtain ⟨z10, z11, z12, z13, z14, z15⟩ := six (X1.out.at_ C1.out (fun h => h))
  go_wp2_with fail
  refine (match_any (.mk k1 b10 b11 b12 b13 ks1) s _ (fun _ => True) _ (by omega) (by have := parseR_size t1; rw [HR1.out] at this; omega) (RxV.mk_ hc1 (RxL.move (fun i _ hlt => (T1.out.tr X1.out).block i hlt (fun h => h)) _ _ _ HL1.out))).mono ?_
  rintro e u1 ⟨rfl, Fu⟩
  have X2 := Lib.hid (X1.out.tr Fu)
  rw [M1.out]
  clear Fu z10 z11 z12 z13 z14 z15
  obtain ⟨z20, z21, z22, z23, z24, z25⟩ := six (X2.out.at_ C2.out (fun h => h))
  go_wp2_with fail
  refine (match_any (.mk k2 b20 b21 b22 b23 ks2) s _ (fun _ => True) _ (by omega) (by have := parseR_size t2; rw [HR2.out] at this; omega) (RxV.mk_ hc2 (RxL.move (fun i _ hlt => (T2.out.tr X2.out).block i hlt (fun h => h)) _ _ _ HL2.out))).mono ?_
  rintro e u2 ⟨rfl, Fu⟩
  have X3 := Lib.hid (X2.out.tr Fu)
  rw [M2.out]
  clear Fu z20 z21 z22 z23 z24 z25
  obtain ⟨z30, z31, z32, z33, z34, z35⟩ := six (X3.out.at_ C3.out (fun h => h))
  go_wp2_with fail
  refine (match_any (.mk k3 b30 b31 b32 b33 ks3) s _ (fun _ => True) _ (by omega) (by have := parseR_size t3; rw [HR3.out] at this; omega) (RxV.mk_ hc3 (RxL.move (fun i _ hlt => (T3.out.tr X3.out).block i hlt (fun h => h)) _ _ _ HL3.out))).mono ?_
  rintro e u3 ⟨rfl, Fu⟩
  have X4 := Lib.hid (X3.out.tr Fu)
  rw [M3.out]
  clear Fu z30 z31 z32 z33 z34 z35
  cases matchP (.mk k0 b00 b01 b02 b03 ks0) s
  all_goals
    go_wp2_with fail
    go_ret
    exact ⟨rfl, (G.out.tr X4.out).below⟩

theorem regexNothing_any (a s : ByteArray) (w : World) (ha : a.size ≤ 140737488351232) (hs : s.size ≤ 140737488351232) :
    Calls Try.prog 12 #[.string a, .string s] w fun e w' => e = .returned (.bool true) ∧ Below w.heap.size w w' := by
  by_cases h : 15 < a.size ∨ 12 < s.size
  · exact nothing_far a s w ha hs h
  · exact nothing_near a s w (by omega) (by omega)

end Go.Proofs.Ytgpmbkgedhcbjaa
