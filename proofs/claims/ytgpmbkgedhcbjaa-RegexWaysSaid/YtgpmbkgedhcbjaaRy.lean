/-
  The law RegexWays: with a bar between, either one matches; one behind the other, what is cut anywhere; with a star what is matched again and again.
-/
import Derived.Test.YtgpmbkgedhcbjaaRg
namespace Go.Proofs.Ytgpmbkgedhcbjaa
open Go.RowKit

theorem ways_1 {a b : ByteArray} {ra rb : Rx} (ha : a.size ≤ 15) (hb : b.size ≤ 15) (hpa : parseM a = .ok ra) (hpb : parseM b = .ok rb) : parseM ((⟨#[40]⟩ : ByteArray) ++ a ++ ⟨#[41, 124, 40]⟩ ++ b ++ ⟨#[41]⟩) = fitR (.mk 3 0 0 0 0 [ra, rb]) := by
  have hs : ((⟨#[40]⟩ : ByteArray) ++ a ++ ⟨#[41, 124, 40]⟩).size = a.size + 4 := by simp only [ByteArray.size_append]; show 1 + a.size + 3 = _; omega
  have hd : ∀ j, j < a.size + 4 → byteAt ((⟨#[40]⟩ : ByteArray) ++ a ++ ⟨#[41, 124, 40]⟩ ++ b ++ ⟨#[41]⟩) j = byteAt ((⟨#[40]⟩ : ByteArray) ++ a ++ ⟨#[41, 124, 40]⟩) j := fun j hj => byteAt_head _ _ _ j (by rw [hs]; exact hj)
  have hI : Inside a ((⟨#[40]⟩ : ByteArray) ++ a ++ ⟨#[41, 124, 40]⟩) 1 := Inside.mk_ ⟨#[40]⟩ a _ (by decide) (by decide)
  have hJ := Inside.mk_ ((⟨#[40]⟩ : ByteArray) ++ a ++ ⟨#[41, 124, 40]⟩) b ⟨#[41]⟩ (by decide) (by decide)
  have hsz : ((⟨#[40]⟩ : ByteArray) ++ a ++ ⟨#[41, 124, 40]⟩ ++ b ++ ⟨#[41]⟩).size = a.size + b.size + 5 := by rw [ByteArray.size_append, ByteArray.size_append, hs]; show a.size + 4 + b.size + 1 = _; omega
  rw [hs] at hJ
  refine parse_both (by omega) (by omega) hpa hpb hsz ((hd 0 (by omega)).trans (byteAt_head _ _ _ 0 (by decide))) ⟨fun p hpl => ?_, ?_⟩ ((hd _ (by omega)).trans (byteAt_tail _ _ _ _ 1 (by show _ = 1 + a.size + 1; omega))) ((hd _ (by omega)).trans (byteAt_tail _ _ _ _ 2 (by show _ = 1 + a.size + 2; omega))) hJ
  · obtain ⟨h1, h2⟩ := hI.at_ p hpl
    exact ⟨by rw [hsz]; omega, (hd _ (by omega)).trans h2⟩
  · exact ⟨by rw [hsz]; omega, (hd _ (by omega)).trans hI.end_.2⟩
theorem ways_2 {a b : ByteArray} {ra rb : Rx} (ha : a.size ≤ 15) (hb : b.size ≤ 15) (hpa : parseM a = .ok ra) (hpb : parseM b = .ok rb) : parseM ((⟨#[40]⟩ : ByteArray) ++ a ++ ⟨#[41, 40]⟩ ++ b ++ ⟨#[41]⟩) = fitR (.mk 2 0 0 0 0 [ra, rb]) := by
  have hs : ((⟨#[40]⟩ : ByteArray) ++ a ++ ⟨#[41, 40]⟩).size = a.size + 3 := by simp only [ByteArray.size_append]; show 1 + a.size + 2 = _; omega
  have hd : ∀ j, j < a.size + 3 → byteAt ((⟨#[40]⟩ : ByteArray) ++ a ++ ⟨#[41, 40]⟩ ++ b ++ ⟨#[41]⟩) j = byteAt ((⟨#[40]⟩ : ByteArray) ++ a ++ ⟨#[41, 40]⟩) j := fun j hj => byteAt_head _ _ _ j (by rw [hs]; exact hj)
  have hI : Inside a ((⟨#[40]⟩ : ByteArray) ++ a ++ ⟨#[41, 40]⟩) 1 := Inside.mk_ ⟨#[40]⟩ a _ (by decide) (by decide)
  have hJ := Inside.mk_ ((⟨#[40]⟩ : ByteArray) ++ a ++ ⟨#[41, 40]⟩) b ⟨#[41]⟩ (by decide) (by decide)
  have hsz : ((⟨#[40]⟩ : ByteArray) ++ a ++ ⟨#[41, 40]⟩ ++ b ++ ⟨#[41]⟩).size = a.size + b.size + 4 := by rw [ByteArray.size_append, ByteArray.size_append, hs]; show a.size + 3 + b.size + 1 = _; omega
  rw [hs] at hJ
  refine parse_cat (by omega) (by omega) hpa hpb hsz ((hd 0 (by omega)).trans (byteAt_head _ _ _ 0 (by decide))) ⟨fun p hpl => ?_, ?_⟩ ((hd _ (by omega)).trans (byteAt_tail _ _ _ _ 1 (by show _ = 1 + a.size + 1; omega))) hJ
  · obtain ⟨h1, h2⟩ := hI.at_ p hpl
    exact ⟨by rw [hsz]; omega, (hd _ (by omega)).trans h2⟩
  · exact ⟨by rw [hsz]; omega, (hd _ (by omega)).trans hI.end_.2⟩
theorem ways_3 {a : ByteArray} {r : Rx} (h : a.size ≤ 15) (hp : parseM a = .ok r) : parseM ((⟨#[40]⟩ : ByteArray) ++ a ++ ⟨#[41, 42]⟩) = fitR (starR r) :=
  parse_sign (c := 42) (by omega) hp (by simp only [ByteArray.size_append]; show 1 + a.size + 2 = _; omega) (byteAt_head _ _ _ 0 (by decide)) (Inside.mk_ ⟨#[40]⟩ a _ (by decide) (by decide))
    (byteAt_tail _ _ _ _ 1 (by show _ = 1 + a.size + 1; omega)) (.inl ⟨rfl, rfl⟩)

theorem bytesN_take_drop (s : ByteArray) (k : Nat) : bytesN (s.extract 0 k) = (bytesN s).take k ∧ bytesN (s.extract k s.size) = (bytesN s).drop k := by
  constructor
  · simp [bytesN, ByteArray.data_extract, List.map_take]
  · simp only [bytesN, ByteArray.data_extract, Array.toList_extract, List.extract_eq_take_drop, List.map_take, List.map_drop]
    rw [List.take_of_length_le]
    simp
/-- Is there a cut, one of the first n, of which the one matches what is ahead, the other what is behind? -/
noncomputable def cutsM (r q : Rx) (s : ByteArray) (n : Nat) : Bool := (List.range n).any fun k => matchP r (s.extract 0 k) && matchP q (s.extract k s.size)
theorem cutsM_succ (r q : Rx) (s : ByteArray) (n : Nat) : cutsM r q s (n + 1) = (cutsM r q s n || (matchP r (s.extract 0 n) && matchP q (s.extract n s.size))) := by
  simp [cutsM, List.range_succ, List.any_append]
theorem match_two (r q : Rx) (s : ByteArray) : matchP (.mk 2 0 0 0 0 [r, q]) s = cutsM r q s (s.size + 1) := by
  rw [Bool.eq_iff_iff, matchP_true, two_lang]
  simp only [cutsM, List.any_eq_true, List.mem_range, Bool.and_eq_true, matchP_true]
  constructor
  · rintro ⟨x, y, h, hx, hy⟩
    have hl : x.length + y.length = s.size := by rw [← bytesN_length s, h, List.length_append]
    refine ⟨x.length, by omega, ?_, ?_⟩
    · rw [(bytesN_take_drop s _).1, h, List.take_left']; exact hx; rfl
    · rw [(bytesN_take_drop s _).2, h, List.drop_left']; exact hy; rfl
  · rintro ⟨k, hk, hx, hy⟩
    rw [(bytesN_take_drop s _).1] at hx
    rw [(bytesN_take_drop s _).2] at hy
    exact ⟨_, _, (List.take_append_drop k _).symm, hx, hy⟩
theorem Star.app {P : List Nat → Prop} : ∀ {a b : List Nat}, Star P a → Star P b → Star P (a ++ b) := by
  intro a b h hb
  induction h with
  | nil => exact hb
  | cons x y hx _ ih => rw [List.append_assoc]; exact .cons x _ hx ih
theorem match_star_one (r : Rx) (s : ByteArray) (h : matchP r s = true) : matchP (starR r) s = true := by
  rw [matchP_true] at h
  rw [matchP_true, star_lang, ← List.append_nil (bytesN s)]
  exact .cons _ _ h .nil
theorem match_star_app (r : Rx) (s t : ByteArray) (h : matchP (starR r) s = true) (h2 : matchP (starR r) t = true) : matchP (starR r) (s ++ t) = true := by
  rw [matchP_true, star_lang] at h h2 ⊢
  rw [bytesN_append]
  exact h.app h2
theorem match_star_nil (r : Rx) : matchP (starR r) ⟨#[]⟩ = true := by
  rw [matchP_true, star_lang]
  exact .nil

set_option maxRecDepth 100000 in
set_option maxHeartbeats 4000000 in
theorem ways_far (a b s t : ByteArray) (w : World) (ha : a.size ≤ 140737488351232) (hb : b.size ≤ 140737488351232) (hs : s.size ≤ 140737488351232) (ht : t.size ≤ 140737488351232) (h : 15 < a.size ∨ 15 < b.size ∨ 12 < s.size ∨ 12 < t.size) :
    Calls Try.prog 9 #[.string a, .string b, .string s, .string t] w fun e w' => e = .returned (.bool true) ∧ Below w.heap.size w w' := by
  by_cases h0 : 15 < a.size
  · have h0' : (15 : Int) < (a.size : Int) := by omega
    clear h
    go_enter Try.func9, Try.ntmps9
    go_wp2_with fail
    refine (works3_any _).mono ?_
    rintro e w1 ⟨rfl, F1⟩
    have HF := Lib.hid F1
    clear F1
    go_wp2_with fail
    go_ret
    exact ⟨rfl, HF.out.below⟩
  have h0' : (a.size : Int) ≤ 15 := by omega
  by_cases h1 : 15 < b.size
  · have h1' : (15 : Int) < (b.size : Int) := by omega
    clear h
    go_enter Try.func9, Try.ntmps9
    go_wp2_with fail
    refine (works3_any _).mono ?_
    rintro e w1 ⟨rfl, F1⟩
    have HF := Lib.hid F1
    clear F1
    go_wp2_with fail
    go_ret
    exact ⟨rfl, HF.out.below⟩
  have h1' : (b.size : Int) ≤ 15 := by omega
  by_cases h2 : 12 < s.size
  · have h2' : (12 : Int) < (s.size : Int) := by omega
    clear h
    go_enter Try.func9, Try.ntmps9
    go_wp2_with fail
    refine (works3_any _).mono ?_
    rintro e w1 ⟨rfl, F1⟩
    have HF := Lib.hid F1
    clear F1
    go_wp2_with fail
    go_ret
    exact ⟨rfl, HF.out.below⟩
  have h2' : (s.size : Int) ≤ 12 := by omega
  have h3 : 12 < t.size := by omega
  have h3' : (12 : Int) < (t.size : Int) := by omega
  clear h
  go_enter Try.func9, Try.ntmps9
  go_wp2_with fail
  refine (works3_any _).mono ?_
  rintro e w1 ⟨rfl, F1⟩
  have HF := Lib.hid F1
  clear F1
  go_wp2_with fail
  go_ret
  exact ⟨rfl, HF.out.below⟩

set_option maxRecDepth 100000 in
set_option maxHeartbeats 4000000 in
theorem ways_near (a b s t : ByteArray) (w : World) (h1 : a.size ≤ 15) (h2 : b.size ≤ 15) (h3 : s.size ≤ 12) (h4 : t.size ≤ 12) :
    Calls Try.prog 9 #[.string a, .string b, .string s, .string t] w fun e w' => e = .returned (.bool true) ∧ Below w.heap.size w w' := by
  have h1' : (a.size : Int) ≤ 15 := by omega
  have h2' : (b.size : Int) ≤ 15 := by omega
  have h3' : (s.size : Int) ≤ 12 := by omega
  have h4' : (t.size : Int) ≤ 12 := by omega
  have HT2 := Lib.hid (show ((⟨#[40]⟩ : ByteArray) ++ a ++ ⟨#[41, 124, 40]⟩ ++ b ++ ⟨#[41]⟩).size = 1 + a.size + 3 + b.size + 1 by simp only [ByteArray.size_append]; rfl)
  have HT3 := Lib.hid (show ((⟨#[40]⟩ : ByteArray) ++ a ++ ⟨#[41, 40]⟩ ++ b ++ ⟨#[41]⟩).size = 1 + a.size + 2 + b.size + 1 by simp only [ByteArray.size_append]; rfl)
  have HT4 := Lib.hid (show ((⟨#[40]⟩ : ByteArray) ++ a ++ ⟨#[41, 42]⟩).size = 1 + a.size + 2 by simp only [ByteArray.size_append]; rfl)
  have q0 : 1 + a.size ≤ 9223372036854775807 := by omega
  have q1 : 1 + a.size + 3 ≤ 9223372036854775807 := by omega
  have q2 : 1 + a.size + 3 + b.size ≤ 9223372036854775807 := by omega
  have q3 : 1 + a.size + 3 + b.size + 1 ≤ 9223372036854775807 := by omega
  have q4 : 1 + a.size + 2 ≤ 9223372036854775807 := by omega
  have q5 : 1 + a.size + 2 + b.size ≤ 9223372036854775807 := by omega
  have q6 : 1 + a.size + 2 + b.size + 1 ≤ 9223372036854775807 := by omega
  have q7 : s.size + t.size ≤ 9223372036854775807 := by omega
  go_enter Try.func9, Try.ntmps9
  go_wp2_with fail
  refine (works3_any _).mono ?_
  rintro e w0 ⟨rfl, F0⟩
  have HF0 := Lib.hid F0
  clear F0
  go_wp2_with fail
  refine (parse_un a (by omega) _).mono ?_
  rintro e w1 ⟨v0, rfl, hv, Fi⟩
  obtain ⟨r0, hr0⟩ : ∃ r, parseR a = r := ⟨_, rfl⟩
  rw [hr0] at hv
  obtain ⟨k0, b00, b01, b02, b03, ks0⟩ := r0
  have HR0 := Lib.hid hr0
  obtain ⟨a0, c0, rfl, hc0, hl⟩ := hv.open_
  have HL0 := Lib.hid hl
  obtain ⟨n0, hn0⟩ : ∃ n, parseN a = n := ⟨_, rfl⟩
  rw [hn0]
  have HN0 := Lib.hid hn0
  have FS0 := Lib.hid (Fi.alloc (.cells #[.int .i64 k0, .int .u64 b00, .int .u64 b01, .int .u64 b02, .int .u64 b03, .slice a0 ks0.length c0] 28))
  have NB0 := Lib.hid (alloc_new w1 (.cells #[.int .i64 k0, .int .u64 b00, .int .u64 b01, .int .u64 b02, .int .u64 b03, .slice a0 ks0.length c0] 28))
  have HA0 := Lib.hid ((Fr.refl none_ w1).alloc (.cells #[.int .i64 k0, .int .u64 b00, .int .u64 b01, .int .u64 b02, .int .u64 b03, .slice a0 ks0.length c0] 28))
  clear hv hl Fi hr0 hn0
  go_wp2_with fail
  refine (parse_un b (by omega) _).mono ?_
  rintro e w2 ⟨v1, rfl, hv, Fi⟩
  obtain ⟨r1, hr1⟩ : ∃ r, parseR b = r := ⟨_, rfl⟩
  rw [hr1] at hv
  obtain ⟨k1, b10, b11, b12, b13, ks1⟩ := r1
  have HR1 := Lib.hid hr1
  obtain ⟨a1, c1, rfl, hc1, hl⟩ := hv.open_
  have HL1 := Lib.hid hl
  obtain ⟨n1, hn1⟩ : ∃ n, parseN b = n := ⟨_, rfl⟩
  rw [hn1]
  have HN1 := Lib.hid hn1
  have FS1 := Lib.hid (Fi.alloc (.cells #[.int .i64 k1, .int .u64 b10, .int .u64 b11, .int .u64 b12, .int .u64 b13, .slice a1 ks1.length c1] 28))
  have NB1 := Lib.hid (alloc_new w2 (.cells #[.int .i64 k1, .int .u64 b10, .int .u64 b11, .int .u64 b12, .int .u64 b13, .slice a1 ks1.length c1] 28))
  have HA1 := Lib.hid ((Fr.refl none_ w2).alloc (.cells #[.int .i64 k1, .int .u64 b10, .int .u64 b11, .int .u64 b12, .int .u64 b13, .slice a1 ks1.length c1] 28))
  clear hv hl Fi hr1 hn1
  by_cases z0 : n0 = 0
  case neg =>
    have e0 : (n0 == 0) = false := by rw [beq_eq_false_iff_ne]; exact z0
    have G := Lib.hid ((HF0.out.tr FS0.out).tr FS1.out)
    go_wp2_with fail
    go_ret
    exact ⟨rfl, G.out.below⟩
  by_cases z1 : n1 = 0
  case neg =>
    have e1 : (n1 == 0) = false := by rw [beq_eq_false_iff_ne]; exact z1
    have G := Lib.hid ((HF0.out.tr FS0.out).tr FS1.out)
    subst z0
    go_wp2_with fail
    go_ret
    exact ⟨rfl, G.out.below⟩
  have hpa : parseM a = .ok (.mk k0 b00 b01 b02 b03 ks0) := by have := parseN_of (s := a) (by rw [HN0.out]; exact z0); rw [HR0.out] at this; exact this
  have hpb : parseM b = .ok (.mk k1 b10 b11 b12 b13 ks1) := by have := parseN_of (s := b) (by rw [HN1.out]; exact z1); rw [HR1.out] at this; exact this
  have HPA := Lib.hid hpa
  have HPB := Lib.hid hpb
  subst z0 z1
  clear hpa hpb
  go_wp2_with fail
  obtain ⟨t2, ht2⟩ : ∃ t, ((⟨#[40]⟩ : ByteArray) ++ a ++ ⟨#[41, 124, 40]⟩ ++ b ++ ⟨#[41]⟩) = t := ⟨_, rfl⟩
  have hz2 : t2.size < 9223372036854775808 := by rw [← ht2, HT2.out]; omega
  rw [ht2]
  have HX2 := Lib.hid ht2
  clear ht2 HT2
  refine (parse_un t2 hz2 _).mono ?_
  rintro e w3 ⟨v2, rfl, hv, Fi⟩
  obtain ⟨r2, hr2⟩ : ∃ r, parseR t2 = r := ⟨_, rfl⟩
  rw [hr2] at hv
  obtain ⟨k2, b20, b21, b22, b23, ks2⟩ := r2
  have HR2 := Lib.hid hr2
  obtain ⟨a2, c2, rfl, hc2, hl⟩ := hv.open_
  have HL2 := Lib.hid hl
  obtain ⟨n2, hn2⟩ : ∃ n, parseN t2 = n := ⟨_, rfl⟩
  rw [hn2]
  have HN2 := Lib.hid hn2
  have FS2 := Lib.hid (Fi.alloc (.cells #[.int .i64 k2, .int .u64 b20, .int .u64 b21, .int .u64 b22, .int .u64 b23, .slice a2 ks2.length c2] 28))
  have NB2 := Lib.hid (alloc_new w3 (.cells #[.int .i64 k2, .int .u64 b20, .int .u64 b21, .int .u64 b22, .int .u64 b23, .slice a2 ks2.length c2] 28))
  have HA2 := Lib.hid ((Fr.refl none_ w3).alloc (.cells #[.int .i64 k2, .int .u64 b20, .int .u64 b21, .int .u64 b22, .int .u64 b23, .slice a2 ks2.length c2] 28))
  clear hv hl Fi hr2 hn2
  go_wp2_with fail
  obtain ⟨t3, ht3⟩ : ∃ t, ((⟨#[40]⟩ : ByteArray) ++ a ++ ⟨#[41, 40]⟩ ++ b ++ ⟨#[41]⟩) = t := ⟨_, rfl⟩
  have hz3 : t3.size < 9223372036854775808 := by rw [← ht3, HT3.out]; omega
  rw [ht3]
  have HX3 := Lib.hid ht3
  clear ht3 HT3
  refine (parse_un t3 hz3 _).mono ?_
  rintro e w4 ⟨v3, rfl, hv, Fi⟩
  obtain ⟨r3, hr3⟩ : ∃ r, parseR t3 = r := ⟨_, rfl⟩
  rw [hr3] at hv
  obtain ⟨k3, b30, b31, b32, b33, ks3⟩ := r3
  have HR3 := Lib.hid hr3
  obtain ⟨a3, c3, rfl, hc3, hl⟩ := hv.open_
  have HL3 := Lib.hid hl
  obtain ⟨n3, hn3⟩ : ∃ n, parseN t3 = n := ⟨_, rfl⟩
  rw [hn3]
  have HN3 := Lib.hid hn3
  have FS3 := Lib.hid (Fi.alloc (.cells #[.int .i64 k3, .int .u64 b30, .int .u64 b31, .int .u64 b32, .int .u64 b33, .slice a3 ks3.length c3] 28))
  have NB3 := Lib.hid (alloc_new w4 (.cells #[.int .i64 k3, .int .u64 b30, .int .u64 b31, .int .u64 b32, .int .u64 b33, .slice a3 ks3.length c3] 28))
  have HA3 := Lib.hid ((Fr.refl none_ w4).alloc (.cells #[.int .i64 k3, .int .u64 b30, .int .u64 b31, .int .u64 b32, .int .u64 b33, .slice a3 ks3.length c3] 28))
  clear hv hl Fi hr3 hn3
  go_wp2_with fail
  obtain ⟨t4, ht4⟩ : ∃ t, ((⟨#[40]⟩ : ByteArray) ++ a ++ ⟨#[41, 42]⟩) = t := ⟨_, rfl⟩
  have hz4 : t4.size < 9223372036854775808 := by rw [← ht4, HT4.out]; omega
  rw [ht4]
  have HX4 := Lib.hid ht4
  clear ht4 HT4
  refine (parse_un t4 hz4 _).mono ?_
  rintro e w5 ⟨v4, rfl, hv, Fi⟩
  obtain ⟨r4, hr4⟩ : ∃ r, parseR t4 = r := ⟨_, rfl⟩
  rw [hr4] at hv
  obtain ⟨k4, b40, b41, b42, b43, ks4⟩ := r4
  have HR4 := Lib.hid hr4
  obtain ⟨a4, c4, rfl, hc4, hl⟩ := hv.open_
  have HL4 := Lib.hid hl
  obtain ⟨n4, hn4⟩ : ∃ n, parseN t4 = n := ⟨_, rfl⟩
  rw [hn4]
  have HN4 := Lib.hid hn4
  have FS4 := Lib.hid (Fi.alloc (.cells #[.int .i64 k4, .int .u64 b40, .int .u64 b41, .int .u64 b42, .int .u64 b43, .slice a4 ks4.length c4] 28))
  have NB4 := Lib.hid (alloc_new w5 (.cells #[.int .i64 k4, .int .u64 b40, .int .u64 b41, .int .u64 b42, .int .u64 b43, .slice a4 ks4.length c4] 28))
  have HA4 := Lib.hid ((Fr.refl none_ w5).alloc (.cells #[.int .i64 k4, .int .u64 b40, .int .u64 b41, .int .u64 b42, .int .u64 b43, .slice a4 ks4.length c4] 28))
  clear hv hl Fi hr4 hn4
  have G := Lib.hid (((((HF0.out.tr FS0.out).tr FS1.out).tr FS2.out).tr FS3.out).tr FS4.out)
  by_cases z2 : n2 = 4
  case pos =>
    subst z2
    go_wp2_with fail
    go_ret
    exact ⟨rfl, G.out.below⟩
  have e2 : (n2 == 4) = false := by rw [beq_eq_false_iff_ne]; exact z2
  by_cases z3 : n3 = 4
  case pos =>
    subst z3
    go_wp2_with fail
    go_ret
    exact ⟨rfl, G.out.below⟩
  have e3 : (n3 == 4) = false := by rw [beq_eq_false_iff_ne]; exact z3
  by_cases z4 : n4 = 4
  case pos =>
    subst z4
    go_wp2_with fail
    go_ret
    exact ⟨rfl, G.out.below⟩
  have e4 : (n4 == 4) = false := by rw [beq_eq_false_iff_ne]; exact z4
  have E2 : n2 = 0 ∧ (Rx.mk k2 b20 b21 b22 b23 ks2) = .mk 3 0 0 0 0 [(.mk k0 b00 b01 b02 b03 ks0), (.mk k1 b10 b11 b12 b13 ks1)] := by
    have h := parseN_fit (ways_1 h1 h2 HPA.out HPB.out)
    rw [HX2.out, HN2.out, HR2.out] at h
    exact h.resolve_left z2
  have E3 : n3 = 0 ∧ (Rx.mk k3 b30 b31 b32 b33 ks3) = .mk 2 0 0 0 0 [(.mk k0 b00 b01 b02 b03 ks0), (.mk k1 b10 b11 b12 b13 ks1)] := by
    have h := parseN_fit (ways_2 h1 h2 HPA.out HPB.out)
    rw [HX3.out, HN3.out, HR3.out] at h
    exact h.resolve_left z3
  have E4 : n4 = 0 ∧ (Rx.mk k4 b40 b41 b42 b43 ks4) = starR (.mk k0 b00 b01 b02 b03 ks0) := by
    have h := parseN_fit (ways_3 h1 HPA.out)
    rw [HX4.out, HN4.out, HR4.out] at h
    exact h.resolve_left z4
  have M2 := Lib.hid (show matchP (.mk k2 b20 b21 b22 b23 ks2) s = (matchP (.mk k0 b00 b01 b02 b03 ks0) s || matchP (.mk k1 b10 b11 b12 b13 ks1) s) by rw [E2.2, match_or])
  have M3 := Lib.hid (show matchP (.mk k3 b30 b31 b32 b33 ks3) s = cutsM (.mk k0 b00 b01 b02 b03 ks0) (.mk k1 b10 b11 b12 b13 ks1) s (s.size + 1) by rw [E3.2, match_two])
  have M4 := Lib.hid (show matchP (.mk k0 b00 b01 b02 b03 ks0) s = true → matchP (.mk k4 b40 b41 b42 b43 ks4) s = true by rw [E4.2]; exact match_star_one _ _)
  have M5 := Lib.hid (show matchP (.mk k4 b40 b41 b42 b43 ks4) s = true → matchP (.mk k4 b40 b41 b42 b43 ks4) t = true → matchP (.mk k4 b40 b41 b42 b43 ks4) (s ++ t) = true by rw [E4.2]; exact match_star_app _ _ _)
  have M6 := Lib.hid (show matchP (.mk k4 b40 b41 b42 b43 ks4) ⟨#[]⟩ = true by rw [E4.2]; exact match_star_nil _)
  have y2 := E2.1
  have y3 := E3.1
  have y4 := E4.1
  clear E2 E3 E4 e2 e3 e4 z2 z3 z4
  subst y2 y3 y4
  have T0 := Lib.hid ((((HA0.out.tr FS1.out).tr FS2.out).tr FS3.out).tr FS4.out)
  have T1 := Lib.hid (((HA1.out.tr FS2.out).tr FS3.out).tr FS4.out)
  have T2 := Lib.hid ((HA2.out.tr FS3.out).tr FS4.out)
  have T3 := Lib.hid (HA3.out.tr FS4.out)
  have T4 := Lib.hid HA4.out
  have C0 := Lib.hid ((((FS1.out.tr FS2.out).tr FS3.out).tr FS4.out).at_ NB0.out (fun h => h))
  have C1 := Lib.hid (((FS2.out.tr FS3.out).tr FS4.out).at_ NB1.out (fun h => h))
  have C2 := Lib.hid ((FS3.out.tr FS4.out).at_ NB2.out (fun h => h))
  have C3 := Lib.hid (FS4.out.at_ NB3.out (fun h => h))
  have C4 := Lib.hid (NB4.out)
  have Y0 := Lib.hid (Fr.refl none_ (w5.alloc (.cells #[.int .i64 k4, .int .u64 b40, .int .u64 b41, .int .u64 b42, .int .u64 b43, .slice a4 ks4.length c4] 28)))
  obtain ⟨z00, z01, z02, z03, z04, z05⟩ := six (Y0.out.at_ C0.out (fun h => h))
  go_wp2_with fail
  refine (match_any (.mk k0 b00 b01 b02 b03 ks0) s _ (fun _ => True) _ (by omega) (by have := parseR_size a; rw [HR0.out] at this; omega) (RxV.mk_ hc0 (RxL.move (fun i _ hlt => (T0.out.tr Y0.out).block i hlt (fun h => h)) _ _ _ HL0.out))).mono ?_
  rintro e u0 ⟨rfl, Fu⟩
  have Y1 := Lib.hid (Y0.out.tr Fu)
  clear Fu z00 z01 z02 z03 z04 z05
  have G := Lib.hid (G.out.tr Y1.out)
  have T0 := Lib.hid (T0.out.tr Y1.out)
  have C0 := Lib.hid (Y1.out.at_ C0.out (fun h => h))
  have T1 := Lib.hid (T1.out.tr Y1.out)
  have C1 := Lib.hid (Y1.out.at_ C1.out (fun h => h))
  have T2 := Lib.hid (T2.out.tr Y1.out)
  have C2 := Lib.hid (Y1.out.at_ C2.out (fun h => h))
  have T3 := Lib.hid (T3.out.tr Y1.out)
  have C3 := Lib.hid (Y1.out.at_ C3.out (fun h => h))
  have T4 := Lib.hid (T4.out.tr Y1.out)
  have C4 := Lib.hid (Y1.out.at_ C4.out (fun h => h))
  have HC0 := Lib.hid (fun (u : ByteArray) (hu : u.size ≤ 24) (wx : World) (hx : Fr none_ u0 wx) => match_any (.mk k0 b00 b01 b02 b03 ks0) u _ (fun _ => True) wx (by omega) (by have := parseR_size a; rw [HR0.out] at this; omega) (RxV.mk_ hc0 (RxL.move (fun i _ hlt => (T0.out.tr hx).block i hlt (fun h => h)) _ _ _ HL0.out)))
  have HC1 := Lib.hid (fun (u : ByteArray) (hu : u.size ≤ 24) (wx : World) (hx : Fr none_ u0 wx) => match_any (.mk k1 b10 b11 b12 b13 ks1) u _ (fun _ => True) wx (by omega) (by have := parseR_size b; rw [HR1.out] at this; omega) (RxV.mk_ hc1 (RxL.move (fun i _ hlt => (T1.out.tr hx).block i hlt (fun h => h)) _ _ _ HL1.out)))
  have HC2 := Lib.hid (fun (u : ByteArray) (hu : u.size ≤ 24) (wx : World) (hx : Fr none_ u0 wx) => match_any (.mk k2 b20 b21 b22 b23 ks2) u _ (fun _ => True) wx (by omega) (by have := parseR_size t2; rw [HR2.out] at this; omega) (RxV.mk_ hc2 (RxL.move (fun i _ hlt => (T2.out.tr hx).block i hlt (fun h => h)) _ _ _ HL2.out)))
  have HC3 := Lib.hid (fun (u : ByteArray) (hu : u.size ≤ 24) (wx : World) (hx : Fr none_ u0 wx) => match_any (.mk k3 b30 b31 b32 b33 ks3) u _ (fun _ => True) wx (by omega) (by have := parseR_size t3; rw [HR3.out] at this; omega) (RxV.mk_ hc3 (RxL.move (fun i _ hlt => (T3.out.tr hx).block i hlt (fun h => h)) _ _ _ HL3.out)))
  have HC4 := Lib.hid (fun (u : ByteArray) (hu : u.size ≤ 24) (wx : World) (hx : Fr none_ u0 wx) => match_any (.mk k4 b40 b41 b42 b43 ks4) u _ (fun _ => True) wx (by omega) (by have := parseR_size t4; rw [HR4.out] at this; omega) (RxV.mk_ hc4 (RxL.move (fun i _ hlt => (T4.out.tr hx).block i hlt (fun h => h)) _ _ _ HL4.out)))
  clear T0 FS0 NB0 HA0 HR0 HL0 HN0 hc0 T1 FS1 NB1 HA1 HR1 HL1 HN1 hc1 T2 FS2 NB2 HA2 HR2 HL2 HN2 hc2 T3 FS3 NB3 HA3 HR3 HL3 HN3 hc3 T4 FS4 NB4 HA4 HR4 HL4 HN4 hc4 HX2 HX3 HX4 hz2 hz3 hz4 HF0 Y0 Y1 HPA HPB q0 q1 q2 q3 q4 q5 q6
  have X1 := Lib.hid (Fr.refl none_ u0)
  obtain ⟨z10, z11, z12, z13, z14, z15⟩ := six (X1.out.at_ C1.out (fun h => h))
  go_wp2_with fail
  refine (HC1.out s (by omega) _ X1.out).mono ?_
  rintro e u1 ⟨rfl, Fu⟩
  have X2 := Lib.hid (X1.out.tr Fu)
  clear Fu z10 z11 z12 z13 z14 z15
  obtain ⟨mp, hmp⟩ : ∃ m, matchP (.mk k0 b00 b01 b02 b03 ks0) s = m := ⟨_, rfl⟩
  obtain ⟨mq, hmq⟩ : ∃ m, matchP (.mk k1 b10 b11 b12 b13 ks1) s = m := ⟨_, rfl⟩
  have HMP := Lib.hid hmp
  have HMQ := Lib.hid hmq
  rw [hmp, hmq]
  clear hmp hmq
  go_wp2_with fail
  go_loopw [22, 23] (fun x22 x23 wr => ∃ k : Nat, k ≤ s.size + 1 ∧ x23 = .int .i64 k ∧ x22 = .bool (cutsM (.mk k0 b00 b01 b02 b03 ks0) (.mk k1 b10 b11 b12 b13 ks1) s k) ∧ Aside (Fr none_ u0 wr)) (fun _ x23 _ => s.size + 1 - (intOf x23).toNat)
  case atStart => exact ⟨0, by omega, rfl, rfl, X2.out⟩
  case round =>
    obtain ⟨k, hk, rfl, rfl, hfr⟩ := hrel
    have HFr := Lib.hid hfr.out
    clear hfr
    obtain ⟨mc, hmc⟩ : ∃ m, cutsM (.mk k0 b00 b01 b02 b03 ks0) (.mk k1 b10 b11 b12 b13 ks1) s k = m := ⟨_, rfl⟩
    have HMC := Lib.hid hmc
    rw [hmc]
    clear hmc
    by_cases hlt : k ≤ s.size
    · have hk' : (k : Int) ≤ (s.size : Int) := by omega
      have hk0 : (0 : Int) ≤ (k : Int) := by omega
      have G0 : Fr none_ u0 wr.drew := HFr.out.drew
      have HNB := Lib.hid (HFr.out.at_ C0.out (fun h => h))
      have HCX := Lib.hid (fun (wx : World) (hx : Fr none_ u0 wx) => HC0.out (s.extract 0 k) (by simp only [ByteArray.size_extract]; omega) wx hx)
      obtain ⟨mu, hmu⟩ : ∃ m, matchP (.mk k0 b00 b01 b02 b03 ks0) (s.extract 0 k) = m := ⟨_, rfl⟩
      have HMU := Lib.hid hmu
      rw [hmu] at HCX
      clear hmu
      obtain ⟨z00, z01, z02, z03, z04, z05⟩ := six HNB.out
      go_wp2_with fail
      first | (go_region_held3 (fun w' => w'.cell? ⟨w1.heap.size, 0, none⟩ = some (.int .i64 k0) ∧ w'.cell? ⟨w1.heap.size, 1, none⟩ = some (.int .u64 b00) ∧ w'.cell? ⟨w1.heap.size, 2, none⟩ = some (.int .u64 b01) ∧ w'.cell? ⟨w1.heap.size, 3, none⟩ = some (.int .u64 b02) ∧ w'.cell? ⟨w1.heap.size, 4, none⟩ = some (.int .u64 b03) ∧ w'.cell? ⟨w1.heap.size, 5, none⟩ = some (.slice a0 ks0.length c0)) (exact ⟨z00, z01, z02, z03, z04, z05⟩) (first
        | (go_at_call 33; with_reducible refine (HCX.out _ (by assumption)).mono ?_; rintro e wa ⟨rfl, Fx⟩; have Gx := Fr.tr (a := u0) (by assumption) Fx; obtain ⟨z00, z01, z02, z03, z04, z05⟩ := six (Gx.at_ C0.out (fun h => h)); clear Fx))) | fail
      have HFa := Lib.hid (show Fr none_ u0 _ by assumption)
      clear G0 z00 z01 z02 z03 z04 z05
      clear Gx
      have G0 : Fr none_ u0 wa.drew := HFa.out.drew
      have HCY := Lib.hid (fun (wx : World) (hx : Fr none_ u0 wx) => HC1.out (s.extract k s.size) (by simp only [ByteArray.size_extract]; omega) wx hx)
      obtain ⟨mv, hmv⟩ : ∃ m, matchP (.mk k1 b10 b11 b12 b13 ks1) (s.extract k s.size) = m := ⟨_, rfl⟩
      have HMV := Lib.hid hmv
      rw [hmv] at HCY
      clear hmv
      obtain ⟨z10, z11, z12, z13, z14, z15⟩ := six (HFa.out.at_ C1.out (fun h => h))
      go_wp2_with fail
      first | (go_region_held3 (fun w' => w'.cell? ⟨w2.heap.size, 0, none⟩ = some (.int .i64 k1) ∧ w'.cell? ⟨w2.heap.size, 1, none⟩ = some (.int .u64 b10) ∧ w'.cell? ⟨w2.heap.size, 2, none⟩ = some (.int .u64 b11) ∧ w'.cell? ⟨w2.heap.size, 3, none⟩ = some (.int .u64 b12) ∧ w'.cell? ⟨w2.heap.size, 4, none⟩ = some (.int .u64 b13) ∧ w'.cell? ⟨w2.heap.size, 5, none⟩ = some (.slice a1 ks1.length c1)) (exact ⟨z10, z11, z12, z13, z14, z15⟩) (first
        | (go_at_call 33; with_reducible refine (HCY.out _ (by assumption)).mono ?_; rintro e wb ⟨rfl, Fx⟩; have Gx := Fr.tr (a := u0) (by assumption) Fx; obtain ⟨z10, z11, z12, z13, z14, z15⟩ := six (Gx.at_ C1.out (fun h => h)); clear Fx))) | fail
      have HFb := Lib.hid (show Fr none_ u0 _ by assumption)
      have HS := Lib.hid (show cutsM (.mk k0 b00 b01 b02 b03 ks0) (.mk k1 b10 b11 b12 b13 ks1) s (k + 1) = (mc || (mu && mv)) by rw [cutsM_succ, HMC.out, HMU.out, HMV.out])
      clear G0 z10 z11 z12 z13 z14 z15 HMC HMU HMV
      cases mc <;> cases mu <;> cases mv
      all_goals
        go_wp2_with fail
        go_roundw
        case rel => exact ⟨k + 1, by omega, by go_num, by rw [HS.out]; rfl, HFb.out⟩
        case measure => simp [intOf]; omega
    · obtain rfl : k = s.size + 1 := by omega
      obtain ⟨z40, z41, z42, z43, z44, z45⟩ := six (HFr.out.at_ C4.out (fun h => h))
      go_wp2_with fail
      refine (HC4.out s (by omega) _ HFr.out).mono ?_
      rintro e u2 ⟨rfl, Fu⟩
      have X3 := Lib.hid (HFr.out.tr Fu)
      clear Fu z40 z41 z42 z43 z44 z45
      obtain ⟨z40, z41, z42, z43, z44, z45⟩ := six (X3.out.at_ C4.out (fun h => h))
      obtain ⟨ms, hms⟩ : ∃ m, matchP (.mk k4 b40 b41 b42 b43 ks4) s = m := ⟨_, rfl⟩
      have N4 := M4.out
      have N5 := M5.out
      rw [HMP.out, hms] at N4
      rw [hms] at N5 ⊢
      have N5 := Lib.hid N5
      go_wp2_with fail
      refine (HC4.out t (by omega) _ X3.out).mono ?_
      rintro e u3 ⟨rfl, Fu⟩
      have X4 := Lib.hid (X3.out.tr Fu)
      clear Fu z40 z41 z42 z43 z44 z45
      obtain ⟨mt, hmt⟩ : ∃ m, matchP (.mk k4 b40 b41 b42 b43 ks4) t = m := ⟨_, rfl⟩
      have N5 := N5.out
      rw [hmt] at N5 ⊢
      have N5 := Lib.hid N5
      clear hmt
      obtain ⟨z20, z21, z22, z23, z24, z25⟩ := six (X4.out.at_ C2.out (fun h => h))
      go_wp2_with fail
      refine (HC2.out s (by omega) _ X4.out).mono ?_
      rintro e u4 ⟨rfl, Fu⟩
      have X5 := Lib.hid (X4.out.tr Fu)
      rw [M2.out, HMP.out, HMQ.out]
      clear Fu z20 z21 z22 z23 z24 z25 HMP HMQ
      obtain ⟨z30, z31, z32, z33, z34, z35⟩ := six (X5.out.at_ C3.out (fun h => h))
      cases mp <;> cases mq
      all_goals
        go_wp2_with fail
        refine (HC3.out s (by omega) _ X5.out).mono ?_
        rintro e u5 ⟨rfl, Fu⟩
        have X6 := Lib.hid (X5.out.tr Fu)
        rw [M3.out, HMC.out]
        clear Fu z30 z31 z32 z33 z34 z35
        obtain ⟨z40, z41, z42, z43, z44, z45⟩ := six (X6.out.at_ C4.out (fun h => h))
        cases ms
        · first
            | (exfalso; exact absurd (N4 rfl) (by decide))
            | (cases mt
               all_goals
                 go_wp2_with fail
                 with_reducible refine (HC4.out ⟨#[]⟩ (by decide) _ X6.out).mono ?_
                 rintro e u7 ⟨rfl, Fu⟩
                 have X8 := Lib.hid (X6.out.tr Fu)
                 rw [M6.out]
                 clear Fu z40 z41 z42 z43 z44 z45
                 go_wp2_with fail
                 go_ret
                 exact ⟨rfl, (G.out.tr X8.out).below⟩)
        · cases mt
          ·
            go_wp2_with fail
            with_reducible refine (HC4.out ⟨#[]⟩ (by decide) _ X6.out).mono ?_
            rintro e u7 ⟨rfl, Fu⟩
            have X8 := Lib.hid (X6.out.tr Fu)
            rw [M6.out]
            clear Fu z40 z41 z42 z43 z44 z45
            go_wp2_with fail
            go_ret
            exact ⟨rfl, (G.out.tr X8.out).below⟩
          ·
            go_wp2_with fail
            with_reducible refine (HC4.out (s ++ t) (by rw [ByteArray.size_append]; omega) _ X6.out).mono ?_
            rintro e u6 ⟨rfl, Fu⟩
            have X7 := Lib.hid (X6.out.tr Fu)
            rw [N5.out (by simp) (by simp)]
            clear Fu z40 z41 z42 z43 z44 z45
            obtain ⟨z40, z41, z42, z43, z44, z45⟩ := six (X7.out.at_ C4.out (fun h => h))
            go_wp2_with fail
            with_reducible refine (HC4.out ⟨#[]⟩ (by decide) _ X7.out).mono ?_
            rintro e u7 ⟨rfl, Fu⟩
            have X8 := Lib.hid (X7.out.tr Fu)
            rw [M6.out]
            clear Fu z40 z41 z42 z43 z44 z45
            go_wp2_with fail
            go_ret
            exact ⟨rfl, (G.out.tr X8.out).below⟩

theorem regexWays_any (a b s t : ByteArray) (w : World) (ha : a.size ≤ 140737488351232) (hb : b.size ≤ 140737488351232) (hs : s.size ≤ 140737488351232) (ht : t.size ≤ 140737488351232) :
    Calls Try.prog 9 #[.string a, .string b, .string s, .string t] w fun e w' => e = .returned (.bool true) ∧ Below w.heap.size w w' := by
  by_cases h : 15 < a.size ∨ 15 < b.size ∨ 12 < s.size ∨ 12 < t.size
  · exact ways_far a b s t w ha hb hs ht h
  · exact ways_near a b s t w (by omega) (by omega) (by omega) (by omega)

end Go.Proofs.Ytgpmbkgedhcbjaa
