/-
  The law NfaApart: of regexes that are put together each is matched as it is by itself.
-/
import Derived.Test.YtgpmbkgedhcbjaaDoorBp
namespace Go.Proofs.YtgpmbkgedhcbjaaDoor
open Go.RowKit

theorem RxOwn.low {B : Nat} {ok : Nat → Prop} {w : World} {v : Value} {l : List Rx} (h : RxOwn B ok w v l) : RxOwn B (fun k => ok k ∧ k < w.heap.size) w v l := by
  obtain ⟨cells, h1, h2⟩ := h
  refine ⟨cells, h1, fun j r hj => ?_⟩
  obtain ⟨cs, g1, g2, g3⟩ := h2 j r hj
  exact ⟨cs, g1, g2, RxC.mono (fun k hk => ⟨⟨hk.1.1, hk.2⟩, hk.1.2⟩) r cs (RxC.bound r cs g3)⟩
theorem apart_sizes (a b : List Rx) : Rx.sizes (a ++ b) = Rx.sizes a + Rx.sizes b := by
  induction a with
  | nil => simp [Rx.sizes]
  | cons x a ih => simp [Rx.sizes, ih]; omega
theorem apart_rsizes (rs : List Rx) (a : Option Addr) (n cap : Nat) (w : World) (ok : Nat → Prop) (N : Nat) (hn : rs.length = n) (hN : Rx.sizes rs = N) (hsz : N < 4611686018427387904) (hl : RxL ok w a 0 rs) :
    Calls Tryd.prog 7 #[.slice a n cap] w fun e w' => e = .returned (.int .i64 N) ∧ Fr none_ w w' := by
  subst hn
  subst hN
  exact rsizes_any rs a cap w ok hsz hl

set_option maxRecDepth 100000 in
set_option maxHeartbeats 4000000 in
theorem apart_skip (aa : Option Addr) (lena capa : Nat) (za : List ByteArray) (ab : Option Addr) (lenb capb : Nat) (zb : List ByteArray) (s : ByteArray) (w : World) (ha : StrsAt w aa lena za) (hb : StrsAt w ab lenb zb) (hs : s.size ≤ 140737488351232)
    (hc : ¬ Few za ∨ ¬ Few zb ∨ 40 < s.size) :
    Calls Tryd.prog 3 #[.slice aa lena capa, .slice ab lenb capb, .string s] w fun e w' => e = .returned (.bool true) ∧ Below w.heap.size w w' := by
  have HA := Lib.hid ha
  have HB := Lib.hid hb
  clear ha hb
  by_cases hfa : Few za
  · have HFEWa := Lib.hid hfa
    have hc1 : ¬ Few zb ∨ 40 < s.size := by
      rcases hc with h | h
      · exact absurd hfa h
      · exact h
    clear hc hfa
    by_cases hfb : Few zb
    · have HFEWb := Lib.hid hfb
      have h1 : 40 < s.size := by
        rcases hc1 with h | h
        · exact absurd hfb h
        · exact h
      have h1' : (40 : Int) < (s.size : Int) := by omega
      clear hc1 hfb
      go_enter Tryd.func3, Tryd.ntmps3
      go_wp2_with fail
      refine (works_any _).mono ?_
      rintro e w1 ⟨rfl, F1⟩
      have HF := Lib.hid F1
      clear F1
      go_wp2_with fail
      refine (over_no aa lena capa za _ (HA.out.move HF.out) HFEWa.out).mono ?_
      rintro e w2 ⟨rfl, rfl⟩
      go_wp2_with fail
      refine (over_no ab lenb capb zb _ (HB.out.move HF.out) HFEWb.out).mono ?_
      rintro e w2 ⟨rfl, rfl⟩
      go_wp2_with fail
      go_ret
      exact ⟨rfl, HF.out.below⟩
    · have HFEWb := Lib.hid hfb
      clear hc1 hfb
      go_enter Tryd.func3, Tryd.ntmps3
      go_wp2_with fail
      refine (works_any _).mono ?_
      rintro e w1 ⟨rfl, F1⟩
      have HF := Lib.hid F1
      clear F1
      go_wp2_with fail
      refine (over_no aa lena capa za _ (HA.out.move HF.out) HFEWa.out).mono ?_
      rintro e w2 ⟨rfl, rfl⟩
      go_wp2_with fail
      refine (over_yes ab lenb capb zb _ (HB.out.move HF.out) HFEWb.out).mono ?_
      rintro e w2 ⟨rfl, rfl⟩
      go_wp2_with fail
      go_ret
      exact ⟨rfl, HF.out.below⟩
  · have HFEWa := Lib.hid hfa
    clear hc hfa
    go_enter Tryd.func3, Tryd.ntmps3
    go_wp2_with fail
    refine (works_any _).mono ?_
    rintro e w1 ⟨rfl, F1⟩
    have HF := Lib.hid F1
    clear F1
    go_wp2_with fail
    refine (over_yes aa lena capa za _ (HA.out.move HF.out) HFEWa.out).mono ?_
    rintro e w2 ⟨rfl, rfl⟩
    go_wp2_with fail
    go_ret
    exact ⟨rfl, HF.out.below⟩

set_option maxRecDepth 100000 in
set_option maxHeartbeats 8000000 in
theorem apart_many (aa : Option Addr) (lena capa : Nat) (za : List ByteArray) (ab : Option Addr) (lenb capb : Nat) (zb : List ByteArray) (s : ByteArray) (w : World) (ha : StrsAt w aa lena za) (hb : StrsAt w ab lenb zb) (hfa : Few za) (hfb : Few zb) (hs : s.size ≤ 40) (hm : 3000 < Rx.sizes (parsedM za ++ parsedM zb)) :
    Calls Tryd.prog 3 #[.slice aa lena capa, .slice ab lenb capb, .string s] w fun e w' => e = .returned (.bool true) ∧ Below w.heap.size w w' := by
  have HA := Lib.hid ha
  have HB := Lib.hid hb
  have HFEWa := Lib.hid hfa
  have HFEWb := Lib.hid hfb
  have h1' : (s.size : Int) ≤ 40 := by omega
  have hleX : (parsedM za).length ≤ 8 := by have := parsedM_length za; have := hfa.1; omega
  have hleY : (parsedM zb).length ≤ 8 := by have := parsedM_length zb; have := hfb.1; omega
  have HS8 : Rx.sizes (parsedM za ++ parsedM zb) ≤ 8000 := by rw [apart_sizes]; have := parsedM_sizes za hfa.1; have := parsedM_sizes zb hfb.1; omega
  obtain ⟨i0, hi, hz0, hz1, hz2⟩ := info_parts rx_info
  clear ha hb hfa hfb
  go_enter Tryd.func3, Tryd.ntmps3
  go_wp2_with fail
  refine (works_any _).mono ?_
  rintro e w1 ⟨rfl, F1⟩
  have HF := Lib.hid F1
  clear F1
  go_wp2_with fail
  refine (over_no aa lena capa za _ (HA.out.move HF.out) HFEWa.out).mono ?_
  rintro e w2 ⟨rfl, rfl⟩
  go_wp2_with fail
  refine (over_no ab lenb capb zb _ (HB.out.move HF.out) HFEWb.out).mono ?_
  rintro e w2 ⟨rfl, rfl⟩
  go_wp2_with fail
  refine (parsed_own aa lena capa za _ (HA.out.move HF.out) HFEWa.out).mono ?_
  rintro e w3 ⟨vx, rfl, hox, F3⟩
  have HF3 := Lib.hid (HF.out.tr F3)
  have HOX := Lib.hid hox.low
  obtain ⟨ax, cx, rfl, hcx, hlx⟩ := hox.rows
  clear hox F3 hlx
  generalize parsedM za = X at *
  obtain ⟨NX, hNX⟩ : ∃ N : Nat, X.length = N := ⟨_, rfl⟩
  rw [hNX] at hcx hleX HOX ⊢
  have HNX := Lib.hid hNX
  clear hNX
  go_wp2_with fail
  refine (parsed_own ab lenb capb zb _ (HB.out.move HF3.out) HFEWb.out).mono ?_
  rintro e w4 ⟨vy, rfl, hoy, F4⟩
  have HF4 := Lib.hid (HF3.out.tr F4)
  have HOX4 := Lib.hid (HOX.out.move F4 (fun _ _ _ h => h) (fun _ _ _ h => h)).low
  have HOY := Lib.hid hoy.low
  obtain ⟨ay, cy, rfl, hcy, hly⟩ := hoy.rows
  clear hoy F4 hly
  generalize parsedM zb = Y at *
  obtain ⟨NY, hNY⟩ : ∃ N : Nat, Y.length = N := ⟨_, rfl⟩
  rw [hNY] at hcy hleY HOY ⊢
  have HNY := Lib.hid hNY
  clear hNY
  go_wp2_with (at_builtin; refine wpList_append_rx _ rfl (.tmp 39) (.tmp 40) 25 rfl i0 _ 64 Tryd.underlying25 hi hz0 hz1 hz2 rfl _ [] w4.heap.size _ (fun k => k < w4.heap.size) _ rfl (RxOwn.nil _ _ _) _ X rfl HOX4.out ?c1 ?c2 ?c3 ?c4 ?_)
  case c1 => intro k hk hlt; exact ⟨hlt, hlt⟩
  case c2 => rw [HNX.out]; unfold maxLen; simp; omega
  case c3 => rw [HNX.out]; simp; omega
  case c4 => exact Nat.le_refl _
  intro v5 w5 ho5 F5
  have HO5 := Lib.hid ho5
  have HY5 := Lib.hid (HOY.out.move F5 (fun k hk hlt h => by omega) (fun k hk hlt h => by omega))
  have HF5 := Lib.hid (HF4.out.trans F5 (fun i hi hs => by have := HF4.out.size; omega))
  have F5S := Lib.hid F5.size
  have F5F := Lib.hid F5
  clear ho5 F5
  go_wp2_with (at_builtin; refine wpList_append_rx _ rfl (.tmp 42) (.tmp 43) 25 rfl i0 _ 64 Tryd.underlying25 hi hz0 hz1 hz2 rfl _ X w4.heap.size _ (fun k => k < w4.heap.size) _ rfl HO5.out _ Y rfl HY5.out ?d1 ?d2 ?d3 ?d4 ?_)
  case d1 => intro k hk hlt; exact ⟨hk.2, hk.2⟩
  case d2 => rw [HNX.out, HNY.out]; unfold maxLen; omega
  case d3 => rw [HNX.out, HNY.out]; omega
  case d4 => exact F5S.out
  intro v6 w6 ho6 F6
  have HX6 := Lib.hid (HOX4.out.move (F5F.out.tr F6) (fun k hk hlt h => by omega) (fun k hk hlt h => by omega))
  have HY6 := Lib.hid (HOY.out.move (F5F.out.tr F6) (fun k hk hlt h => by omega) (fun k hk hlt h => by omega))
  have HF6 := Lib.hid (HF5.out.trans F6 (fun i hi hs => by have := HF4.out.size; omega))
  obtain ⟨ab6, cb6, rfl, hcb6, hlb6⟩ := ho6.rows
  have HLB := Lib.hid hlb6
  have HNB := Lib.hid (show (X ++ Y).length = NX + NY by rw [List.length_append, HNX.out, HNY.out])
  rw [HNB.out] at hcb6 ⊢
  clear ho6 F6 hlb6 HO5 HY5 F5F
  obtain ⟨axx, cxx, hxe, _, hlx6⟩ := HX6.out.rows
  rw [HNX.out] at hxe
  cases hxe
  obtain ⟨ayy, cyy, hye, _, hly6⟩ := HY6.out.rows
  rw [HNY.out] at hye
  cases hye
  have HLX := Lib.hid hlx6
  have HLY := Lib.hid hly6
  clear hlx6 hly6
  obtain ⟨Z, hZ⟩ : ∃ Z : Nat, Rx.sizes (X ++ Y) = Z := ⟨_, rfl⟩
  rw [hZ] at hm HS8
  have HZ := Lib.hid hZ
  clear hZ
  generalize X ++ Y = XY at *
  go_wp2_with fail
  refine (apart_rsizes XY ab6 (NX + NY) cb6 _ _ Z HNB.out HZ.out (by omega) HLB.out).mono ?_
  rintro e w7 ⟨rfl, F7⟩
  have HF7 := Lib.hid (HF6.out.tr F7)
  have hm' : (3000 : Int) < (Z : Int) := by omega
  clear F7
  go_wp2_with fail
  go_ret
  exact ⟨rfl, HF7.out.below⟩

set_option maxRecDepth 100000 in
set_option maxHeartbeats 8000000 in
theorem apart_runs (aa : Option Addr) (lena capa : Nat) (za : List ByteArray) (ab : Option Addr) (lenb capb : Nat) (zb : List ByteArray) (s : ByteArray) (w : World) (ha : StrsAt w aa lena za) (hb : StrsAt w ab lenb zb) (hT : TabOk w) (hfa : Few za) (hfb : Few zb) (hs : s.size ≤ 40) (hm : Rx.sizes (parsedM za ++ parsedM zb) ≤ 3000) :
    Calls Tryd.prog 3 #[.slice aa lena capa, .slice ab lenb capb, .string s] w fun e w' => e = .returned (.bool true) ∧ Below w.heap.size w w' := by
  obtain ⟨j0, hj, hy0, hy1, hy2⟩ := info_parts int_info
  have HA := Lib.hid ha
  have HB := Lib.hid hb
  have HFEWa := Lib.hid hfa
  have HFEWb := Lib.hid hfb
  have h1' : (s.size : Int) ≤ 40 := by omega
  have hleX : (parsedM za).length ≤ 8 := by have := parsedM_length za; have := hfa.1; omega
  have hleY : (parsedM zb).length ≤ 8 := by have := parsedM_length zb; have := hfb.1; omega
  have HS8 : Rx.sizes (parsedM za ++ parsedM zb) ≤ 8000 := by rw [apart_sizes]; have := parsedM_sizes za hfa.1; have := parsedM_sizes zb hfb.1; omega
  obtain ⟨i0, hi, hz0, hz1, hz2⟩ := info_parts rx_info
  have HT := Lib.hid hT
  have hsx : Rx.sizes (parsedM za) ≤ 3000 := by rw [apart_sizes] at hm; omega
  have hsy : Rx.sizes (parsedM zb) ≤ 3000 := by rw [apart_sizes] at hm; omega
  have HFX := Lib.hid (fit_build (parsedM za) hsx)
  have HFY := Lib.hid (fit_build (parsedM zb) hsy)
  have HFB := Lib.hid (fit_build (parsedM za ++ parsedM zb) hm)
  have hst : ∀ l : List Rx, l.length ≤ 16 → (buildM l 0 [] []).2.length ≤ 1000 := fun l h => by
    have h1 := (buildM_facts l 0 [] []).2.1
    simp only [List.length_nil, Nat.zero_add] at h1
    omega
  have HTX := Lib.hid (hst (parsedM za) (by omega))
  have HTY := Lib.hid (hst (parsedM zb) (by omega))
  have HTB := Lib.hid (hst (parsedM za ++ parsedM zb) (by rw [List.length_append]; omega))
  have HRUN := Lib.hid (run_both (parsedM za) (parsedM zb) hleX hleY (bytesN s))
  have HSX := Lib.hid hsx
  have HSY := Lib.hid hsy
  clear ha hb hfa hfb hT hst hsx hsy
  go_enter Tryd.func3, Tryd.ntmps3
  go_wp2_with fail
  refine (works_any _).mono ?_
  rintro e w1 ⟨rfl, F1⟩
  have HF := Lib.hid F1
  clear F1
  go_wp2_with fail
  refine (over_no aa lena capa za _ (HA.out.move HF.out) HFEWa.out).mono ?_
  rintro e w2 ⟨rfl, rfl⟩
  go_wp2_with fail
  refine (over_no ab lenb capb zb _ (HB.out.move HF.out) HFEWb.out).mono ?_
  rintro e w2 ⟨rfl, rfl⟩
  go_wp2_with fail
  refine (parsed_own aa lena capa za _ (HA.out.move HF.out) HFEWa.out).mono ?_
  rintro e w3 ⟨vx, rfl, hox, F3⟩
  have HF3 := Lib.hid (HF.out.tr F3)
  have HOX := Lib.hid hox.low
  obtain ⟨ax, cx, rfl, hcx, hlx⟩ := hox.rows
  clear hox F3 hlx
  generalize parsedM za = X at *
  obtain ⟨NX, hNX⟩ : ∃ N : Nat, X.length = N := ⟨_, rfl⟩
  rw [hNX] at hcx hleX HOX ⊢
  have HNX := Lib.hid hNX
  clear hNX
  go_wp2_with fail
  refine (parsed_own ab lenb capb zb _ (HB.out.move HF3.out) HFEWb.out).mono ?_
  rintro e w4 ⟨vy, rfl, hoy, F4⟩
  have HF4 := Lib.hid (HF3.out.tr F4)
  have HOX4 := Lib.hid (HOX.out.move F4 (fun _ _ _ h => h) (fun _ _ _ h => h)).low
  have HOY := Lib.hid hoy.low
  obtain ⟨ay, cy, rfl, hcy, hly⟩ := hoy.rows
  clear hoy F4 hly
  generalize parsedM zb = Y at *
  obtain ⟨NY, hNY⟩ : ∃ N : Nat, Y.length = N := ⟨_, rfl⟩
  rw [hNY] at hcy hleY HOY ⊢
  have HNY := Lib.hid hNY
  clear hNY
  go_wp2_with (at_builtin; refine wpList_append_rx _ rfl (.tmp 39) (.tmp 40) 25 rfl i0 _ 64 Tryd.underlying25 hi hz0 hz1 hz2 rfl _ [] w4.heap.size _ (fun k => k < w4.heap.size) _ rfl (RxOwn.nil _ _ _) _ X rfl HOX4.out ?c1 ?c2 ?c3 ?c4 ?_)
  case c1 => intro k hk hlt; exact ⟨hlt, hlt⟩
  case c2 => rw [HNX.out]; unfold maxLen; simp; omega
  case c3 => rw [HNX.out]; simp; omega
  case c4 => exact Nat.le_refl _
  intro v5 w5 ho5 F5
  have HO5 := Lib.hid ho5
  have HY5 := Lib.hid (HOY.out.move F5 (fun k hk hlt h => by omega) (fun k hk hlt h => by omega))
  have HF5 := Lib.hid (HF4.out.trans F5 (fun i hi hs => by have := HF4.out.size; omega))
  have F5S := Lib.hid F5.size
  have F5F := Lib.hid F5
  clear ho5 F5
  go_wp2_with (at_builtin; refine wpList_append_rx _ rfl (.tmp 42) (.tmp 43) 25 rfl i0 _ 64 Tryd.underlying25 hi hz0 hz1 hz2 rfl _ X w4.heap.size _ (fun k => k < w4.heap.size) _ rfl HO5.out _ Y rfl HY5.out ?d1 ?d2 ?d3 ?d4 ?_)
  case d1 => intro k hk hlt; exact ⟨hk.2, hk.2⟩
  case d2 => rw [HNX.out, HNY.out]; unfold maxLen; omega
  case d3 => rw [HNX.out, HNY.out]; omega
  case d4 => exact F5S.out
  intro v6 w6 ho6 F6
  have HX6 := Lib.hid (HOX4.out.move (F5F.out.tr F6) (fun k hk hlt h => by omega) (fun k hk hlt h => by omega))
  have HY6 := Lib.hid (HOY.out.move (F5F.out.tr F6) (fun k hk hlt h => by omega) (fun k hk hlt h => by omega))
  have HF6 := Lib.hid (HF5.out.trans F6 (fun i hi hs => by have := HF4.out.size; omega))
  obtain ⟨ab6, cb6, rfl, hcb6, hlb6⟩ := ho6.rows
  have HLB := Lib.hid hlb6
  have HNB := Lib.hid (show (X ++ Y).length = NX + NY by rw [List.length_append, HNX.out, HNY.out])
  rw [HNB.out] at hcb6 ⊢
  clear ho6 F6 hlb6 HO5 HY5 F5F
  obtain ⟨axx, cxx, hxe, _, hlx6⟩ := HX6.out.rows
  rw [HNX.out] at hxe
  cases hxe
  obtain ⟨ayy, cyy, hye, _, hly6⟩ := HY6.out.rows
  rw [HNY.out] at hye
  cases hye
  have HLX := Lib.hid hlx6
  have HLY := Lib.hid hly6
  clear hlx6 hly6
  obtain ⟨Z, hZ⟩ : ∃ Z : Nat, Rx.sizes (X ++ Y) = Z := ⟨_, rfl⟩
  rw [hZ] at hm HS8
  have HZ := Lib.hid hZ
  clear hZ
  generalize X ++ Y = XY at *
  go_wp2_with fail
  refine (apart_rsizes XY ab6 (NX + NY) cb6 _ _ Z HNB.out HZ.out (by omega) HLB.out).mono ?_
  rintro e w7 ⟨rfl, F7⟩
  have HF7 := Lib.hid (HF6.out.tr F7)
  have hm' : (Z : Int) ≤ 3000 := by omega
  have LX7 := Lib.hid (RxL.move (fun k hk hlt => F7.block k hlt (fun h => h)) _ _ _ HLX.out)
  have LY7 := Lib.hid (RxL.move (fun k hk hlt => F7.block k hlt (fun h => h)) _ _ _ HLY.out)
  have LB7 := Lib.hid (RxL.move (fun k hk hlt => F7.block k hlt (fun h => h)) _ _ _ HLB.out)
  clear F7 HLX HLY HLB HX6 HY6
  go_wp2_with fail
  refine (build_val X ax NX cx _ _ HNX.out LX7.out (by rw [HNX.out]; omega) HSX.out).mono ?_
  rintro e w8 ⟨dx, rfl, hmx, F8⟩
  have MX8 := Lib.hid hmx
  have HF8 := Lib.hid (HF7.out.tr F8)
  have LY8 := Lib.hid (RxL.move (fun k hk hlt => F8.block k hlt (fun h => h)) _ _ _ LY7.out)
  have LB8 := Lib.hid (RxL.move (fun k hk hlt => F8.block k hlt (fun h => h)) _ _ _ LB7.out)
  clear F8 hmx LX7 LY7 LB7
  go_wp2_with fail
  refine (build_val Y ay NY cy _ _ HNY.out LY8.out (by rw [HNY.out]; omega) HSY.out).mono ?_
  rintro e w9 ⟨dy, rfl, hmy, F9⟩
  have MX9 := Lib.hid (MX8.out.move F9)
  have MY9 := Lib.hid hmy
  have HF9 := Lib.hid (HF8.out.tr F9)
  have LB9 := Lib.hid (RxL.move (fun k hk hlt => F9.block k hlt (fun h => h)) _ _ _ LB8.out)
  clear F9 hmy LY8 LB8 MX8
  go_wp2_with fail
  refine (build_val XY ab6 (NX + NY) cb6 _ _ HNB.out LB9.out (by rw [HNB.out]; omega) (by rw [HZ.out]; exact hm)).mono ?_
  rintro e wA ⟨db, rfl, hmb, FA⟩
  have MXA := Lib.hid (MX9.out.move FA)
  have MYA := Lib.hid (MY9.out.move FA)
  have MBA := Lib.hid hmb
  have HFA := Lib.hid (HF9.out.tr FA)
  clear FA hmb LB9 MX9 MY9
  rw [HNX.out] at HRUN
  generalize (buildM X 0 [] []).1 = GX at *
  generalize (buildM X 0 [] []).2 = SX at *
  generalize (buildM Y 0 [] []).1 = GY at *
  generalize (buildM Y 0 [] []).2 = SY at *
  generalize (buildM XY 0 [] []).1 = GB at *
  generalize (buildM XY 0 [] []).2 = SB at *
  have hxl : runM GX SX (bytesN s) < 18446744073709551616 := tagsM_lt _ _
  have hyl : runM GY SY (bytesN s) < 18446744073709551616 := tagsM_lt _ _
  obtain ⟨p, hp⟩ : ∃ p : Nat, runM GX SX (bytesN s) = p := ⟨_, rfl⟩
  obtain ⟨q, hq⟩ : ∃ q : Nat, runM GY SY (bytesN s) = q := ⟨_, rfl⟩
  obtain ⟨r, hr⟩ : ∃ r : Nat, runM GB SB (bytesN s) = r := ⟨_, rfl⟩
  rw [hp] at hxl
  rw [hq] at hyl
  rw [hp, hq, hr] at HRUN
  have HP := Lib.hid hp
  have HQ := Lib.hid hq
  have HRR := Lib.hid hr
  clear hp hq hr
  go_wp2_with fail
  refine (run_val dx _ GX SX s p MXA.out HFX.out HTX.out (by omega) HP.out).mono ?_
  rintro e wB ⟨rfl, FB⟩
  have MYB := Lib.hid (MYA.out.move FB)
  have MBB := Lib.hid (MBA.out.move FB)
  have HFBB := Lib.hid (HFA.out.tr FB)
  have GB1 := Lib.hid FB
  clear FB MXA MYA
  go_wp2_with fail
  refine (list_any p hxl _ (HT.out.move HFBB.out)).mono ?_
  rintro e wC ⟨vw, baseC, rfl, hwant, hb1, hb2, FC⟩
  have HW := Lib.hid hwant
  have MYC := Lib.hid (MYB.out.move FC)
  have MBC := Lib.hid (MBB.out.move FC)
  have HFC := Lib.hid (HFBB.out.tr FC)
  have GC1 := Lib.hid (GB1.out.tr FC)
  clear FC MYB MBB hwant
  go_wp2_with fail
  refine (run_val dy _ GY SY s q MYC.out HFY.out HTY.out (by omega) HQ.out).mono ?_
  rintro e wD ⟨rfl, FD⟩
  have MBD := Lib.hid (MBC.out.move FD)
  have HFD := Lib.hid (HFC.out.tr FD)
  have GD1 := Lib.hid (GC1.out.tr FD)
  have HWD := Lib.hid (ownsRow_same HW.out (fun b hb => FD.block b (HW.out.lt b hb).2 (fun h => h)))
  have hCD := FD.size
  clear FD MYC MBC
  go_wp2_with fail
  refine (list_any q hyl _ (HT.out.move HFD.out)).mono ?_
  rintro e wE ⟨vz, baseE, rfl, hzz, he1, he2, FE⟩
  have HZZ := Lib.hid hzz
  obtain ⟨az, cz, rfl, hcz⟩ := ownsRow_slice hzz
  have MBE := Lib.hid (MBD.out.move FE)
  have HFE := Lib.hid (HFD.out.tr FE)
  have GE1 := Lib.hid (GD1.out.tr FE)
  have HWE := Lib.hid (ownsRow_same HWD.out (fun b hb => FE.block b (HWD.out.lt b hb).2 (fun h => h)))
  have HSEP := Lib.hid (show ∀ b, vw.ownBlock = some b → b < wD.heap.size from fun b hb => (HWD.out.lt b hb).2)
  have hDE := FE.size
  clear FE MBD hzz
  have hpl := bitsL_length p
  have hql := bitsL_length q
  obtain ⟨L, hL⟩ : ∃ L : Nat, (bitsL q).length = L := ⟨_, rfl⟩
  rw [hL] at hcz hql ⊢
  have HL := Lib.hid hL
  clear hL
  obtain ⟨wo, hwo⟩ : ∃ wo : World, wo = wE := ⟨_, rfl⟩
  clear hwo
  go_wp2_with fail
  go_loopw [17, 19] (fun x17 x19 wr => ∃ i : Nat, i ≤ L ∧ x19 = .int .i64 i ∧ Aside (wr.ownsRow baseC 3 1 x17 (ints (bitsL p) ++ ((ints (bitsL q)).take i).map (· + (NX : Int))).length (intsV (ints (bitsL p) ++ ((ints (bitsL q)).take i).map (· + (NX : Int))))) ∧ Aside (Fr (fun k => baseC ≤ k ∧ (k < wD.heap.size ∨ wE.heap.size ≤ k)) wE wr) ∧ Aside (∀ b, x17.ownBlock = some b → b < wD.heap.size ∨ wE.heap.size ≤ b)) (fun _ x19 _ => L - (intOf x19).toNat)
  case atStart => exact ⟨0, Nat.zero_le _, rfl, by
    have h := HWE.out
    rw [nums_eq, ← ints_length] at h
    simp only [List.take_zero, List.map_nil, List.append_nil]
    exact h, Fr.refl _ _, fun b hb => .inl (HSEP.out b hb)⟩
  case round =>
    obtain ⟨i, hi', rfl, how, hfr, hsep⟩ := hrel
    have HO := Lib.hid how.out
    have HFr := Lib.hid hfr.out
    have HS := Lib.hid hsep.out
    have hEr := HFr.out.size
    clear how hfr hsep
    have HZr := Lib.hid (ownsRow_same HZZ.out (fun b hb => HFr.out.block b (HZZ.out.lt b hb).2 (fun h => by
      have h1 := (HZZ.out.lt b hb).1
      have h2 := (HZZ.out.lt b hb).2
      omega)))
    by_cases hlt : i < L
    · have hil : (i : Int) < (L : Int) := by omega
      obtain ⟨g, cz', hg, hg1, hg2⟩ := HZr.out.form (by rw [HL.out]; omega)
      rw [HL.out] at hg
      cases hg
      obtain ⟨z, hz⟩ : ∃ z, (bitsL q)[i]? = some z := ⟨(bitsL q)[i]'(by rw [HL.out]; exact hlt), List.getElem?_eq_getElem _⟩
      have HZr2 := HZr.out
      rw [HL.out] at HZr2
      have cz0 : wr.cell? ⟨g, i, none⟩ = some (.int .i64 z) := by
        rw [HZr2.cellAt i (by omega)]
        simp [nums, hz]
      have hz64 : z < 64 := by
        have := List.mem_of_getElem? hz
        unfold bitsL at this
        exact List.mem_range.1 (List.mem_filter.1 this).1
      have HTK := Lib.hid (show ((ints (bitsL q)).take (i + 1)).map (· + (NX : Int)) = ((ints (bitsL q)).take i).map (· + (NX : Int)) ++ [(z : Int) + NX] by
        rw [List.take_add_one]
        have : (ints (bitsL q))[i]? = some (z : Int) := by simp [ints, hz]
        rw [this]
        simp)
      have hwl : (ints (bitsL p) ++ ((ints (bitsL q)).take i).map (· + (NX : Int))).length ≤ 200 := by
        rw [List.length_append, List.length_map, List.length_take, ints_length, ints_length]
        omega
      obtain ⟨A, hA⟩ : ∃ A, ints (bitsL p) ++ ((ints (bitsL q)).take i).map (· + (NX : Int)) = A := ⟨_, rfl⟩
      rw [hA] at HO hwl
      have HAA := Lib.hid hA
      clear hz hA HZr2
      go_wp2_with (at_builtin; refine wpList_append_lies _ rfl (.tmp 100) (.tmp 108) 32 rfl baseC 3 j0 _ 1 8 Tryd.underlying32 hj hy0 hy1 hy2 rfl (by decide) _ A.length (intsV A) rfl (HO.out.alloc _) ⟨wr.heap.size, 0, none⟩ 1 1 [.int .i64 ((z : Int) + NX)] rfl rfl (getElem_block (alloc_new _ _)) ?e1 (by decide) ?e2 ?e3 ?e4 (wr.heap.size + 1) (by simp) ?_)
      case e1 => simp [Value.oneCell']
      case e2 => unfold maxLen; omega
      case e3 => omega
      case e4 => first | omega | (simp; omega)
      intro g2 cap2 w2 hown2 hgrow2 hat2 hlt2
      have FN := Lib.hid ((HFr.out.alloc (.cells #[.int .i64 ((z : Int) + NX)] 3)).grown hgrow2 (fun k hk => .inl ⟨(HO.out.lt k hk).1, HS.out k hk⟩))
      have HN2 := Lib.hid hown2
      have HS2 := Lib.hid (show ∀ b, (Value.slice (some ⟨g2, 0, none⟩) (A.length + 1) cap2).ownBlock = some b → b < wD.heap.size ∨ wE.heap.size ≤ b from fun b hb => by
        have : g2 = b := Option.some.inj hb
        subst this
        rcases hat2 with h | h
        · exact HS.out _ h
        · exact .inr (by omega))
      clear hown2 hgrow2 hat2 hlt2 cz0
      go_wp2_with fail
      go_roundw
      case rel =>
        refine ⟨i + 1, by omega, by go_num, ?_, FN.out, HS2.out⟩
        rw [HTK.out, ← List.append_assoc, HAA.out, List.length_append]
        have e2 : intsV (A ++ [(z : Int) + NX]) = intsV A ++ [.int .i64 ((z : Int) + NX)] := by simp [intsV]
        rw [e2]
        exact HN2.out
      case measure => simp [intOf]; omega
    · obtain rfl : i = L := by omega
      have htk : (ints (bitsL q)).take i = ints (bitsL q) := List.take_of_length_le (by rw [ints_length, HL.out]; exact Nat.le_refl _)
      rw [htk] at HO
      have hAB := GB1.out.size
      have GAr := Lib.hid (GE1.out.fresh HFr.out (fun k hk => by omega))
      have MBr := Lib.hid (MBA.out.move GAr.out)
      have HFW := Lib.hid (HFA.out.tr GAr.out)
      obtain ⟨A, hA⟩ : ∃ A, ints (bitsL p) ++ (ints (bitsL q)).map (· + (NX : Int)) = A := ⟨_, rfl⟩
      have hwl : A.length ≤ 200 := by
        rw [← hA, List.length_append, List.length_map, ints_length, ints_length, HL.out]
        omega
      rw [hA] at HO HRUN
      clear hA
      obtain ⟨wa, wc, rfl, hwc⟩ := ownsRow_slice HO.out
      obtain ⟨NA, hNA⟩ : ∃ N : Nat, A.length = N := ⟨_, rfl⟩
      rw [hNA] at hwc hwl HO ⊢
      have HNA := Lib.hid hNA
      clear hNA
      go_wp2_with fail
      refine (run_val db _ GB SB s r MBr.out HFB.out HTB.out (by omega) HRR.out).mono ?_
      rintro e wZ ⟨rfl, FZ⟩
      have HFZ := Lib.hid (HFW.out.tr FZ)
      have IZ := Lib.hid (show IntsAt wZ (.slice wa NA wc) A from ⟨baseC, by
        rw [HNA.out]
        exact ownsRow_same HO.out (fun b hb => FZ.block b (HO.out.lt b hb).2 (fun h => h))⟩)
      clear FZ
      go_wp2_with fail
      refine (bitsOf_any wa NA wc A _ IZ.out HNA.out (by omega)).mono ?_
      rintro e wY ⟨rfl, rfl⟩
      rw [← HRUN.out]
      go_wp2_with fail
      go_ret
      exact ⟨by simp, HFZ.out.below⟩

theorem nfaApart_any (aa : Option Addr) (lena capa : Nat) (za : List ByteArray) (ab : Option Addr) (lenb capb : Nat) (zb : List ByteArray) (s : ByteArray) (w : World) (ha : StrsAt w aa lena za) (hb : StrsAt w ab lenb zb) (hs : s.size ≤ 140737488351232) (hT : TabOk w) :
    Calls Tryd.prog 3 #[.slice aa lena capa, .slice ab lenb capb, .string s] w fun e w' => e = .returned (.bool true) ∧ Below w.heap.size w w' := by
  by_cases hc : ¬ Few za ∨ ¬ Few zb ∨ 40 < s.size
  · exact apart_skip aa lena capa za ab lenb capb zb s w ha hb hs hc
  · have hfa : Few za := Classical.byContradiction fun hn => hc (.inl hn)
    have hfb : Few zb := Classical.byContradiction fun hn => hc (.inr (.inl hn))
    by_cases hm : 3000 < Rx.sizes (parsedM za ++ parsedM zb)
    · exact apart_many aa lena capa za ab lenb capb zb s w ha hb hfa hfb (by omega) hm
    · exact apart_runs aa lena capa za ab lenb capb zb s w ha hb hT hfa hfb (by omega) (by omega)
end Go.Proofs.YtgpmbkgedhcbjaaDoor
