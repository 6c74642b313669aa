/-
  An automaton that came in.
  Little of layer 5: the walk.
  The least automaton tells the same: plain.
-/
import Derived.Test.YtglflmkkecephaaGreatDoorMr
import Derived.OpenShut
import Derived.Deep.Matrix
import Derived.Deep.Strs
import Derived.ChangeSlices
namespace Go.Proofs.YtglflmkkecephaaGreatDoor
open Go.RowKit
open Go.Deep Go.ChangeShapes Go.WideShapes

theorem take_one {α : Type} {l : List α} {i : Nat} (h : i < l.length) : (l.drop i).take 1 = [l[i]] := by
  rw [List.drop_eq_getElem_cons h]; rfl
theorem dfa_fields : ∃ f0 f1 f2 : Field, Tryz.prog.underlying 26 = some (.struct #[f0, f1, f2]) ∧ f0.type = 22 ∧ f1.type = 23 ∧ f2.type = 24 ∧ f0.offset = 0 ∧ f1.offset = 256 ∧ f2.offset = 257 :=
  ⟨_, _, _, Tryz.underlying26, rfl, rfl, rfl, rfl, rfl, rfl⟩

set_option maxRecDepth 100000 in
theorem open_dfa {H : Type} {enc : TypeId × Value → H} {w : World} {held : Bool} {v : Value} {d : DataW H} {ps : List MemPlace} (h : DataW.Trod enc Tryz.prog w 0 (fun _ => true) held 26 v d ps) :
    ∃ D, DfaIn w v D ∧ (∀ t ∈ D.tags, t < 18446744073709551616) ∧ (∀ r ∈ D.next, ∀ z ∈ r, intDom z) ∧ D.tags.length ≤ 9223372036854775807 := by
  obtain ⟨fuel, h⟩ := h
  obtain ⟨f0, f1, f2, hu, t0, t1, t2, o0, o1, o2⟩ := dfa_fields
  have c0 : Tryz.prog.cellsOf 22 = 256 := by kernel_rfl
  have c1 : Tryz.prog.cellsOf 23 = 1 := by kernel_rfl
  have c2 : Tryz.prog.cellsOf 24 = 1 := by kernel_rfl
  have ci : Tryz.prog.cellsOf 3 = 1 := by kernel_rfl
  have cs : Tryz.prog.cellsOf 39 = 1 := by kernel_rfl
  have cr : Tryz.prog.cellsOf 70 = 1 := by kernel_rfl
  have cd : Tryz.prog.cellsOf 26 = 258 := by kernel_rfl
  obtain ⟨y0, y1, y2, n, _, hl, h0, h1, h2⟩ := trod_struct3 hu h
  rw [t0, o0, c0] at h0
  rw [t1, o1, c1] at h1
  rw [t2, o2, c2] at h2
  rw [cd] at hl
  obtain ⟨L, hL⟩ : ∃ L, v.cells.toList = L := ⟨_, rfl⟩
  have hv : v = .agg L.toArray := by
    cases v with
    | agg cs => subst hL; simp [Value.cells]
    | _ => simp [Value.cells] at hl
  rw [hL] at hl h0 h1 h2
  rw [take_one (by omega)] at h1 h2
  -- the classes
  obtain ⟨xs, m, _, _, _, hxl, hx⟩ := DataW.trod_array Tryz.underlying22 h0
  have hc : ∀ i, i < 256 → ∃ z : Int, L[i]? = some (.int .i64 z) := by
    intro i hi
    have h3 := hx i hi
    rw [ci, Nat.mul_one, List.drop_zero, take_one (by rw [List.length_take]; omega), List.getElem?_eq_getElem (by omega)] at h3
    obtain ⟨z, hz, _⟩ := DataW.trod_int Tryz.underlying3 h3
    refine ⟨z, ?_⟩
    rw [List.getElem?_eq_getElem (by omega)]
    simpa using hz
  obtain ⟨cls, hcl, hce⟩ : ∃ cls : List Int, cls.length = 256 ∧ intsV cls = L.take 256 := by
    refine ⟨(List.range 256).map fun i => intOf (L[i]?.getD undef), by simp, ?_⟩
    refine List.ext_getElem? fun i => ?_
    by_cases hi : i < 256
    · obtain ⟨z, hz⟩ := hc i hi
      rw [List.getElem?_take_of_lt hi, hz]
      simp [intsV, hi, hz, intOf]
    · rw [List.getElem?_eq_none (by simp [intsV]; omega), List.getElem?_eq_none (by rw [List.length_take]; omega)]
  -- the rows
  obtain ⟨next, hn1, hn2, hn3⟩ : ∃ next, RowsIn w L[256] next ∧ (next.length ≤ 9223372036854775807 ∧ ∀ r ∈ next, r.length ≤ 9223372036854775807) ∧ ∀ r ∈ next, ∀ z ∈ r, intDom z := by
    rcases open_int_rows Tryz.underlying23 Tryz.underlying70 Tryz.underlying3 cr ci h1 with ⟨e, _⟩ | ⟨a, len, cap, A, Lr, C, Z, e, _, hlc, hcm, _, hr⟩
    · have e' : L[256] = .slice none 0 0 := by simpa using e
      exact ⟨[], ⟨none, 0, e', fun j r h => by simp at h⟩, ⟨Nat.zero_le _, fun r h => by simp at h⟩, fun r h => by simp at h⟩
    · have e' : L[256] = .slice (some a) len cap := by simpa using e
      unfold maxLen at hcm
      have hat : ∀ j r, ((List.range len).map fun r => (Z r).take (Lr r))[j]? = some r → j < len ∧ r = (Z j).take (Lr j) := by
        intro j r h
        have hj : j < len := by have := (List.getElem?_eq_some_iff.1 h).1; simpa using this
        simp [hj] at h
        exact ⟨hj, h.symm⟩
      refine ⟨(List.range len).map fun r => (Z r).take (Lr r), ⟨some a, cap, by simpa using e', fun j r h => ?_⟩, ⟨by simp; omega, fun r h => ?_⟩, fun r h z hz => ?_⟩
      · obtain ⟨hj, rfl⟩ := hat j r h
        obtain ⟨g1, g2, g3, g4, g5, g6, g7⟩ := hr j (by omega)
        refine ⟨a, _, rfl, g1, A j, C j, by rw [List.length_take, g4, Nat.min_eq_left g2], fun c z hz => ?_⟩
        have hcz : c < Lr j := by have := (List.getElem?_eq_some_iff.1 hz).1; rw [List.length_take] at this; omega
        rw [List.getElem?_take_of_lt hcz] at hz
        cases ha : A j with
        | none => have := g6 ha; omega
        | some a' =>
          refine ⟨a', rfl, ?_⟩
          have := (g7 a' ha).2 c (by omega)
          rw [List.getD, hz] at this
          exact this
      · obtain ⟨j, hj, rfl⟩ := List.mem_map.1 h
        obtain ⟨g1, g2, g3, g4, g5, g6, g7⟩ := hr j (by have := List.mem_range.1 hj; omega)
        unfold maxLen at g3
        rw [List.length_take]; omega
      · obtain ⟨j, hj, rfl⟩ := List.mem_map.1 h
        obtain ⟨g1, g2, g3, g4, g5, g6, g7⟩ := hr j (by have := List.mem_range.1 hj; omega)
        exact g5 z (List.mem_of_mem_take hz)
  obtain ⟨tags, ht1, ht2, ht3⟩ : ∃ tags, SetsIn w L[257] tags ∧ (∀ t ∈ tags, t < 18446744073709551616) ∧ tags.length ≤ 9223372036854775807 := by
    rcases open_ints Tryz.underlying24 Tryz.underlying39 cs h2 with ⟨e, _⟩ | ⟨a, len, cap, zs, e, _, hlc, hcm, hz, _, hcell, hw⟩
    · have e' : L[257] = .slice none 0 0 := by simpa using e
      exact ⟨[], ⟨none, 0, e', fun j r h => by simp at h⟩, fun r h => by simp at h, Nat.zero_le _⟩
    · have e' : L[257] = .slice (some a) len cap := by simpa using e
      simp only [if_true] at hz
      unfold maxLen at hcm
      refine ⟨(zs.take len).map Int.toNat, ⟨some a, cap, by rw [List.length_map, List.length_take, hz, Nat.min_eq_left hlc]; exact e', fun j z h => ⟨a, rfl, ?_⟩⟩, fun t h => ?_, by rw [List.length_map, List.length_take]; omega⟩
      · rw [List.getElem?_map] at h
        cases h3 : (zs.take len)[j]? with
        | none => rw [h3] at h; cases h
        | some q =>
          rw [h3] at h
          obtain rfl := Option.some.inj h
          have hj : j < len := by have := (List.getElem?_eq_some_iff.1 h3).1; rw [List.length_take] at this; omega
          rw [List.getElem?_take_of_lt hj] at h3
          have h4 := hcell j (by omega)
          rw [List.getD, h3] at h4
          have hb := bounds_u64 (hw q (List.mem_of_getElem? h3))
          rw [h4]
          show some (Value.int .u64 q) = _
          rw [Int.toNat_of_nonneg hb.1]
      · obtain ⟨q, hq, rfl⟩ := List.mem_map.1 h
        have hb := bounds_u64 (hw q (List.mem_of_mem_take hq))
        omega
  refine ⟨⟨cls, next, tags⟩, ⟨⟨L[256], L[257], ?_, hn1, ht1⟩, hcl, hn2⟩, ht2, hn3, ht3⟩
  rw [hv, dfaC]
  show _ = Value.agg (intsV cls ++ _).toArray
  rw [hce]
  congr 2
  refine List.ext_getElem? fun i => ?_
  by_cases hi : i < 256
  · rw [List.getElem?_append_left (by rw [List.length_take]; omega), List.getElem?_take_of_lt hi]
  · rw [List.getElem?_append_right (by rw [List.length_take]; omega), List.length_take, Nat.min_eq_left (by omega)]
    by_cases h6 : i = 256
    · subst h6; simp [List.getElem?_eq_getElem (show 256 < L.length by omega)]
    · by_cases h7 : i = 257
      · subst h7; simp [List.getElem?_eq_getElem (show 257 < L.length by omega)]
      · rw [List.getElem?_eq_none (by omega), List.getElem?_eq_none (by simp; omega)]
end Go.Proofs.YtglflmkkecephaaGreatDoor

namespace Go.Proofs.YtglflmkkecephaaGreatDoor
open Go.RowKit

def littleM (D : Dfa) : Bool := decide (D.next.length < 30) && decide (D.tags.length < 30) && (D.next.take 30).all fun r => decide (r.length ≤ 20)

theorem little_spec {D : Dfa} : littleM D = true ↔ D.next.length < 30 ∧ D.tags.length < 30 ∧ ∀ r ∈ D.next, r.length ≤ 20 := by
  simp only [littleM, Bool.and_eq_true, decide_eq_true_eq, List.all_eq_true]
  constructor
  · rintro ⟨⟨h1, h2⟩, h3⟩
    rw [List.take_of_length_le (by omega)] at h3
    exact ⟨h1, h2, h3⟩
  · rintro ⟨h1, h2, h3⟩
    rw [List.take_of_length_le (by omega)]
    exact ⟨⟨h1, h2⟩, h3⟩
theorem little_no {D : Dfa} (h : (D.next.length < 30 ∧ D.tags.length < 30 ∧ ∀ r ∈ D.next, r.length ≤ 20) → False) : littleM D = false := by
  cases hb : littleM D with
  | false => rfl
  | true => exact (h (little_spec.1 hb)).elim

set_option maxRecDepth 100000 in
set_option maxHeartbeats 4000000 in
theorem little_any (D : Dfa) (v : Value) (w : World) (h : DfaIn w v D) (ht : D.tags.length ≤ 9223372036854775807) :
    Calls Tryz.prog 10 #[v] w fun e w' => e = .returned (.bool (littleM D)) ∧ Fr none_ w w' := by
  obtain ⟨C, na, ta, ncap, tcap, rfl, hz, h256, h257, hrow, htag⟩ := h.all
  have hnl := h.small
  obtain ⟨N, hN⟩ : ∃ N, D.next.length = N := ⟨_, rfl⟩
  obtain ⟨M, hM⟩ : ∃ M, D.tags.length = M := ⟨_, rfl⟩
  rw [hN] at h256 hnl
  rw [hM] at h257 ht
  have HN := Lib.hid hN
  have HM := Lib.hid hM
  have B0 := Lib.hid (alloc_new w (.cells C.toArray 26))
  have F0 := Lib.hid ((Fr.refl none_ w).alloc (.cells C.toArray 26))
  have f0 : (w.alloc (.cells C.toArray 26)).cell? ⟨w.heap.size, 256, none⟩ = some (.slice na N ncap) := cell_of_block B0.out (by simpa using h256)
  have f1 : (w.alloc (.cells C.toArray 26)).cell? ⟨w.heap.size, 257, none⟩ = some (.slice ta M tcap) := cell_of_block B0.out (by simpa using h257)
  have HR := Lib.hid hrow
  have hN1 := hnl.1
  have HSM := Lib.hid hnl.2
  clear h hrow htag h256 h257 hN hM hnl
  go_enter Tryz.func10, Tryz.ntmps10
  go_wp2_with fail
  go_loopw [3] (fun x3 wr => ∃ i : Nat, i ≤ 30 ∧ i ≤ N ∧ x3 = .int .i64 i ∧ Aside (∀ r ∈ D.next.take i, r.length ≤ 20) ∧ Aside (wr = w.alloc (.cells C.toArray 26))) (fun x3 _ => 30 - (intOf x3).toNat)
  case atStart => exact ⟨0, by omega, by omega, rfl, fun r h => by simp at h, rfl⟩
  case round =>
    obtain ⟨i, h30, hiN, rfl, hall', hw'⟩ := hrel
    obtain rfl := hw'.out
    have HALL := Lib.hid hall'.out
    clear hall' hw'
    by_cases hlt : i < N
    · have hiN' : (i : Int) < (N : Int) := by omega
      by_cases hl3 : i < 30
      · have hi3 : (i : Int) < 30 := by omega
        obtain ⟨r, hr⟩ : ∃ r, D.next[i]? = some r := ⟨_, List.getElem?_eq_getElem (by rw [HN.out]; exact hlt)⟩
        obtain ⟨ad, rv, rfl, hc, ra, rcap, rfl, _⟩ := HR.out i r hr
        obtain ⟨m, hm⟩ : ∃ m, r.length = m := ⟨_, rfl⟩
        rw [hm] at hc
        have hc2 := F0.out.cell hc (fun h => h)
        have HRR := Lib.hid hr
        have HMM := Lib.hid hm
        clear hr hm hc
        by_cases h20 : 20 < m
        · have h20' : (20 : Int) < (m : Int) := by omega
          have HB := Lib.hid (little_no (D := D) fun h => by have := h.2.2 r (List.mem_of_getElem? HRR.out); rw [HMM.out] at this; omega)
          go_wp2_with fail
          go_ret
          exact ⟨by rw [HB.out]; rfl, F0.out⟩
        · have h20' : ¬ (20 : Int) < (m : Int) := by omega
          go_wp2_with fail
          go_roundw
          case rel => exact ⟨i + 1, by omega, by omega, by go_num, fun q hq => by
            rw [List.take_add_one, HRR.out] at hq
            rcases List.mem_append.1 hq with hq | hq
            · exact HALL.out q hq
            · obtain rfl : q = r := by simpa using hq
              rw [HMM.out]; omega, trivial⟩
          case measure => simp [intOf]; omega
      · have hi3 : ¬ (i : Int) < 30 := by omega
        have hN30 : ¬ (N : Int) < 30 := by omega
        have HB := Lib.hid (little_no (D := D) fun h => by have := h.1; rw [HN.out] at this; omega)
        go_wp2_with fail
        go_ret
        exact ⟨by rw [HB.out]; rfl, F0.out⟩
    · have hiN' : ¬ (i : Int) < (N : Int) := by omega
      obtain rfl : i = N := by omega
      have HAN := Lib.hid (show ∀ r ∈ D.next, r.length ≤ 20 from fun r hr => HALL.out r (by rw [List.take_of_length_le (by rw [HN.out]; exact Nat.le_refl _)]; exact hr))
      by_cases hi3 : (i : Int) < 30
      · by_cases hm3 : (M : Int) < 30
        · have HB := Lib.hid ((little_spec (D := D)).2 ⟨by rw [HN.out]; omega, by rw [HM.out]; omega, HAN.out⟩)
          go_wp2_with fail
          go_ret
          exact ⟨by rw [HB.out]; rfl, F0.out⟩
        · have HB := Lib.hid (little_no (D := D) fun h => by have := h.2.1; rw [HM.out] at this; omega)
          go_wp2_with fail
          go_ret
          exact ⟨by rw [HB.out]; rfl, F0.out⟩
      · have HB := Lib.hid (little_no (D := D) fun h => by have := h.1; rw [HN.out] at this; omega)
        go_wp2_with fail
        go_ret
        exact ⟨by rw [HB.out]; rfl, F0.out⟩
end Go.Proofs.YtglflmkkecephaaGreatDoor

namespace Go.Proofs.YtglflmkkecephaaGreatDoor
open Go.RowKit

theorem DV.go {D : Dfa} {n k : Nat} (hv : DV D n k) (hc : D.cls.length = 256) {b : Nat} (hb : b < 256) {q : Int} (hq : -1 ≤ q ∧ q < n) :
    goM D q b = toD D q (D.cls.getD b 0).toNat ∧ -1 ≤ goM D q b ∧ goM D q b < n := by
  have hcm : D.cls.getD b 0 ∈ D.cls := by
    rw [List.getD, List.getElem?_eq_getElem (by omega)]
    exact List.getElem_mem _
  have hcb := hv.cls _ hcm
  by_cases h0 : q < 0
  · have hg : goM D q b = -1 := by
      unfold goM
      exact if_pos (.inl h0)
    rw [hg, to_neg D h0]
    have := hv.pos
    exact ⟨rfl, by omega, by omega⟩
  · obtain ⟨p, rfl⟩ := Int.eq_ofNat_of_zero_le (show 0 ≤ q by omega)
    have hp : p < n := by omega
    have hrow := hv.rowAt hp
    obtain ⟨hl, ht⟩ := hrow
    have hg : goM D (p : Int) b = (D.next.getD p []).getD (D.cls.getD b 0).toNat (-1) := by
      unfold goM
      have e : ¬ ((p : Int) < 0 ∨ (D.next.length : Int) ≤ (p : Int) ∨ D.cls.getD b 0 < 0 ∨ ((D.next.getD (p : Int).toNat []).length : Int) ≤ D.cls.getD b 0) := by
        have e1 : (p : Int).toNat = p := rfl
        rw [e1, hl, hv.hn]
        omega
      simp only [if_neg e]
      have e1 : (p : Int).toNat = p := rfl
      rw [e1]
      have hlt : (D.cls.getD b 0).toNat < (D.next.getD p []).length := by rw [hl]; omega
      have htt := ht _ (List.getElem_mem hlt)
      have e2 : (D.next.getD p []).getD (D.cls.getD b 0).toNat 0 = (D.next.getD p [])[(D.cls.getD b 0).toNat] := by rw [List.getD, List.getElem?_eq_getElem hlt]; rfl
      have e3 : (D.next.getD p []).getD (D.cls.getD b 0).toNat (-1) = (D.next.getD p [])[(D.cls.getD b 0).toNat] := by rw [List.getD, List.getElem?_eq_getElem hlt]; rfl
      rw [e2, e3, hv.hn]
      split
      · omega
      · rfl
    have ht' : toD D (p : Int) (D.cls.getD b 0).toNat = (D.next.getD p []).getD (D.cls.getD b 0).toNat (-1) := by
      unfold toD
      rw [if_neg (by omega)]
      rfl
    refine ⟨hg.trans ht'.symm, ?_⟩
    rw [hg]
    have hlt : (D.cls.getD b 0).toNat < (D.next.getD p []).length := by rw [hl]; omega
    have := ht _ (List.getElem_mem hlt)
    rw [List.getD, List.getElem?_eq_getElem hlt]
    exact this
theorem DV.run_from {D : Dfa} {n k : Nat} (hv : DV D n k) (hc : D.cls.length = 256) : ∀ (bs : List Nat), (∀ b ∈ bs, b < 256) → ∀ q : Int, -1 ≤ q ∧ q < n →
    tagD D (bs.foldl (goM D) q) = behD D q (bs.map fun b => (D.cls.getD b 0).toNat) := by
  intro bs
  induction bs with
  | nil =>
    intro _ q hq
    show tagD D q = tagQ D q
    unfold tagD tagQ
    rw [hv.hn, hv.ht]
    by_cases h0 : q < 0
    · rw [if_pos (.inl h0), if_pos h0]
    · rw [if_neg h0, if_neg (by rintro (h | h); exact h0 h; rw [show Nat.min n n = n from Nat.min_self n] at h; omega)]
  | cons b bs ih =>
    intro hb q hq
    obtain ⟨h1, h2⟩ := hv.go hc (hb b (by simp)) hq
    rw [List.foldl_cons, List.map_cons, beh_cons, ← h1]
    exact ih (fun c h => hb c (List.mem_cons_of_mem _ h)) _ h2
theorem DV.run {D : Dfa} {n k : Nat} (hv : DV D n k) (hc : D.cls.length = 256) (bs : List Nat) (hb : ∀ b ∈ bs, b < 256) :
    runD D bs = behD D 0 (bs.map fun b => (D.cls.getD b 0).toNat) :=
  hv.run_from hc bs hb 0 ⟨by decide, by have := hv.pos; omega⟩
theorem least_run {D : Dfa} {n k : Nat} (hv : DV D n k) (hn : n < 100000) (hc : D.cls.length = 256) (bs : List Nat) (hb : ∀ b ∈ bs, b < 256) : runD (leastM D) bs = runD D bs := by
  obtain ⟨N, S, hm⟩ := least_ok hv hn
  rw [hv.run hc bs hb, hm.dv.run (by rw [hm.cls]; exact hc) bs hb, hm.cls]
  exact hm.zero _
theorem sameM_refl (D : Dfa) : sameM D D = true := by simp [sameM]
theorem least_len {D : Dfa} {n k : Nat} (hv : DV D n k) (hn : n < 100000) : validM (leastM D) = true ∧ (leastM D).next.length ≤ n ∧ (leastM D).tags.length ≤ n ∧ (leastM D).cls = D.cls ∧ 0 < (leastM D).next.length := by
  obtain ⟨N, S, hm⟩ := least_ok hv hn
  exact ⟨hm.dv.valid, by rw [hm.dv.hn]; exact hm.le, by rw [hm.dv.ht]; exact hm.le, hm.cls, by rw [hm.dv.hn]; exact hm.dv.pos⟩
theorem least_tags {D : Dfa} {n k B : Nat} (hv : DV D n k) (hn : n < 100000) (hB : 0 < B) (h : ∀ t ∈ D.tags, t < B) : ∀ t ∈ (leastM D).tags, t < B := by
  obtain ⟨N, S, hm⟩ := least_ok hv hn
  intro t ht
  obtain ⟨j, hj, rfl⟩ := List.getElem_of_mem ht
  have e := (hm.eq j (by rw [← hm.dv.ht]; exact hj)).tag
  have e1 : tagQ (leastM D) (j : Int) = (leastM D).tags[j] := by
    unfold tagQ
    rw [if_neg (by omega), show ((j : Int)).toNat = j from rfl, List.getD, List.getElem?_eq_getElem hj]
    rfl
  rw [← e1, e]
  unfold tagQ
  split
  · exact hB
  · rw [List.getD]
    cases hq : D.tags[(S.getD j 0).toNat]? with
    | none => exact hB
    | some q => exact h q (List.mem_of_getElem? hq)
end Go.Proofs.YtglflmkkecephaaGreatDoor
