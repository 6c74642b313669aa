/-
  An automaton that came in.
  Little of layer 5: the walk.
  The least automaton tells the same: plain.
  MiniRuns: the walk.
-/
import Derived.Test.YtglflmkkecephaaDoorMr
import Derived.OpenShut
import Derived.Deep.Matrix
import Derived.Deep.Strs
import Derived.ChangeSlices
namespace Go.Proofs.YtglflmkkecephaaDoor
open Go.RowKit
open Go.Deep Go.ChangeShapes Go.WideShapes

theorem take_one {α : Type} {l : List α} {i : Nat} (h : i < l.length) : (l.drop i).take 1 = [l[i]] := by
  rw [List.drop_eq_getElem_cons h]; rfl
theorem dfa_fields : ∃ f0 f1 f2 : Field, Tryd.prog.underlying 29 = some (.struct #[f0, f1, f2]) ∧ f0.type = 25 ∧ f1.type = 26 ∧ f2.type = 27 ∧ f0.offset = 0 ∧ f1.offset = 256 ∧ f2.offset = 257 :=
  ⟨_, _, _, Tryd.underlying29, rfl, rfl, rfl, rfl, rfl, rfl⟩

set_option maxRecDepth 100000 in
theorem open_dfa {H : Type} {enc : TypeId × Value → H} {w : World} {held : Bool} {v : Value} {d : DataW H} {ps : List MemPlace} (h : DataW.Trod enc Tryd.prog w 0 (fun _ => true) held 29 v d ps) :
    ∃ D, DfaIn w v D ∧ (∀ t ∈ D.tags, t < 18446744073709551616) ∧ (∀ r ∈ D.next, ∀ z ∈ r, intDom z) ∧ D.tags.length ≤ 9223372036854775807 := by
  obtain ⟨fuel, h⟩ := h
  obtain ⟨f0, f1, f2, hu, t0, t1, t2, o0, o1, o2⟩ := dfa_fields
  have c0 : Tryd.prog.cellsOf 25 = 256 := by kernel_rfl
  have c1 : Tryd.prog.cellsOf 26 = 1 := by kernel_rfl
  have c2 : Tryd.prog.cellsOf 27 = 1 := by kernel_rfl
  have ci : Tryd.prog.cellsOf 3 = 1 := by kernel_rfl
  have cs : Tryd.prog.cellsOf 37 = 1 := by kernel_rfl
  have cr : Tryd.prog.cellsOf 52 = 1 := by kernel_rfl
  have cd : Tryd.prog.cellsOf 29 = 258 := by kernel_rfl
  obtain ⟨y0, y1, y2, n, _, hl, h0, h1, h2⟩ := trod_struct3 hu h
  rw [t0, o0, c0] at h0
  rw [t1, o1, c1] at h1
  rw [t2, o2, c2] at h2
  rw [cd] at hl
  obtain ⟨L, hL⟩ : ∃ L, v.cells.toList = L := ⟨_, rfl⟩
  have hv : v = .agg L.toArray := by
    cases v with
    | agg cs => subst hL; simp [Value.cells]
    | _ => simp [Value.cells] at hl
  rw [hL] at hl h0 h1 h2
  rw [take_one (by omega)] at h1 h2
  -- the classes
  obtain ⟨xs, m, _, _, _, hxl, hx⟩ := DataW.trod_array Tryd.underlying25 h0
  have hc : ∀ i, i < 256 → ∃ z : Int, L[i]? = some (.int .i64 z) := by
    intro i hi
    have h3 := hx i hi
    rw [ci, Nat.mul_one, List.drop_zero, take_one (by rw [List.length_take]; omega), List.getElem?_eq_getElem (by omega)] at h3
    obtain ⟨z, hz, _⟩ := DataW.trod_int Tryd.underlying3 h3
    refine ⟨z, ?_⟩
    rw [List.getElem?_eq_getElem (by omega)]
    simpa using hz
  obtain ⟨cls, hcl, hce⟩ : ∃ cls : List Int, cls.length = 256 ∧ intsV cls = L.take 256 := by
    refine ⟨(List.range 256).map fun i => intOf (L[i]?.getD undef), by simp, ?_⟩
    refine List.ext_getElem? fun i => ?_
    by_cases hi : i < 256
    · obtain ⟨z, hz⟩ := hc i hi
      rw [List.getElem?_take_of_lt hi, hz]
      simp [intsV, hi, hz, intOf]
    · rw [List.getElem?_eq_none (by simp [intsV]; omega), List.getElem?_eq_none (by rw [List.length_take]; omega)]
  -- the rows
  obtain ⟨next, hn1, hn2, hn3⟩ : ∃ next, RowsIn w L[256] next ∧ (next.length ≤ 9223372036854775807 ∧ ∀ r ∈ next, r.length ≤ 9223372036854775807) ∧ ∀ r ∈ next, ∀ z ∈ r, intDom z := by
    rcases open_int_rows Tryd.underlying26 Tryd.underlying52 Tryd.underlying3 cr ci h1 with ⟨e, _⟩ | ⟨a, len, cap, A, Lr, C, Z, e, _, hlc, hcm, _, hr⟩
    · have e' : L[256] = .slice none 0 0 := by simpa using e
      exact ⟨[], ⟨none, 0, e', fun j r h => by simp at h⟩, ⟨Nat.zero_le _, fun r h => by simp at h⟩, fun r h => by simp at h⟩
    · have e' : L[256] = .slice (some a) len cap := by simpa using e
      unfold maxLen at hcm
      have hat : ∀ j r, ((List.range len).map fun r => (Z r).take (Lr r))[j]? = some r → j < len ∧ r = (Z j).take (Lr j) := by
        intro j r h
        have hj : j < len := by have := (List.getElem?_eq_some_iff.1 h).1; simpa using this
        simp [hj] at h
        exact ⟨hj, h.symm⟩
      refine ⟨(List.range len).map fun r => (Z r).take (Lr r), ⟨some a, cap, by simpa using e', fun j r h => ?_⟩, ⟨by simp; omega, fun r h => ?_⟩, fun r h z hz => ?_⟩
      · obtain ⟨hj, rfl⟩ := hat j r h
        obtain ⟨g1, g2, g3, g4, g5, g6, g7⟩ := hr j (by omega)
        refine ⟨a, _, rfl, g1, A j, C j, by rw [List.length_take, g4, Nat.min_eq_left g2], fun c z hz => ?_⟩
        have hcz : c < Lr j := by have := (List.getElem?_eq_some_iff.1 hz).1; rw [List.length_take] at this; omega
        rw [List.getElem?_take_of_lt hcz] at hz
        cases ha : A j with
        | none => have := g6 ha; omega
        | some a' =>
          refine ⟨a', rfl, ?_⟩
          have := (g7 a' ha).2 c (by omega)
          rw [List.getD, hz] at this
          exact this
      · obtain ⟨j, hj, rfl⟩ := List.mem_map.1 h
        obtain ⟨g1, g2, g3, g4, g5, g6, g7⟩ := hr j (by have := List.mem_range.1 hj; omega)
        unfold maxLen at g3
        rw [List.length_take]; omega
      · obtain ⟨j, hj, rfl⟩ := List.mem_map.1 h
        obtain ⟨g1, g2, g3, g4, g5, g6, g7⟩ := hr j (by have := List.mem_range.1 hj; omega)
        exact g5 z (List.mem_of_mem_take hz)
  obtain ⟨tags, ht1, ht2, ht3⟩ : ∃ tags, SetsIn w L[257] tags ∧ (∀ t ∈ tags, t < 18446744073709551616) ∧ tags.length ≤ 9223372036854775807 := by
    rcases open_ints Tryd.underlying27 Tryd.underlying37 cs h2 with ⟨e, _⟩ | ⟨a, len, cap, zs, e, _, hlc, hcm, hz, _, hcell, hw⟩
    · have e' : L[257] = .slice none 0 0 := by simpa using e
      exact ⟨[], ⟨none, 0, e', fun j r h => by simp at h⟩, fun r h => by simp at h, Nat.zero_le _⟩
    · have e' : L[257] = .slice (some a) len cap := by simpa using e
      simp only [if_true] at hz
      unfold maxLen at hcm
      refine ⟨(zs.take len).map Int.toNat, ⟨some a, cap, by rw [List.length_map, List.length_take, hz, Nat.min_eq_left hlc]; exact e', fun j z h => ⟨a, rfl, ?_⟩⟩, fun t h => ?_, by rw [List.length_map, List.length_take]; omega⟩
      · rw [List.getElem?_map] at h
        cases h3 : (zs.take len)[j]? with
        | none => rw [h3] at h; cases h
        | some q =>
          rw [h3] at h
          obtain rfl := Option.some.inj h
          have hj : j < len := by have := (List.getElem?_eq_some_iff.1 h3).1; rw [List.length_take] at this; omega
          rw [List.getElem?_take_of_lt hj] at h3
          have h4 := hcell j (by omega)
          rw [List.getD, h3] at h4
          have hb := bounds_u64 (hw q (List.mem_of_getElem? h3))
          rw [h4]
          show some (Value.int .u64 q) = _
          rw [Int.toNat_of_nonneg hb.1]
      · obtain ⟨q, hq, rfl⟩ := List.mem_map.1 h
        have hb := bounds_u64 (hw q (List.mem_of_mem_take hq))
        omega
  refine ⟨⟨cls, next, tags⟩, ⟨⟨L[256], L[257], ?_, hn1, ht1⟩, hcl, hn2⟩, ht2, hn3, ht3⟩
  rw [hv, dfaC]
  show _ = Value.agg (intsV cls ++ _).toArray
  rw [hce]
  congr 2
  refine List.ext_getElem? fun i => ?_
  by_cases hi : i < 256
  · rw [List.getElem?_append_left (by rw [List.length_take]; omega), List.getElem?_take_of_lt hi]
  · rw [List.getElem?_append_right (by rw [List.length_take]; omega), List.length_take, Nat.min_eq_left (by omega)]
    by_cases h6 : i = 256
    · subst h6; simp [List.getElem?_eq_getElem (show 256 < L.length by omega)]
    · by_cases h7 : i = 257
      · subst h7; simp [List.getElem?_eq_getElem (show 257 < L.length by omega)]
      · rw [List.getElem?_eq_none (by omega), List.getElem?_eq_none (by simp; omega)]
end Go.Proofs.YtglflmkkecephaaDoor

namespace Go.Proofs.YtglflmkkecephaaDoor
open Go.RowKit

def littleM (D : Dfa) : Bool := decide (D.next.length < 30) && decide (D.tags.length < 30) && (D.next.take 30).all fun r => decide (r.length ≤ 20)

theorem little_spec {D : Dfa} : littleM D = true ↔ D.next.length < 30 ∧ D.tags.length < 30 ∧ ∀ r ∈ D.next, r.length ≤ 20 := by
  simp only [littleM, Bool.and_eq_true, decide_eq_true_eq, List.all_eq_true]
  constructor
  · rintro ⟨⟨h1, h2⟩, h3⟩
    rw [List.take_of_length_le (by omega)] at h3
    exact ⟨h1, h2, h3⟩
  · rintro ⟨h1, h2, h3⟩
    rw [List.take_of_length_le (by omega)]
    exact ⟨⟨h1, h2⟩, h3⟩
theorem little_no {D : Dfa} (h : (D.next.length < 30 ∧ D.tags.length < 30 ∧ ∀ r ∈ D.next, r.length ≤ 20) → False) : littleM D = false := by
  cases hb : littleM D with
  | false => rfl
  | true => exact (h (little_spec.1 hb)).elim

set_option maxRecDepth 100000 in
set_option maxHeartbeats 4000000 in
theorem little_any (D : Dfa) (v : Value) (w : World) (h : DfaIn w v D) (ht : D.tags.length ≤ 9223372036854775807) :
    Calls Tryd.prog 17 #[v] w fun e w' => e = .returned (.bool (littleM D)) ∧ Fr none_ w w' := by
  obtain ⟨C, na, ta, ncap, tcap, rfl, hz, h256, h257, hrow, htag⟩ := h.all
  have hnl := h.small
  obtain ⟨N, hN⟩ : ∃ N, D.next.length = N := ⟨_, rfl⟩
  obtain ⟨M, hM⟩ : ∃ M, D.tags.length = M := ⟨_, rfl⟩
  rw [hN] at h256 hnl
  rw [hM] at h257 ht
  have HN := Lib.hid hN
  have HM := Lib.hid hM
  have B0 := Lib.hid (alloc_new w (.cells C.toArray 29))
  have F0 := Lib.hid ((Fr.refl none_ w).alloc (.cells C.toArray 29))
  have f0 : (w.alloc (.cells C.toArray 29)).cell? ⟨w.heap.size, 256, none⟩ = some (.slice na N ncap) := cell_of_block B0.out (by simpa using h256)
  have f1 : (w.alloc (.cells C.toArray 29)).cell? ⟨w.heap.size, 257, none⟩ = some (.slice ta M tcap) := cell_of_block B0.out (by simpa using h257)
  have HR := Lib.hid hrow
  have hN1 := hnl.1
  have HSM := Lib.hid hnl.2
  clear h hrow htag h256 h257 hN hM hnl
  go_enter Tryd.func17, Tryd.ntmps17
  go_wp2_with fail
  go_loopw [3] (fun x3 wr => ∃ i : Nat, i ≤ 30 ∧ i ≤ N ∧ x3 = .int .i64 i ∧ Aside (∀ r ∈ D.next.take i, r.length ≤ 20) ∧ Aside (wr = w.alloc (.cells C.toArray 29))) (fun x3 _ => 30 - (intOf x3).toNat)
  case atStart => exact ⟨0, by omega, by omega, rfl, fun r h => by simp at h, rfl⟩
  case round =>
    obtain ⟨i, h30, hiN, rfl, hall', hw'⟩ := hrel
    obtain rfl := hw'.out
    have HALL := Lib.hid hall'.out
    clear hall' hw'
    by_cases hlt : i < N
    · have hiN' : (i : Int) < (N : Int) := by omega
      by_cases hl3 : i < 30
      · have hi3 : (i : Int) < 30 := by omega
        obtain ⟨r, hr⟩ : ∃ r, D.next[i]? = some r := ⟨_, List.getElem?_eq_getElem (by rw [HN.out]; exact hlt)⟩
        obtain ⟨ad, rv, rfl, hc, ra, rcap, rfl, _⟩ := HR.out i r hr
        obtain ⟨m, hm⟩ : ∃ m, r.length = m := ⟨_, rfl⟩
        rw [hm] at hc
        have hc2 := F0.out.cell hc (fun h => h)
        have HRR := Lib.hid hr
        have HMM := Lib.hid hm
        clear hr hm hc
        by_cases h20 : 20 < m
        · have h20' : (20 : Int) < (m : Int) := by omega
          have HB := Lib.hid (little_no (D := D) fun h => by have := h.2.2 r (List.mem_of_getElem? HRR.out); rw [HMM.out] at this; omega)
          go_wp2_with fail
          go_ret
          exact ⟨by rw [HB.out]; rfl, F0.out⟩
        · have h20' : ¬ (20 : Int) < (m : Int) := by omega
          go_wp2_with fail
          go_roundw
          case rel => exact ⟨i + 1, by omega, by omega, by go_num, fun q hq => by
            rw [List.take_add_one, HRR.out] at hq
            rcases List.mem_append.1 hq with hq | hq
            · exact HALL.out q hq
            · obtain rfl : q = r := by simpa using hq
              rw [HMM.out]; omega, trivial⟩
          case measure => simp [intOf]; omega
      · have hi3 : ¬ (i : Int) < 30 := by omega
        have hN30 : ¬ (N : Int) < 30 := by omega
        have HB := Lib.hid (little_no (D := D) fun h => by have := h.1; rw [HN.out] at this; omega)
        go_wp2_with fail
        go_ret
        exact ⟨by rw [HB.out]; rfl, F0.out⟩
    · have hiN' : ¬ (i : Int) < (N : Int) := by omega
      obtain rfl : i = N := by omega
      have HAN := Lib.hid (show ∀ r ∈ D.next, r.length ≤ 20 from fun r hr => HALL.out r (by rw [List.take_of_length_le (by rw [HN.out]; exact Nat.le_refl _)]; exact hr))
      by_cases hi3 : (i : Int) < 30
      · by_cases hm3 : (M : Int) < 30
        · have HB := Lib.hid ((little_spec (D := D)).2 ⟨by rw [HN.out]; omega, by rw [HM.out]; omega, HAN.out⟩)
          go_wp2_with fail
          go_ret
          exact ⟨by rw [HB.out]; rfl, F0.out⟩
        · have HB := Lib.hid (little_no (D := D) fun h => by have := h.2.1; rw [HM.out] at this; omega)
          go_wp2_with fail
          go_ret
          exact ⟨by rw [HB.out]; rfl, F0.out⟩
      · have HB := Lib.hid (little_no (D := D) fun h => by have := h.1; rw [HN.out] at this; omega)
        go_wp2_with fail
        go_ret
        exact ⟨by rw [HB.out]; rfl, F0.out⟩
end Go.Proofs.YtglflmkkecephaaDoor

namespace Go.Proofs.YtglflmkkecephaaDoor
open Go.RowKit

theorem DV.go {D : Dfa} {n k : Nat} (hv : DV D n k) (hc : D.cls.length = 256) {b : Nat} (hb : b < 256) {q : Int} (hq : -1 ≤ q ∧ q < n) :
    goM D q b = toD D q (D.cls.getD b 0).toNat ∧ -1 ≤ goM D q b ∧ goM D q b < n := by
  have hcm : D.cls.getD b 0 ∈ D.cls := by
    rw [List.getD, List.getElem?_eq_getElem (by omega)]
    exact List.getElem_mem _
  have hcb := hv.cls _ hcm
  by_cases h0 : q < 0
  · have hg : goM D q b = -1 := by
      unfold goM
      exact if_pos (.inl h0)
    rw [hg, to_neg D h0]
    have := hv.pos
    exact ⟨rfl, by omega, by omega⟩
  · obtain ⟨p, rfl⟩ := Int.eq_ofNat_of_zero_le (show 0 ≤ q by omega)
    have hp : p < n := by omega
    have hrow := hv.rowAt hp
    obtain ⟨hl, ht⟩ := hrow
    have hg : goM D (p : Int) b = (D.next.getD p []).getD (D.cls.getD b 0).toNat (-1) := by
      unfold goM
      have e : ¬ ((p : Int) < 0 ∨ (D.next.length : Int) ≤ (p : Int) ∨ D.cls.getD b 0 < 0 ∨ ((D.next.getD (p : Int).toNat []).length : Int) ≤ D.cls.getD b 0) := by
        have e1 : (p : Int).toNat = p := rfl
        rw [e1, hl, hv.hn]
        omega
      simp only [if_neg e]
      have e1 : (p : Int).toNat = p := rfl
      rw [e1]
      have hlt : (D.cls.getD b 0).toNat < (D.next.getD p []).length := by rw [hl]; omega
      have htt := ht _ (List.getElem_mem hlt)
      have e2 : (D.next.getD p []).getD (D.cls.getD b 0).toNat 0 = (D.next.getD p [])[(D.cls.getD b 0).toNat] := by rw [List.getD, List.getElem?_eq_getElem hlt]; rfl
      have e3 : (D.next.getD p []).getD (D.cls.getD b 0).toNat (-1) = (D.next.getD p [])[(D.cls.getD b 0).toNat] := by rw [List.getD, List.getElem?_eq_getElem hlt]; rfl
      rw [e2, e3, hv.hn]
      split
      · omega
      · rfl
    have ht' : toD D (p : Int) (D.cls.getD b 0).toNat = (D.next.getD p []).getD (D.cls.getD b 0).toNat (-1) := by
      unfold toD
      rw [if_neg (by omega)]
      rfl
    refine ⟨hg.trans ht'.symm, ?_⟩
    rw [hg]
    have hlt : (D.cls.getD b 0).toNat < (D.next.getD p []).length := by rw [hl]; omega
    have := ht _ (List.getElem_mem hlt)
    rw [List.getD, List.getElem?_eq_getElem hlt]
    exact this
theorem DV.run_from {D : Dfa} {n k : Nat} (hv : DV D n k) (hc : D.cls.length = 256) : ∀ (bs : List Nat), (∀ b ∈ bs, b < 256) → ∀ q : Int, -1 ≤ q ∧ q < n →
    tagD D (bs.foldl (goM D) q) = behD D q (bs.map fun b => (D.cls.getD b 0).toNat) := by
  intro bs
  induction bs with
  | nil =>
    intro _ q hq
    show tagD D q = tagQ D q
    unfold tagD tagQ
    rw [hv.hn, hv.ht]
    by_cases h0 : q < 0
    · rw [if_pos (.inl h0), if_pos h0]
    · rw [if_neg h0, if_neg (by rintro (h | h); exact h0 h; rw [show Nat.min n n = n from Nat.min_self n] at h; omega)]
  | cons b bs ih =>
    intro hb q hq
    obtain ⟨h1, h2⟩ := hv.go hc (hb b (by simp)) hq
    rw [List.foldl_cons, List.map_cons, beh_cons, ← h1]
    exact ih (fun c h => hb c (List.mem_cons_of_mem _ h)) _ h2
theorem DV.run {D : Dfa} {n k : Nat} (hv : DV D n k) (hc : D.cls.length = 256) (bs : List Nat) (hb : ∀ b ∈ bs, b < 256) :
    runD D bs = behD D 0 (bs.map fun b => (D.cls.getD b 0).toNat) :=
  hv.run_from hc bs hb 0 ⟨by decide, by have := hv.pos; omega⟩
theorem least_run {D : Dfa} {n k : Nat} (hv : DV D n k) (hn : n < 100000) (hc : D.cls.length = 256) (bs : List Nat) (hb : ∀ b ∈ bs, b < 256) : runD (leastM D) bs = runD D bs := by
  obtain ⟨N, S, hm⟩ := least_ok hv hn
  rw [hv.run hc bs hb, hm.dv.run (by rw [hm.cls]; exact hc) bs hb, hm.cls]
  exact hm.zero _
theorem sameM_refl (D : Dfa) : sameM D D = true := by simp [sameM]
theorem least_len {D : Dfa} {n k : Nat} (hv : DV D n k) (hn : n < 100000) : validM (leastM D) = true ∧ (leastM D).next.length ≤ n ∧ (leastM D).tags.length ≤ n ∧ (leastM D).cls = D.cls ∧ 0 < (leastM D).next.length := by
  obtain ⟨N, S, hm⟩ := least_ok hv hn
  exact ⟨hm.dv.valid, by rw [hm.dv.hn]; exact hm.le, by rw [hm.dv.ht]; exact hm.le, hm.cls, by rw [hm.dv.hn]; exact hm.dv.pos⟩
theorem least_tags {D : Dfa} {n k B : Nat} (hv : DV D n k) (hn : n < 100000) (hB : 0 < B) (h : ∀ t ∈ D.tags, t < B) : ∀ t ∈ (leastM D).tags, t < B := by
  obtain ⟨N, S, hm⟩ := least_ok hv hn
  intro t ht
  obtain ⟨j, hj, rfl⟩ := List.getElem_of_mem ht
  have e := (hm.eq j (by rw [← hm.dv.ht]; exact hj)).tag
  have e1 : tagQ (leastM D) (j : Int) = (leastM D).tags[j] := by
    unfold tagQ
    rw [if_neg (by omega), show ((j : Int)).toNat = j from rfl, List.getD, List.getElem?_eq_getElem hj]
    rfl
  rw [← e1, e]
  unfold tagQ
  split
  · exact hB
  · rw [List.getD]
    cases hq : D.tags[(S.getD j 0).toNat]? with
    | none => exact hB
    | some q => exact h q (List.mem_of_getElem? hq)
end Go.Proofs.YtglflmkkecephaaDoor

namespace Go.Proofs.YtglflmkkecephaaDoor
open Go.RowKit

theorem DfaIn.cells3 {w : World} {v : Value} {D : Dfa} (h : DfaIn w v D) : ∃ (C : List Value) (na : Option Addr) (ncap : Nat) (T : List Value), v = .agg C.toArray ∧ C.length = 258 ∧ C.toArray.all (·.oneCell') = true ∧ C[256]? = some (.slice na D.next.length ncap) ∧ C = intsV D.cls ++ T := by
  obtain ⟨C, rfl, hz, hone⟩ := h.cells
  obtain ⟨E, na, ta, ncap, tcap, e, _, hE, h256, _⟩ := h.whole
  have e2 : C = E := by injection e with e; injection e
  subst e2
  exact ⟨C, na, ncap, _, rfl, hz, hone, h256, hE⟩
theorem lot30 {α : Type} {x0 x1 x2 x3 x4 x5 x6 x7 x8 x9 x10 x11 x12 x13 x14 x15 x16 x17 x18 x19 x20 x21 x22 x23 x24 x25 x26 x27 x28 x29 x30 : α} {l : List α} : (x0 :: x1 :: x2 :: x3 :: x4 :: x5 :: x6 :: x7 :: x8 :: x9 :: x10 :: x11 :: x12 :: x13 :: x14 :: x15 :: x16 :: x17 :: x18 :: x19 :: x20 :: x21 :: x22 :: x23 :: x24 :: x25 :: x26 :: x27 :: x28 :: x29 :: x30 :: l).toArray[30]? = some x30 := rfl
theorem lot31 {α : Type} {x0 x1 x2 x3 x4 x5 x6 x7 x8 x9 x10 x11 x12 x13 x14 x15 x16 x17 x18 x19 x20 x21 x22 x23 x24 x25 x26 x27 x28 x29 x30 x31 : α} {l : List α} : (x0 :: x1 :: x2 :: x3 :: x4 :: x5 :: x6 :: x7 :: x8 :: x9 :: x10 :: x11 :: x12 :: x13 :: x14 :: x15 :: x16 :: x17 :: x18 :: x19 :: x20 :: x21 :: x22 :: x23 :: x24 :: x25 :: x26 :: x27 :: x28 :: x29 :: x30 :: x31 :: l).toArray[31]? = some x31 := rfl
theorem lot32 {α : Type} {x0 x1 x2 x3 x4 x5 x6 x7 x8 x9 x10 x11 x12 x13 x14 x15 x16 x17 x18 x19 x20 x21 x22 x23 x24 x25 x26 x27 x28 x29 x30 x31 x32 : α} {l : List α} : (x0 :: x1 :: x2 :: x3 :: x4 :: x5 :: x6 :: x7 :: x8 :: x9 :: x10 :: x11 :: x12 :: x13 :: x14 :: x15 :: x16 :: x17 :: x18 :: x19 :: x20 :: x21 :: x22 :: x23 :: x24 :: x25 :: x26 :: x27 :: x28 :: x29 :: x30 :: x31 :: x32 :: l).toArray[32]? = some x32 := rfl
theorem lot33 {α : Type} {x0 x1 x2 x3 x4 x5 x6 x7 x8 x9 x10 x11 x12 x13 x14 x15 x16 x17 x18 x19 x20 x21 x22 x23 x24 x25 x26 x27 x28 x29 x30 x31 x32 x33 : α} {l : List α} : (x0 :: x1 :: x2 :: x3 :: x4 :: x5 :: x6 :: x7 :: x8 :: x9 :: x10 :: x11 :: x12 :: x13 :: x14 :: x15 :: x16 :: x17 :: x18 :: x19 :: x20 :: x21 :: x22 :: x23 :: x24 :: x25 :: x26 :: x27 :: x28 :: x29 :: x30 :: x31 :: x32 :: x33 :: l).toArray[33]? = some x33 := rfl
theorem lot34 {α : Type} {x0 x1 x2 x3 x4 x5 x6 x7 x8 x9 x10 x11 x12 x13 x14 x15 x16 x17 x18 x19 x20 x21 x22 x23 x24 x25 x26 x27 x28 x29 x30 x31 x32 x33 x34 : α} {l : List α} : (x0 :: x1 :: x2 :: x3 :: x4 :: x5 :: x6 :: x7 :: x8 :: x9 :: x10 :: x11 :: x12 :: x13 :: x14 :: x15 :: x16 :: x17 :: x18 :: x19 :: x20 :: x21 :: x22 :: x23 :: x24 :: x25 :: x26 :: x27 :: x28 :: x29 :: x30 :: x31 :: x32 :: x33 :: x34 :: l).toArray[34]? = some x34 := rfl
theorem lot35 {α : Type} {x0 x1 x2 x3 x4 x5 x6 x7 x8 x9 x10 x11 x12 x13 x14 x15 x16 x17 x18 x19 x20 x21 x22 x23 x24 x25 x26 x27 x28 x29 x30 x31 x32 x33 x34 x35 : α} {l : List α} : (x0 :: x1 :: x2 :: x3 :: x4 :: x5 :: x6 :: x7 :: x8 :: x9 :: x10 :: x11 :: x12 :: x13 :: x14 :: x15 :: x16 :: x17 :: x18 :: x19 :: x20 :: x21 :: x22 :: x23 :: x24 :: x25 :: x26 :: x27 :: x28 :: x29 :: x30 :: x31 :: x32 :: x33 :: x34 :: x35 :: l).toArray[35]? = some x35 := rfl
theorem lot36 {α : Type} {x0 x1 x2 x3 x4 x5 x6 x7 x8 x9 x10 x11 x12 x13 x14 x15 x16 x17 x18 x19 x20 x21 x22 x23 x24 x25 x26 x27 x28 x29 x30 x31 x32 x33 x34 x35 x36 : α} {l : List α} : (x0 :: x1 :: x2 :: x3 :: x4 :: x5 :: x6 :: x7 :: x8 :: x9 :: x10 :: x11 :: x12 :: x13 :: x14 :: x15 :: x16 :: x17 :: x18 :: x19 :: x20 :: x21 :: x22 :: x23 :: x24 :: x25 :: x26 :: x27 :: x28 :: x29 :: x30 :: x31 :: x32 :: x33 :: x34 :: x35 :: x36 :: l).toArray[36]? = some x36 := rfl
theorem lot37 {α : Type} {x0 x1 x2 x3 x4 x5 x6 x7 x8 x9 x10 x11 x12 x13 x14 x15 x16 x17 x18 x19 x20 x21 x22 x23 x24 x25 x26 x27 x28 x29 x30 x31 x32 x33 x34 x35 x36 x37 : α} {l : List α} : (x0 :: x1 :: x2 :: x3 :: x4 :: x5 :: x6 :: x7 :: x8 :: x9 :: x10 :: x11 :: x12 :: x13 :: x14 :: x15 :: x16 :: x17 :: x18 :: x19 :: x20 :: x21 :: x22 :: x23 :: x24 :: x25 :: x26 :: x27 :: x28 :: x29 :: x30 :: x31 :: x32 :: x33 :: x34 :: x35 :: x36 :: x37 :: l).toArray[37]? = some x37 := rfl
theorem lot38 {α : Type} {x0 x1 x2 x3 x4 x5 x6 x7 x8 x9 x10 x11 x12 x13 x14 x15 x16 x17 x18 x19 x20 x21 x22 x23 x24 x25 x26 x27 x28 x29 x30 x31 x32 x33 x34 x35 x36 x37 x38 : α} {l : List α} : (x0 :: x1 :: x2 :: x3 :: x4 :: x5 :: x6 :: x7 :: x8 :: x9 :: x10 :: x11 :: x12 :: x13 :: x14 :: x15 :: x16 :: x17 :: x18 :: x19 :: x20 :: x21 :: x22 :: x23 :: x24 :: x25 :: x26 :: x27 :: x28 :: x29 :: x30 :: x31 :: x32 :: x33 :: x34 :: x35 :: x36 :: x37 :: x38 :: l).toArray[38]? = some x38 := rfl
theorem lot39 {α : Type} {x0 x1 x2 x3 x4 x5 x6 x7 x8 x9 x10 x11 x12 x13 x14 x15 x16 x17 x18 x19 x20 x21 x22 x23 x24 x25 x26 x27 x28 x29 x30 x31 x32 x33 x34 x35 x36 x37 x38 x39 : α} {l : List α} : (x0 :: x1 :: x2 :: x3 :: x4 :: x5 :: x6 :: x7 :: x8 :: x9 :: x10 :: x11 :: x12 :: x13 :: x14 :: x15 :: x16 :: x17 :: x18 :: x19 :: x20 :: x21 :: x22 :: x23 :: x24 :: x25 :: x26 :: x27 :: x28 :: x29 :: x30 :: x31 :: x32 :: x33 :: x34 :: x35 :: x36 :: x37 :: x38 :: x39 :: l).toArray[39]? = some x39 := rfl
theorem bytes_lt (s : ByteArray) : ∀ b ∈ bytesN s, b < 256 := by
  intro b hb
  simp only [bytesN, List.mem_map] at hb
  obtain ⟨x, _, rfl⟩ := hb
  exact x.toNat_lt
set_option maxRecDepth 100000 in
set_option maxHeartbeats 4000000 in
theorem miniruns_big (D : Dfa) (v : Value) (s : ByteArray) (w : World) (hD : DfaIn w v D) (htl : D.tags.length ≤ 9223372036854775807) (hl : littleM D = false) (hp : PowOk w) :
    Calls Tryd.prog 6 #[v, .string s] w fun e w' => e = .returned (.bool true) ∧ Fr none_ w w' := by
  have HL := Lib.hid hl
  clear hl
  obtain ⟨C, na, ncap, T2, rfl, hz, hone, h256, hq2⟩ := hD.cells3
  have HQ2 := Lib.hid hq2
  have hq0 : (intsV D.cls).length = 256 := by rw [intsV_length, hD.len]
  clear hq2
  have HD0 := Lib.hid hD
  have HP := Lib.hid hp
  have H256 := Lib.hid h256
  have B0 := Lib.hid (alloc_new w (.cells C.toArray 29))
  have F0 := Lib.hid ((Fr.refl none_ w).alloc (.cells C.toArray 29))
  clear hD hp h256
  go_enter Tryd.func6, Tryd.ntmps6
  go_wp2_with fail
  refine (works6_any _ (HP.out.move F0.out)).mono ?_
  rintro e w1 ⟨rfl, F1⟩
  have B1 := Lib.hid (F1.at_ B0.out (fun h => h))
  have FA := Lib.hid (F0.out.tr F1)
  have D1 := Lib.hid (HD0.out.move FA.out)
  clear F1 B0
  go_wp2_with (refine wpList_load_row rfl 29 (.tmp 2) rfl w.heap.size 29 C _ rfl B1.out Tryd.underlying29 rfl (by rw [hz]; exact dfa_info) ?_)
  refine (little_any D _ _ D1.out htl).mono ?_
  rintro e w2 ⟨rfl, F1⟩
  rw [HL.out]
  have B2 := Lib.hid (F1.at_ B1.out (fun h => h))
  have FB := Lib.hid (FA.out.tr F1)
  clear F1 B1 D1 FA
  go_wp2_with fail
  go_ret
  exact ⟨rfl, FB.out⟩

set_option maxRecDepth 100000 in
set_option maxHeartbeats 4000000 in
theorem miniruns_long (D : Dfa) (v : Value) (s : ByteArray) (w : World) (hD : DfaIn w v D) (htl : D.tags.length ≤ 9223372036854775807) (hl : littleM D = true) (hs : s.size ≤ 140737488351232) (h40 : 40 < s.size) (hp : PowOk w) :
    Calls Tryd.prog 6 #[v, .string s] w fun e w' => e = .returned (.bool true) ∧ Fr none_ w w' := by
  have HL := Lib.hid hl
  have hsi : (40 : Int) < (s.size : Int) := by omega
  clear hl
  obtain ⟨C, na, ncap, T2, rfl, hz, hone, h256, hq2⟩ := hD.cells3
  have HQ2 := Lib.hid hq2
  have hq0 : (intsV D.cls).length = 256 := by rw [intsV_length, hD.len]
  clear hq2
  have HD0 := Lib.hid hD
  have HP := Lib.hid hp
  have H256 := Lib.hid h256
  have B0 := Lib.hid (alloc_new w (.cells C.toArray 29))
  have F0 := Lib.hid ((Fr.refl none_ w).alloc (.cells C.toArray 29))
  clear hD hp h256
  go_enter Tryd.func6, Tryd.ntmps6
  go_wp2_with fail
  refine (works6_any _ (HP.out.move F0.out)).mono ?_
  rintro e w1 ⟨rfl, F1⟩
  have B1 := Lib.hid (F1.at_ B0.out (fun h => h))
  have FA := Lib.hid (F0.out.tr F1)
  have D1 := Lib.hid (HD0.out.move FA.out)
  clear F1 B0
  go_wp2_with (refine wpList_load_row rfl 29 (.tmp 2) rfl w.heap.size 29 C _ rfl B1.out Tryd.underlying29 rfl (by rw [hz]; exact dfa_info) ?_)
  refine (little_any D _ _ D1.out htl).mono ?_
  rintro e w2 ⟨rfl, F1⟩
  rw [HL.out]
  have B2 := Lib.hid (F1.at_ B1.out (fun h => h))
  have FB := Lib.hid (FA.out.tr F1)
  clear F1 B1 D1 FA
  go_wp2_with fail
  go_ret
  exact ⟨rfl, FB.out⟩

set_option maxRecDepth 100000 in
set_option maxHeartbeats 4000000 in
theorem miniruns_bad (D : Dfa) (v : Value) (s : ByteArray) (w : World) (hD : DfaIn w v D) (htl : D.tags.length ≤ 9223372036854775807) (hl : littleM D = true) (h40 : s.size ≤ 40) (hv : validM D = false) (hp : PowOk w) :
    Calls Tryd.prog 6 #[v, .string s] w fun e w' => e = .returned (.bool true) ∧ Fr none_ w w' := by
  have HL := Lib.hid hl
  have HV := Lib.hid hv
  have hsi : ¬ (40 : Int) < (s.size : Int) := by omega
  clear hl hv
  obtain ⟨C, na, ncap, T2, rfl, hz, hone, h256, hq2⟩ := hD.cells3
  have HQ2 := Lib.hid hq2
  have hq0 : (intsV D.cls).length = 256 := by rw [intsV_length, hD.len]
  clear hq2
  have HD0 := Lib.hid hD
  have HP := Lib.hid hp
  have H256 := Lib.hid h256
  have B0 := Lib.hid (alloc_new w (.cells C.toArray 29))
  have F0 := Lib.hid ((Fr.refl none_ w).alloc (.cells C.toArray 29))
  clear hD hp h256
  go_enter Tryd.func6, Tryd.ntmps6
  go_wp2_with fail
  refine (works6_any _ (HP.out.move F0.out)).mono ?_
  rintro e w1 ⟨rfl, F1⟩
  have B1 := Lib.hid (F1.at_ B0.out (fun h => h))
  have FA := Lib.hid (F0.out.tr F1)
  have D1 := Lib.hid (HD0.out.move FA.out)
  clear F1 B0
  go_wp2_with (refine wpList_load_row rfl 29 (.tmp 2) rfl w.heap.size 29 C _ rfl B1.out Tryd.underlying29 rfl (by rw [hz]; exact dfa_info) ?_)
  refine (little_any D _ _ D1.out htl).mono ?_
  rintro e w2 ⟨rfl, F1⟩
  rw [HL.out]
  have B2 := Lib.hid (F1.at_ B1.out (fun h => h))
  have FB := Lib.hid (FA.out.tr F1)
  clear F1 B1 D1 FA
  go_wp2_with (refine wpList_load_row rfl 29 (.tmp 2) rfl w.heap.size 29 C _ rfl B2.out Tryd.underlying29 rfl (by rw [hz]; exact dfa_info) ?_)
  refine (least_no D _ _ (HD0.out.move FB.out) HV.out).mono ?_
  rintro e w3 ⟨rfl, F1⟩
  have FC := Lib.hid (FB.out.tr F1)
  have LR := laid_row w3 Tryd.zeroCells29 29 Tryd.zeroCells29
  have LF := Lib.hid LR.1
  have LB := Lib.hid LR.2
  have B4 := Lib.hid (LF.out.at_ (F1.at_ B2.out (fun h => h)) (fun h => h))
  have FD := Lib.hid (FC.out.tr LF.out)
  clear F1 LR
  go_wp2_with (refine wpList_store_row rfl 29 (.tmp 7) (.tmp 27) rfl w3.heap.size 29 Tryd.zeroCells29 Tryd.zeroCells29 rfl rfl (alloc_new w3 _) (by rw [zeroD_size]; exact dfa_info) rfl zeroD_one ?_)
  refine wp_load_mid 29 _ rfl w.heap.size 0 rfl C _ (range_of B4.out) Tryd.underlying29 rfl (by rw [hz]; exact dfa_info) ?_
  generalize hwc : (w3.alloc (.cells Tryd.zeroCells29 29)).setRow w3.heap.size Tryd.zeroCells29 = wc at *
  have LB2 := Lib.hid (show wc.heap[w3.heap.size]? = some (.cells (dfaC (ints (List.replicate 256 0)) (.slice none 0 0) (.slice none 0 0)).toArray 29 (0, 0)) by rw [← zeroD_list]; exact LB.out)
  clear hwc LF LB
  go_wp2_with fail
  refine (valid_any D _ _ (HD0.out.move FD.out)).mono ?_
  rintro e w4 ⟨rfl, F1⟩
  rw [HV.out]
  have FE := Lib.hid (FD.out.tr F1)
  have f1 := cell_of_block (o := 256) (F1.at_ LB2.out (fun h => h)) (v := .slice none 0 0) (by kernel_rfl)
  clear F1 LB2 FD
  go_wp2_with fail
  go_ret
  exact ⟨rfl, FE.out⟩

set_option maxRecDepth 100000 in
set_option maxHeartbeats 4000000 in
theorem miniruns_good (D : Dfa) (v : Value) (s : ByteArray) (w : World) (hD : DfaIn w v D) (htl : D.tags.length ≤ 9223372036854775807) (htg : ∀ t ∈ D.tags, t < 18446744073709551616) (hl : littleM D = true) (h40 : s.size ≤ 40) (hv : validM D = true) (hp : PowOk w) :
    Calls Tryd.prog 6 #[v, .string s] w fun e w' => e = .returned (.bool true) ∧ Fr none_ w w' := by
  have HL := Lib.hid hl
  have HV := Lib.hid hv
  have HDV := Lib.hid (valid_dv hv)
  have HTG := Lib.hid htg
  obtain ⟨hn30, ht30, hr20⟩ := little_spec.1 hl
  have hk20 : (D.next.getD 0 []).length ≤ 20 := by
    have hpos := HDV.out.pos
    rw [List.getD, List.getElem?_eq_getElem hpos]
    exact hr20 _ (List.getElem_mem hpos)
  obtain ⟨hm1, hm2, hm3, hm4, hm5⟩ := least_len HDV.out (by omega)
  have HMV := Lib.hid hm1
  have HMD := Lib.hid (valid_dv hm1)
  have HML := Lib.hid (least_least HDV.out (by omega))
  have HMC := Lib.hid hm4
  have HMK := Lib.hid (show ((leastM D).next.getD 0 []).length ≤ 20 by
    obtain ⟨N, S, hok⟩ := least_ok HDV.out (show D.next.length < 100000 by omega)
    rw [(hok.dv.rowAt hok.dv.pos).1]; exact hk20)
  have HMT := Lib.hid (show ∀ t ∈ (leastM D).tags, t < 18446744073709551616 from least_tags HDV.out (by omega) (by decide) htg)
  have HRUN := Lib.hid (least_run HDV.out (show D.next.length < 100000 by omega) hD.len (bytesN s) (bytes_lt s))
  have hsi : ¬ (40 : Int) < (s.size : Int) := by omega
  clear hl hv htg hr20 hm1 hm4
  obtain ⟨M, hM⟩ : ∃ M, leastM D = M := ⟨_, rfl⟩
  rw [hM] at hm2 hm3 hm5 HMV HMD HML HMC HMK HMT HRUN
  have HMQ := Lib.hid hM
  clear hM
  obtain ⟨C, na, ncap, T2, rfl, hz, hone, h256, hq2⟩ := hD.cells3
  have HQ2 := Lib.hid hq2
  have hq0 : (intsV D.cls).length = 256 := by rw [intsV_length, hD.len]
  clear hq2
  have HD0 := Lib.hid hD
  have HP := Lib.hid hp
  have H256 := Lib.hid h256
  have B0 := Lib.hid (alloc_new w (.cells C.toArray 29))
  have F0 := Lib.hid ((Fr.refl none_ w).alloc (.cells C.toArray 29))
  clear hD hp h256
  go_enter Tryd.func6, Tryd.ntmps6
  go_wp2_with fail
  refine (works6_any _ (HP.out.move F0.out)).mono ?_
  rintro e w1 ⟨rfl, F1⟩
  have B1 := Lib.hid (F1.at_ B0.out (fun h => h))
  have FA := Lib.hid (F0.out.tr F1)
  have D1 := Lib.hid (HD0.out.move FA.out)
  clear F1 B0
  go_wp2_with (refine wpList_load_row rfl 29 (.tmp 2) rfl w.heap.size 29 C _ rfl B1.out Tryd.underlying29 rfl (by rw [hz]; exact dfa_info) ?_)
  refine (little_any D _ _ D1.out htl).mono ?_
  rintro e w2 ⟨rfl, F1⟩
  rw [HL.out]
  have B2 := Lib.hid (F1.at_ B1.out (fun h => h))
  have FB := Lib.hid (FA.out.tr F1)
  clear F1 B1 D1 FA
  go_wp2_with (refine wpList_load_row rfl 29 (.tmp 2) rfl w.heap.size 29 C _ rfl B2.out Tryd.underlying29 rfl (by rw [hz]; exact dfa_info) ?_)
  refine (least_yes D _ _ _ _ (HD0.out.move FB.out) HDV.out HV.out (by omega) (by omega) HTG.out (HP.out.move FB.out)).mono ?_
  rintro e w3 ⟨v3, rfl, hD3, F1⟩
  rw [HMQ.out] at hD3
  obtain ⟨C3, na3, ncap3, T3, rfl, hz3, hone3, h3, hq3⟩ := hD3.cells3
  rw [HMC.out] at hq3
  have heq := eql_ints D.cls D.cls HD0.out.len HD0.out.len
  obtain ⟨Q, hQ⟩ : ∃ Q, intsV D.cls = Q := ⟨_, rfl⟩
  have hq : Q.length = 256 := by rw [← hQ]; exact hq0
  rw [hQ] at hq3 HQ2 heq
  rw [show decide (D.cls = D.cls) = true from decide_eq_true rfl] at heq
  have HQ3 := Lib.hid hq3
  clear hq3 hQ
  have H3 := Lib.hid h3
  have HD3 := Lib.hid hD3
  have FC := Lib.hid (FB.out.tr F1)
  have LR := laid_row w3 Tryd.zeroCells29 29 C3.toArray
  have LF := Lib.hid LR.1
  have LB := Lib.hid LR.2
  have B4 := Lib.hid (LF.out.at_ (F1.at_ B2.out (fun h => h)) (fun h => h))
  have FD := Lib.hid (FC.out.tr LF.out)
  have D4 := Lib.hid (HD3.out.move LF.out)
  clear F1 LR h3 hD3 B2
  go_wp2_with (first
    | (refine wpList_store_row rfl 29 (.tmp 7) (.tmp 27) rfl w3.heap.size 29 Tryd.zeroCells29 C3.toArray rfl rfl (alloc_new w3 _) ?_ ?_ hone3 ?_; (rw [List.size_toArray, hz3]; exact dfa_info); (rw [zeroD_size, List.size_toArray, hz3]))
    | (refine wpList_load_row rfl 29 (.tmp 7) rfl w3.heap.size 29 C3 _ rfl LB.out Tryd.underlying29 rfl ?_ ?_; (rw [hz3]; exact dfa_info)))
  obtain ⟨b3, hb3⟩ : ∃ x, w3.heap.size = x := ⟨_, rfl⟩
  generalize hwc : (w3.alloc (.cells Tryd.zeroCells29 29)).setRow w3.heap.size C3.toArray = wc at *
  rw [hb3] at LB ⊢
  have B5 := LB
  clear hwc LF LB HD3 FC FB
  refine (least_yes M _ _ _ _ D4.out HMD.out HMV.out (by omega) (by have := HMK.out; omega) HMT.out (HP.out.move FD.out)).mono ?_
  rintro e w5 ⟨v5, rfl, hD5, F1⟩
  rw [HML.out] at hD5
  obtain ⟨C5, na5, ncap5, rfl, hz5, hone5, h5⟩ := hD5.cells2
  have HD5 := Lib.hid hD5
  have LR := laid_row w5 Tryd.zeroCells29 29 C5.toArray
  have LF := Lib.hid LR.1
  have LB := Lib.hid LR.2
  have FX := Lib.hid (F1.tr LF.out)
  have B6 := Lib.hid (FX.out.at_ B5.out (fun h => h))
  have B7 := Lib.hid (FX.out.at_ B4.out (fun h => h))
  have D6 := Lib.hid (D4.out.move FX.out)
  have D7 := Lib.hid (HD5.out.move LF.out)
  have FE := Lib.hid (FD.out.tr FX.out)
  clear F1 LR h5 hD5 B4 B5 D4 FD
  go_wp2_with (refine wpList_store_row rfl 29 (.tmp 9) (.tmp 46) rfl w5.heap.size 29 Tryd.zeroCells29 C5.toArray rfl rfl (alloc_new w5 _) ?_ ?_ hone5 ?_; (rw [List.size_toArray, hz5]; exact dfa_info); (rw [zeroD_size, List.size_toArray, hz5]))
  obtain ⟨b5, hb5⟩ : ∃ x, w5.heap.size = x := ⟨_, rfl⟩
  generalize hwd : (w5.alloc (.cells Tryd.zeroCells29 29)).setRow w5.heap.size C5.toArray = wd at *
  rw [hb5] at LB ⊢
  clear hwd LF FX HD5
  have HSX := Lib.hid (show ∀ wx, Fr none_ wd wx → (wx.rangeAt b3 0 C3 ∧ wx.rangeAt b5 0 C5 ∧ wx.rangeAt w.heap.size 0 C ∧ wx.rangeAt b3 0 Q ∧ wx.rangeAt w.heap.size 0 Q ∧ wx.cell? ⟨b3, 256, none⟩ = some (.slice na3 M.next.length ncap3) ∧ wx.cell? ⟨w.heap.size, 256, none⟩ = some (.slice na D.next.length ncap)) from fun wx hf =>
    ⟨range_of (hf.at_ B6.out (fun h => h)), range_of (hf.at_ LB.out (fun h => h)), range_of (hf.at_ B7.out (fun h => h)), range_pre (D := T3) (by rw [← HQ3.out]; exact range_of (hf.at_ B6.out (fun h => h))), range_pre (D := T2) (by rw [← HQ2.out]; exact range_of (hf.at_ B7.out (fun h => h))),
      cell_of_block (hf.at_ B6.out (fun h => h)) (by simpa using H3.out), cell_of_block (hf.at_ B7.out (fun h => h)) (by simpa using H256.out)⟩)
  have DD := Lib.hid (HD0.out.move FE.out)
  clear B6 B7 LB H3 H256 HQ3 HQ2
  refine wp_region_held_drew (S := fun wx => wx.rangeAt b3 0 C3 ∧ wx.rangeAt b5 0 C5 ∧ wx.rangeAt w.heap.size 0 C ∧ wx.rangeAt b3 0 Q ∧ wx.rangeAt w.heap.size 0 Q ∧ wx.cell? ⟨b3, 256, none⟩ = some (.slice na3 M.next.length ncap3) ∧ wx.cell? ⟨w.heap.size, 256, none⟩ = some (.slice na D.next.length ncap)) (by kernel_rfl) (HSX.out _ (Fr.refl none_ wd).drew) (fun hHeld => ?_)
  try simp only [Act.put, List.setIfInBounds_toArray, List.set_cons_zero, List.set_cons_succ]
  refine wpAnyH_take (i := 0) (v := ?_) lot0 (by kernel_rfl) (by kernel_rfl) (by kernel_rfl) (fun _ _ _ h => h) (Or.inl ⟨by rfl, ?_⟩) (by assumption) ?_
  rotate_left
  · (intro wv hSw; (try dsimp only at hSw); obtain ⟨s1, s2, s3, s4, s5, s6, s7⟩ := hSw; go_simp) <;> with_reducible rfl
  try simp only [Act.put, List.setIfInBounds_toArray, List.set_cons_zero, List.set_cons_succ]
  refine wpAnyH_take (i := 1) (v := ?_) lot1 (by kernel_rfl) (by kernel_rfl) (by kernel_rfl) (fun _ _ _ h => h) (Or.inl ⟨by rfl, ?_⟩) (by assumption) ?_
  rotate_left
  · (intro wv hSw; (try dsimp only at hSw); obtain ⟨s1, s2, s3, s4, s5, s6, s7⟩ := hSw; go_simp) <;> with_reducible rfl
  try simp only [Act.put, List.setIfInBounds_toArray, List.set_cons_zero, List.set_cons_succ]
  refine wpAnyH_take (i := 2) lot2 (by kernel_rfl) (by kernel_rfl) (by kernel_rfl) (fun _ _ _ h => h) (yieldsIf_load_mid (by rfl) _ _ rfl _ _ rfl C3 _ (fun _ h => h.1) Tryd.underlying29 rfl (by rw [hz3]; exact dfa_info)) (by assumption) ?_
  try simp only [Act.put, List.setIfInBounds_toArray, List.set_cons_zero, List.set_cons_succ]
  refine wpAnyH_ready (rs := [3]) (by kernel_rfl) (by simp) ?_
  refine AllReadyH.cons lot3 (fun K hK => ?_) AllReadyH.nil
  go_simp
  go_at_call 19
  refine (valid_any M _ _ (D6.out.move (Fr.refl none_ wd).drew)).mono ?_
  rintro e wa ⟨rfl, Fwa⟩
  rw [HMV.out]
  have Gwa := Lib.hid (((Fr.refl none_ wd).drew).tr Fwa)
  clear Fwa
  refine hK.out _ _ (HSX.out _ Gwa.out) (fun hHeld => ?_)
  clear hK K
  try simp only [Act.put, List.setIfInBounds_toArray, List.set_cons_zero, List.set_cons_succ]
  refine wpAnyH_take (i := 4) (v := ?_) lot4 (by kernel_rfl) (by kernel_rfl) (by kernel_rfl) (fun _ _ _ h => h) (Or.inl ⟨by rfl, ?_⟩) (by assumption) ?_
  rotate_left
  · (intro wv hSw; (try dsimp only at hSw); obtain ⟨s1, s2, s3, s4, s5, s6, s7⟩ := hSw; go_simp) <;> with_reducible rfl
  try simp only [Act.put, List.setIfInBounds_toArray, List.set_cons_zero, List.set_cons_succ]
  refine wpAnyH_take (i := 5) (v := ?_) lot5 (by kernel_rfl) (by kernel_rfl) (by kernel_rfl) (fun _ _ _ h => h) (Or.inl ⟨by rfl, ?_⟩) (by assumption) ?_
  rotate_left
  · (intro wv hSw; (try dsimp only at hSw); obtain ⟨s1, s2, s3, s4, s5, s6, s7⟩ := hSw; go_simp) <;> with_reducible rfl
  try simp only [Act.put, List.setIfInBounds_toArray, List.set_cons_zero, List.set_cons_succ]
  refine wpAnyH_take (i := 6) (v := ?_) lot6 (by kernel_rfl) (by kernel_rfl) (by kernel_rfl) (fun _ _ _ h => h) (Or.inl ⟨by rfl, ?_⟩) (by assumption) ?_
  rotate_left
  · (intro wv hSw; (try dsimp only at hSw); obtain ⟨s1, s2, s3, s4, s5, s6, s7⟩ := hSw; go_simp) <;> with_reducible rfl
  try simp only [Act.put, List.setIfInBounds_toArray, List.set_cons_zero, List.set_cons_succ]
  refine wpAnyH_take (i := 7) (v := ?_) lot7 (by kernel_rfl) (by kernel_rfl) (by kernel_rfl) (fun _ _ _ h => h) (Or.inl ⟨by rfl, ?_⟩) (by assumption) ?_
  rotate_left
  · (intro wv hSw; (try dsimp only at hSw); obtain ⟨s1, s2, s3, s4, s5, s6, s7⟩ := hSw; go_simp) <;> with_reducible rfl
  try simp only [Act.put, List.setIfInBounds_toArray, List.set_cons_zero, List.set_cons_succ]
  refine wpAnyH_take (i := 8) (v := ?_) lot8 (by kernel_rfl) (by kernel_rfl) (by kernel_rfl) (fun _ _ _ h => h) (Or.inl ⟨by rfl, ?_⟩) (by assumption) ?_
  rotate_left
  · (intro wv hSw; (try dsimp only at hSw); obtain ⟨s1, s2, s3, s4, s5, s6, s7⟩ := hSw; go_simp) <;> with_reducible rfl
  try simp only [Act.put, List.setIfInBounds_toArray, List.set_cons_zero, List.set_cons_succ]
  refine wpAnyH_take (i := 9) (v := ?_) lot9 (by kernel_rfl) (by kernel_rfl) (by kernel_rfl) (fun _ _ _ h => h) (Or.inl ⟨by rfl, ?_⟩) (by assumption) ?_
  rotate_left
  · (intro wv hSw; (try dsimp only at hSw); obtain ⟨s1, s2, s3, s4, s5, s6, s7⟩ := hSw; go_simp) <;> with_reducible rfl
  try simp only [Act.put, List.setIfInBounds_toArray, List.set_cons_zero, List.set_cons_succ]
  refine wpAnyH_take (i := 10) lot10 (by kernel_rfl) (by kernel_rfl) (by kernel_rfl) (fun _ _ _ h => h) (yieldsIf_load_mid (by rfl) _ _ rfl _ _ rfl C3 _ (fun _ h => h.1) Tryd.underlying29 rfl (by rw [hz3]; exact dfa_info)) (by assumption) ?_
  try simp only [Act.put, List.setIfInBounds_toArray, List.set_cons_zero, List.set_cons_succ]
  refine wpAnyH_take (i := 11) lot11 (by kernel_rfl) (by kernel_rfl) (by kernel_rfl) (fun _ _ _ h => h) (yieldsIf_load_mid (by rfl) _ _ rfl _ _ rfl C5 _ (fun _ h => h.2.1) Tryd.underlying29 rfl (by rw [hz5]; exact dfa_info)) (by assumption) ?_
  try simp only [Act.put, List.setIfInBounds_toArray, List.set_cons_zero, List.set_cons_succ]
  refine wpAnyH_ready (rs := [12]) (by kernel_rfl) (by simp) ?_
  refine AllReadyH.cons lot12 (fun K hK => ?_) AllReadyH.nil
  go_simp
  go_at_call 20
  refine (same_any M M _ _ _ (D6.out.move Gwa.out) (D7.out.move Gwa.out) (by omega) (by omega)).mono ?_
  rintro e wb ⟨rfl, Fwb⟩
  rw [sameM_refl]
  have Gwb := Lib.hid ((Gwa.out).tr Fwb)
  clear Fwb
  refine hK.out _ _ (HSX.out _ Gwb.out) (fun hHeld => ?_)
  clear hK K
  try simp only [Act.put, List.setIfInBounds_toArray, List.set_cons_zero, List.set_cons_succ]
  refine wpAnyH_take (i := 13) (v := ?_) lot13 (by kernel_rfl) (by kernel_rfl) (by kernel_rfl) (fun _ _ _ h => h) (Or.inl ⟨by rfl, ?_⟩) (by assumption) ?_
  rotate_left
  · (intro wv hSw; (try dsimp only at hSw); obtain ⟨s1, s2, s3, s4, s5, s6, s7⟩ := hSw; go_simp) <;> with_reducible rfl
  try simp only [Act.put, List.setIfInBounds_toArray, List.set_cons_zero, List.set_cons_succ]
  refine wpAnyH_take (i := 14) (v := ?_) lot14 (by kernel_rfl) (by kernel_rfl) (by kernel_rfl) (fun _ _ _ h => h) (Or.inl ⟨by rfl, ?_⟩) (by assumption) ?_
  rotate_left
  · (intro wv hSw; (try dsimp only at hSw); obtain ⟨s1, s2, s3, s4, s5, s6, s7⟩ := hSw; go_simp) <;> with_reducible rfl
  try simp only [Act.put, List.setIfInBounds_toArray, List.set_cons_zero, List.set_cons_succ]
  refine wpAnyH_take (i := 15) (v := ?_) lot15 (by kernel_rfl) (by kernel_rfl) (by kernel_rfl) (fun _ _ _ h => h) (Or.inl ⟨by rfl, ?_⟩) (by assumption) ?_
  rotate_left
  · (intro wv hSw; (try dsimp only at hSw); obtain ⟨s1, s2, s3, s4, s5, s6, s7⟩ := hSw; go_simp) <;> with_reducible rfl
  try simp only [Act.put, List.setIfInBounds_toArray, List.set_cons_zero, List.set_cons_succ]
  refine wpAnyH_take (i := 16) (v := ?_) lot16 (by kernel_rfl) (by kernel_rfl) (by kernel_rfl) (fun _ _ _ h => h) (Or.inl ⟨by rfl, ?_⟩) (by assumption) ?_
  rotate_left
  · (intro wv hSw; (try dsimp only at hSw); obtain ⟨s1, s2, s3, s4, s5, s6, s7⟩ := hSw; go_simp) <;> with_reducible rfl
  try simp only [Act.put, List.setIfInBounds_toArray, List.set_cons_zero, List.set_cons_succ]
  refine wpAnyH_take (i := 17) (v := ?_) lot17 (by kernel_rfl) (by kernel_rfl) (by kernel_rfl) (fun _ _ _ h => h) (Or.inl ⟨by rfl, ?_⟩) (by assumption) ?_
  rotate_left
  · (intro wv hSw; (try dsimp only at hSw); obtain ⟨s1, s2, s3, s4, s5, s6, s7⟩ := hSw; go_simp) <;> with_reducible rfl
  try simp only [Act.put, List.setIfInBounds_toArray, List.set_cons_zero, List.set_cons_succ]
  refine wpAnyH_take (i := 18) (v := ?_) lot18 (by kernel_rfl) (by kernel_rfl) (by kernel_rfl) (fun _ _ _ h => h) (Or.inl ⟨by rfl, ?_⟩) (by assumption) ?_
  rotate_left
  · (intro wv hSw; (try dsimp only at hSw); obtain ⟨s1, s2, s3, s4, s5, s6, s7⟩ := hSw; go_simp) <;> with_reducible rfl
  try simp only [Act.put, List.setIfInBounds_toArray, List.set_cons_zero, List.set_cons_succ]
  refine wpAnyH_take (i := 19) (v := ?_) lot19 (by kernel_rfl) (by kernel_rfl) (by kernel_rfl) (fun _ _ _ h => h) (Or.inl ⟨by rfl, ?_⟩) (by assumption) ?_
  rotate_left
  · (intro wv hSw; (try dsimp only at hSw); obtain ⟨s1, s2, s3, s4, s5, s6, s7⟩ := hSw; go_simp) <;> with_reducible rfl
  try simp only [Act.put, List.setIfInBounds_toArray, List.set_cons_zero, List.set_cons_succ]
  refine wpAnyH_take (i := 20) (v := ?_) lot20 (by kernel_rfl) (by kernel_rfl) (by kernel_rfl) (fun _ _ _ h => h) (Or.inl ⟨by rfl, ?_⟩) (by assumption) ?_
  rotate_left
  · (intro wv hSw; (try dsimp only at hSw); obtain ⟨s1, s2, s3, s4, s5, s6, s7⟩ := hSw; go_simp) <;> with_reducible rfl
  try simp only [Act.put, List.setIfInBounds_toArray, List.set_cons_zero, List.set_cons_succ]
  refine wpAnyH_take (i := 21) (v := ?_) lot21 (by kernel_rfl) (by kernel_rfl) (by kernel_rfl) (fun _ _ _ h => h) (Or.inl ⟨by rfl, ?_⟩) (by assumption) ?_
  rotate_left
  · (intro wv hSw; (try dsimp only at hSw); obtain ⟨s1, s2, s3, s4, s5, s6, s7⟩ := hSw; go_simp) <;> with_reducible rfl
  try simp only [Act.put, List.setIfInBounds_toArray, List.set_cons_zero, List.set_cons_succ]
  refine wpAnyH_take (i := 22) (v := ?_) lot22 (by kernel_rfl) (by kernel_rfl) (by kernel_rfl) (fun _ _ _ h => h) (Or.inl ⟨by rfl, ?_⟩) (by assumption) ?_
  rotate_left
  · (intro wv hSw; (try dsimp only at hSw); obtain ⟨s1, s2, s3, s4, s5, s6, s7⟩ := hSw; go_simp) <;> with_reducible rfl
  try simp only [Act.put, List.setIfInBounds_toArray, List.set_cons_zero, List.set_cons_succ]
  refine wpAnyH_take (i := 23) (v := ?_) lot23 (by kernel_rfl) (by kernel_rfl) (by kernel_rfl) (fun _ _ _ h => h) (Or.inl ⟨by rfl, ?_⟩) (by assumption) ?_
  rotate_left
  · (intro wv hSw; (try dsimp only at hSw); obtain ⟨s1, s2, s3, s4, s5, s6, s7⟩ := hSw; go_simp) <;> with_reducible rfl
  try simp only [Act.put, List.setIfInBounds_toArray, List.set_cons_zero, List.set_cons_succ]
  refine wpAnyH_take (i := 24) lot24 (by kernel_rfl) (by kernel_rfl) (by kernel_rfl) (fun _ _ _ h => h) (yieldsIf_load_mid (by rfl) _ _ rfl _ _ rfl C3 _ (fun _ h => h.1) Tryd.underlying29 rfl (by rw [hz3]; exact dfa_info)) (by assumption) ?_
  try simp only [Act.put, List.setIfInBounds_toArray, List.set_cons_zero, List.set_cons_succ]
  refine wpAnyH_take (i := 25) (v := ?_) lot25 (by kernel_rfl) (by kernel_rfl) (by kernel_rfl) (fun _ _ _ h => h) (Or.inl ⟨by rfl, ?_⟩) (by assumption) ?_
  rotate_left
  · (intro wv hSw; (try dsimp only at hSw); obtain ⟨s1, s2, s3, s4, s5, s6, s7⟩ := hSw; go_simp) <;> with_reducible rfl
  try simp only [Act.put, List.setIfInBounds_toArray, List.set_cons_zero, List.set_cons_succ]
  refine wpAnyH_take (i := 27) lot27 (by kernel_rfl) (by kernel_rfl) (by kernel_rfl) (fun _ _ _ h => h) (yieldsIf_load_mid (by rfl) _ _ rfl _ _ rfl C _ (fun _ h => h.2.2.1) Tryd.underlying29 rfl (by rw [hz]; exact dfa_info)) (by assumption) ?_
  try simp only [Act.put, List.setIfInBounds_toArray, List.set_cons_zero, List.set_cons_succ]
  refine wpAnyH_take (i := 28) (v := ?_) lot28 (by kernel_rfl) (by kernel_rfl) (by kernel_rfl) (fun _ _ _ h => h) (Or.inl ⟨by rfl, ?_⟩) (by assumption) ?_
  rotate_left
  · (intro wv hSw; (try dsimp only at hSw); obtain ⟨s1, s2, s3, s4, s5, s6, s7⟩ := hSw; go_simp) <;> with_reducible rfl
  try simp only [Act.put, List.setIfInBounds_toArray, List.set_cons_zero, List.set_cons_succ]
  refine wpAnyH_ready (rs := [26]) (by kernel_rfl) (by simp) ?_
  refine AllReadyH.cons lot26 (fun K hK => ?_) AllReadyH.nil
  go_simp
  go_at_call 14
  refine (drun_any M _ s _ (D6.out.move Gwb.out) (by omega)).mono ?_
  rintro e wc2 ⟨rfl, Fwc2⟩
  rw [HRUN.out]
  have Gwc2 := Lib.hid ((Gwb.out).tr Fwc2)
  clear Fwc2
  refine hK.out _ _ (HSX.out _ Gwc2.out) (fun hHeld => ?_)
  clear hK K
  try simp only [Act.put, List.setIfInBounds_toArray, List.set_cons_zero, List.set_cons_succ]
  refine wpAnyH_ready (rs := [29]) (by kernel_rfl) (by simp) ?_
  refine AllReadyH.cons lot29 (fun K hK => ?_) AllReadyH.nil
  go_simp
  go_at_call 14
  refine (drun_any D _ s _ (DD.out.move Gwc2.out) (by omega)).mono ?_
  rintro e wd2 ⟨rfl, Fwd2⟩
  skip
  have Gwd2 := Lib.hid ((Gwc2.out).tr Fwd2)
  clear Fwd2
  refine hK.out _ _ (HSX.out _ Gwd2.out) (fun hHeld => ?_)
  clear hK K
  try simp only [Act.put, List.setIfInBounds_toArray, List.set_cons_zero, List.set_cons_succ]
  refine wpAnyH_take (i := 30) (v := ?_) lot30 (by kernel_rfl) (by kernel_rfl) (by kernel_rfl) (fun _ _ _ h => h) (Or.inl ⟨by rfl, ?_⟩) (by assumption) ?_
  rotate_left
  · (intro wv hSw; (try dsimp only at hSw); obtain ⟨s1, s2, s3, s4, s5, s6, s7⟩ := hSw; go_simp) <;> with_reducible rfl
  try simp only [Act.put, List.setIfInBounds_toArray, List.set_cons_zero, List.set_cons_succ]
  refine wpAnyH_take (i := 31) (v := ?_) lot31 (by kernel_rfl) (by kernel_rfl) (by kernel_rfl) (fun _ _ _ h => h) (Or.inl ⟨by rfl, ?_⟩) (by assumption) ?_
  rotate_left
  · (intro wv hSw; (try dsimp only at hSw); obtain ⟨s1, s2, s3, s4, s5, s6, s7⟩ := hSw; go_simp) <;> with_reducible rfl
  try simp only [Act.put, List.setIfInBounds_toArray, List.set_cons_zero, List.set_cons_succ]
  refine wpAnyH_take (i := 32) (v := ?_) lot32 (by kernel_rfl) (by kernel_rfl) (by kernel_rfl) (fun _ _ _ h => h) (Or.inl ⟨by rfl, ?_⟩) (by assumption) ?_
  rotate_left
  · (intro wv hSw; (try dsimp only at hSw); obtain ⟨s1, s2, s3, s4, s5, s6, s7⟩ := hSw; go_simp) <;> with_reducible rfl
  try simp only [Act.put, List.setIfInBounds_toArray, List.set_cons_zero, List.set_cons_succ]
  refine wpAnyH_take (i := 33) (v := ?_) lot33 (by kernel_rfl) (by kernel_rfl) (by kernel_rfl) (fun _ _ _ h => h) (Or.inl ⟨by rfl, ?_⟩) (by assumption) ?_
  rotate_left
  · (intro wv hSw; (try dsimp only at hSw); obtain ⟨s1, s2, s3, s4, s5, s6, s7⟩ := hSw; go_simp) <;> with_reducible rfl
  try simp only [Act.put, List.setIfInBounds_toArray, List.set_cons_zero, List.set_cons_succ]
  refine wpAnyH_take (i := 34) lot34 (by kernel_rfl) (by kernel_rfl) (by kernel_rfl) (fun _ _ _ h => h) (yieldsIf_load_mid (by rfl) _ _ rfl _ _ rfl Q _ (fun _ h => h.2.2.2.1) Tryd.underlying25 rfl (by rw [hq]; exact arr_info)) (by assumption) ?_
  try simp only [Act.put, List.setIfInBounds_toArray, List.set_cons_zero, List.set_cons_succ]
  refine wpAnyH_take (i := 35) (v := ?_) lot35 (by kernel_rfl) (by kernel_rfl) (by kernel_rfl) (fun _ _ _ h => h) (Or.inl ⟨by rfl, ?_⟩) (by assumption) ?_
  rotate_left
  · (intro wv hSw; (try dsimp only at hSw); obtain ⟨s1, s2, s3, s4, s5, s6, s7⟩ := hSw; go_simp) <;> with_reducible rfl
  try simp only [Act.put, List.setIfInBounds_toArray, List.set_cons_zero, List.set_cons_succ]
  refine wpAnyH_take (i := 36) lot36 (by kernel_rfl) (by kernel_rfl) (by kernel_rfl) (fun _ _ _ h => h) (yieldsIf_load_mid (by rfl) _ _ rfl _ _ rfl Q _ (fun _ h => h.2.2.2.2.1) Tryd.underlying25 rfl (by rw [hq]; exact arr_info)) (by assumption) ?_
  try simp only [Act.put, List.setIfInBounds_toArray, List.set_cons_zero, List.set_cons_succ]
  refine wpAnyH_take (i := 37) (v := ?_) lot37 (by kernel_rfl) (by kernel_rfl) (by kernel_rfl) (fun _ _ _ h => h) (Or.inl ⟨by rfl, ?_⟩) (by assumption) ?_
  rotate_left
  · (intro wv hSw; (try dsimp only at hSw); obtain ⟨s1, s2, s3, s4, s5, s6, s7⟩ := hSw; go_simp) <;> with_reducible rfl
  try simp only [Act.put, List.setIfInBounds_toArray, List.set_cons_zero, List.set_cons_succ]
  refine wpAnyH_take (i := 38) (v := ?_) lot38 (by kernel_rfl) (by kernel_rfl) (by kernel_rfl) (fun _ _ _ h => h) (Or.inl ⟨by rfl, ?_⟩) (by assumption) ?_
  rotate_left
  · (intro wv hSw; (try dsimp only at hSw); obtain ⟨s1, s2, s3, s4, s5, s6, s7⟩ := hSw; go_simp) <;> with_reducible rfl
  try simp only [Act.put, List.setIfInBounds_toArray, List.set_cons_zero, List.set_cons_succ]
  refine wpAnyH_take (i := 39) (v := ?_) lot39 (by kernel_rfl) (by kernel_rfl) (by kernel_rfl) (fun _ _ _ h => h) (Or.inl ⟨by rfl, ?_⟩) (by assumption) ?_
  rotate_left
  · (intro wv hSw; (try dsimp only at hSw); obtain ⟨s1, s2, s3, s4, s5, s6, s7⟩ := hSw; go_simp) <;> with_reducible rfl
  try simp only [Act.put, List.setIfInBounds_toArray, List.set_cons_zero, List.set_cons_succ]
  refine wpAnyH_done (by kernel_rfl) ?_ _
  go_wp2_with fail
  go_ret
  exact ⟨rfl, FE.out.tr Gwd2.out⟩
end Go.Proofs.YtglflmkkecephaaDoor
