/-
  mini.Same: whether two automata are alike.
  mini.Same, mini.Live.
  An automaton of regexes may be.
  mini.Live: the walk.
  mini.Of: the walk.
-/
import Derived.Test.YtnenbihmokolpaaGreatDoorMj
import Derived.Stop.BytesEq
import Derived.Test.YtnenbihmokolpaaGreatDoorKs
namespace Go.Proofs.YtnenbihmokolpaaGreatDoor set_option linter.unusedVariables false set_option linter.unusedSimpArgs false
open Go.RowKit

theorem all_eq_ints : ∀ (xs ys : List Int), xs.length = ys.length → ((List.range xs.length).all fun i => xs.getD i 0 == ys.getD i 0) = decide (xs = ys) := by
  intro xs ys h
  rw [Bool.eq_iff_iff, List.all_eq_true, decide_eq_true_eq]
  constructor
  · intro h1
    refine List.ext_getElem h fun i h2 h3 => ?_
    have := h1 i (by simpa using h2)
    simp only [List.getD, List.getElem?_eq_getElem h2, List.getElem?_eq_getElem h3, Option.getD_some, beq_iff_eq] at this
    exact this
  · rintro rfl i _
    exact beq_self_eq_true _
theorem eql_ints (xs ys : List Int) (hx : xs.length = 256) (hy : ys.length = 256) (w : World) :
    (binOp .eql 22 (.agg (intsV xs).toArray) (.agg (intsV ys).toArray)).run Tryz.prog w = .ok (.bool (decide (xs = ys))) w := by
  have key : ∀ w, (Op.equalIn (9998 + 2) 22 (.agg (intsV xs).toArray) (.agg (intsV ys).toArray)).run Tryz.prog w = .ok (decide (xs = ys)) w := by
    intro w
    obtain ⟨i0, hi⟩ : ∃ i, Tryz.prog.info? 3 = some i := by
      have h := int_info
      cases hq : Tryz.prog.info? 3 with
      | none => rw [hq] at h; simp at h
      | some i => exact ⟨i, rfl⟩
    rw [run_equalIn_array w 9999 _ _ Tryz.underlying22 hi, ← all_eq_ints xs ys (hx.trans hy.symm), hx, int_cells]
    have hl : ∀ i ∈ List.range 256, i < 256 := fun i hi => by simpa using hi
    generalize List.range 256 = l at hl ⊢
    induction l with
    | nil => simp [Op.eqItems]
    | cons i l ih =>
      have hi' : i < 256 := hl i (by simp)
      have px : (part 3 (intsV xs).toArray (i * 1)).run Tryz.prog w = .ok (.int .i64 (xs.getD i 0)) w := by
        simp [part, isAgg, run_underlying Tryz.underlying3, intsV, List.getD, List.getElem?_eq_getElem (show i < xs.length by omega)]
      have py : (part 3 (intsV ys).toArray (i * 1)).run Tryz.prog w = .ok (.int .i64 (ys.getD i 0)) w := by
        simp [part, isAgg, run_underlying Tryz.underlying3, intsV, List.getD, List.getElem?_eq_getElem (show i < ys.length by omega)]
      have pe : (Op.equalIn 9999 3 (.int .i64 (xs.getD i 0)) (.int .i64 (ys.getD i 0))).run Tryz.prog w = .ok (xs.getD i 0 == ys.getD i 0) w := by
        rw [run_equalIn_int w 9998 3 .i64 .i64 _ _ Tryz.underlying3]
      simp only [Op.eqItems, Sem.run_bind, px, py, pe, Result.andThen_ok, List.all_cons]
      cases hb : (xs.getD i 0 == ys.getD i 0)
      · simp
      · simp only [Bool.not_true, Bool.false_eq_true, if_false, Bool.true_and]
        exact ih fun j hj => hl j (by simp [hj])
  rw [run_eql_struct, key w]
  rfl
theorem take_eq_succ {α : Type} {l m : List α} {i : Nat} {x y : α} (h1 : l[i]? = some x) (h2 : m[i]? = some y) (h : l.take i = m.take i) (hxy : x = y) : l.take (i + 1) = m.take (i + 1) := by
  rw [List.take_add_one, List.take_add_one, h1, h2, h, hxy]
theorem ne_at {α : Type} {l m : List α} {i : Nat} {x y : α} (h1 : l[i]? = some x) (h2 : m[i]? = some y) (h : x ≠ y) : l ≠ m := by
  rintro rfl
  rw [h1] at h2
  exact h (Option.some.inj h2)

set_option maxRecDepth 100000 in
set_option maxHeartbeats 2000000 in
theorem sets_eq (l m : List Nat) (la ma : Option Addr) (lc mc : Nat) (w : World) (hl : ∀ (j : Nat) (z : Nat), l[j]? = some z → ∃ ad, la = some ad ∧ w.cell? (ad.add j) = some (.int .u64 (z : Int))) (hm : ∀ (j : Nat) (z : Nat), m[j]? = some z → ∃ ad, ma = some ad ∧ w.cell? (ad.add j) = some (.int .u64 (z : Int))) (h1 : l.length ≤ 9223372036854775807) (h2 : m.length ≤ 9223372036854775807) :
    Calls Tryz.prog 41 #[.slice la l.length lc, .slice ma m.length mc] w fun e w' => e = .returned (.bool (decide (l = m))) ∧ Fr none_ w w' := by
  have HL := Lib.hid hl
  have HM := Lib.hid hm
  clear hl hm
  obtain ⟨K, hK⟩ : ∃ K, l.length = K := ⟨_, rfl⟩
  obtain ⟨N, hN⟩ : ∃ N, m.length = N := ⟨_, rfl⟩
  have HK := Lib.hid hK
  have HN := Lib.hid hN
  rw [hK] at h1 ⊢
  rw [hN] at h2 ⊢
  clear hK hN
  by_cases hne : K = N
  case neg =>
    have hne' : ((K : Int) != (N : Int)) = true := by simp; omega
    have HD := Lib.hid (show decide (l = m) = false by
      rw [decide_eq_false_iff_not]
      rintro rfl
      exact hne (HK.out.symm.trans HN.out))
    go_enter Tryz.func41, Tryz.ntmps41
    go_wp2_with fail
    go_ret
    exact ⟨by rw [HD.out]; rfl, Fr.refl _ _⟩
  case pos =>
    subst hne
    go_enter Tryz.func41, Tryz.ntmps41
    go_wp2_with fail
    go_loopw [13] (fun x13 wr => ∃ i : Nat, i ≤ K ∧ x13 = .int .i64 i ∧ Aside (l.take i = m.take i) ∧ Aside (Fr none_ w wr)) (fun x13 _ => K - (intOf x13).toNat)
    case atStart => exact ⟨0, Nat.zero_le _, rfl, rfl, Fr.refl _ _⟩
    case round =>
      obtain ⟨i, hi', rfl, hF, hW⟩ := hrel
      have HF := Lib.hid hF.out
      have HW := Lib.hid hW.out
      clear hF hW
      have hi0 : (0 : Int) ≤ (i : Int) := by omega
      by_cases hlt : i < K
      case pos =>
        have hil : (i : Int) < (K : Int) := by omega
        obtain ⟨x, hx⟩ : ∃ x, l[i]? = some x := ⟨_, List.getElem?_eq_getElem (by rw [HK.out]; exact hlt)⟩
        obtain ⟨y, hy⟩ : ∃ y, m[i]? = some y := ⟨_, List.getElem?_eq_getElem (by rw [HN.out]; exact hlt)⟩
        obtain ⟨xd, rfl, hcx⟩ := HL.out i x hx
        obtain ⟨yd, rfl, hcy⟩ := HM.out i y hy
        have f1 := cell_move HW.out hcx
        have f2 := cell_move HW.out hcy
        have HX := Lib.hid hx
        have HY := Lib.hid hy
        clear hx hy hcx hcy
        by_cases hxy : x = y
        case pos =>
          subst hxy
          go_wp2_with fail
          go_quiet (fail)
          go_wp2_with fail
          go_roundw
          case rel => exact ⟨i + 1, by omega, by go_num, by show l.take (i + 1) = m.take (i + 1); exact take_eq_succ HX.out HY.out HF.out rfl, HW.out.drewN _⟩
          case measure => simp [intOf]; omega
        case neg =>
          have hxy' : ((x : Int) != (y : Int)) = true := by simp; omega
          have HD := Lib.hid (show decide (l = m) = false by rw [decide_eq_false_iff_not]; exact ne_at HX.out HY.out hxy)
          go_wp2_with fail
          go_quiet (fail)
          go_wp2_with fail
          go_ret
          exact ⟨by rw [HD.out]; rfl, HW.out.drewN _⟩
      case neg =>
        obtain rfl : i = K := by omega
        have HD := Lib.hid (show decide (l = m) = true by
          rw [decide_eq_true_eq, ← List.take_length (l := l), ← List.take_length (l := m), HK.out, HN.out]
          exact HF.out)
        go_wp2_with fail
        go_ret
        exact ⟨by rw [HD.out]; rfl, HW.out⟩

set_option maxRecDepth 100000 in
set_option maxHeartbeats 2000000 in
theorem ints_eq (l m : List Int) (la ma : Option Addr) (lc mc : Nat) (w : World) (hl : ∀ (j : Nat) (z : Int), l[j]? = some z → ∃ ad, la = some ad ∧ w.cell? (ad.add j) = some (.int .i64 z)) (hm : ∀ (j : Nat) (z : Int), m[j]? = some z → ∃ ad, ma = some ad ∧ w.cell? (ad.add j) = some (.int .i64 z)) (h1 : l.length ≤ 9223372036854775807) (h2 : m.length ≤ 9223372036854775807) :
    Calls Tryz.prog 43 #[.slice la l.length lc, .slice ma m.length mc] w fun e w' => e = .returned (.bool (decide (l = m))) ∧ Fr none_ w w' := by
  have HL := Lib.hid hl
  have HM := Lib.hid hm
  clear hl hm
  obtain ⟨K, hK⟩ : ∃ K, l.length = K := ⟨_, rfl⟩
  obtain ⟨N, hN⟩ : ∃ N, m.length = N := ⟨_, rfl⟩
  have HK := Lib.hid hK
  have HN := Lib.hid hN
  rw [hK] at h1 ⊢
  rw [hN] at h2 ⊢
  clear hK hN
  by_cases hne : K = N
  case neg =>
    have hne' : ((K : Int) != (N : Int)) = true := by simp; omega
    have HD := Lib.hid (show decide (l = m) = false by
      rw [decide_eq_false_iff_not]
      rintro rfl
      exact hne (HK.out.symm.trans HN.out))
    go_enter Tryz.func43, Tryz.ntmps43
    go_wp2_with fail
    go_ret
    exact ⟨by rw [HD.out]; rfl, Fr.refl _ _⟩
  case pos =>
    subst hne
    go_enter Tryz.func43, Tryz.ntmps43
    go_wp2_with fail
    go_loopw [13] (fun x13 wr => ∃ i : Nat, i ≤ K ∧ x13 = .int .i64 i ∧ Aside (l.take i = m.take i) ∧ Aside (Fr none_ w wr)) (fun x13 _ => K - (intOf x13).toNat)
    case atStart => exact ⟨0, Nat.zero_le _, rfl, rfl, Fr.refl _ _⟩
    case round =>
      obtain ⟨i, hi', rfl, hF, hW⟩ := hrel
      have HF := Lib.hid hF.out
      have HW := Lib.hid hW.out
      clear hF hW
      have hi0 : (0 : Int) ≤ (i : Int) := by omega
      by_cases hlt : i < K
      case pos =>
        have hil : (i : Int) < (K : Int) := by omega
        obtain ⟨x, hx⟩ : ∃ x, l[i]? = some x := ⟨_, List.getElem?_eq_getElem (by rw [HK.out]; exact hlt)⟩
        obtain ⟨y, hy⟩ : ∃ y, m[i]? = some y := ⟨_, List.getElem?_eq_getElem (by rw [HN.out]; exact hlt)⟩
        obtain ⟨xd, rfl, hcx⟩ := HL.out i x hx
        obtain ⟨yd, rfl, hcy⟩ := HM.out i y hy
        have f1 := cell_move HW.out hcx
        have f2 := cell_move HW.out hcy
        have HX := Lib.hid hx
        have HY := Lib.hid hy
        clear hx hy hcx hcy
        by_cases hxy : x = y
        case pos =>
          subst hxy
          go_wp2_with fail
          go_quiet (fail)
          go_wp2_with fail
          go_roundw
          case rel => exact ⟨i + 1, by omega, by go_num, by show l.take (i + 1) = m.take (i + 1); exact take_eq_succ HX.out HY.out HF.out rfl, HW.out.drewN _⟩
          case measure => simp [intOf]; omega
        case neg =>
          have hxy' : (x != y) = true := by simp; omega
          have HD := Lib.hid (show decide (l = m) = false by rw [decide_eq_false_iff_not]; exact ne_at HX.out HY.out hxy)
          go_wp2_with fail
          go_quiet (fail)
          go_wp2_with fail
          go_ret
          exact ⟨by rw [HD.out]; rfl, HW.out.drewN _⟩
      case neg =>
        obtain rfl : i = K := by omega
        have HD := Lib.hid (show decide (l = m) = true by
          rw [decide_eq_true_eq, ← List.take_length (l := l), ← List.take_length (l := m), HK.out, HN.out]
          exact HF.out)
        go_wp2_with fail
        go_ret
        exact ⟨by rw [HD.out]; rfl, HW.out⟩
end Go.Proofs.YtnenbihmokolpaaGreatDoor

namespace Go.Proofs.YtnenbihmokolpaaGreatDoor set_option linter.unusedVariables false set_option linter.unusedSimpArgs false
open Go.RowKit

set_option maxRecDepth 100000 in
set_option maxHeartbeats 2000000 in
theorem rows_eq (l m : List (List Int)) (la ma : Option Addr) (lc mc : Nat) (w : World) (hl : ∀ j r, l[j]? = some r → ∃ ad rv, la = some ad ∧ w.cell? (ad.add j) = some rv ∧ NumsIn w rv r) (hm : ∀ j r, m[j]? = some r → ∃ ad rv, ma = some ad ∧ w.cell? (ad.add j) = some rv ∧ NumsIn w rv r)
    (h1 : l.length ≤ 9223372036854775807) (h2 : m.length ≤ 9223372036854775807) (h3 : ∀ r ∈ l, r.length ≤ 9223372036854775807) (h4 : ∀ r ∈ m, r.length ≤ 9223372036854775807) :
    Calls Tryz.prog 42 #[.slice la l.length lc, .slice ma m.length mc, .func (.func 43) #[] #[]] w fun e w' => e = .returned (.bool (decide (l = m))) ∧ Fr none_ w w' := by
  have HL := Lib.hid hl
  have HM := Lib.hid hm
  have H3 := Lib.hid h3
  have H4 := Lib.hid h4
  clear hl hm h3 h4
  obtain ⟨K, hK⟩ : ∃ K, l.length = K := ⟨_, rfl⟩
  obtain ⟨N, hN⟩ : ∃ N, m.length = N := ⟨_, rfl⟩
  have HK := Lib.hid hK
  have HN := Lib.hid hN
  rw [hK] at h1 ⊢
  rw [hN] at h2 ⊢
  clear hK hN
  by_cases hne : K = N
  case neg =>
    have hne' : ((K : Int) != (N : Int)) = true := by simp; omega
    have HD := Lib.hid (show decide (l = m) = false by
      rw [decide_eq_false_iff_not]
      rintro rfl
      exact hne (HK.out.symm.trans HN.out))
    go_enter Tryz.func42, Tryz.ntmps42
    go_wp2_with fail
    go_ret
    exact ⟨by rw [HD.out]; rfl, Fr.refl _ _⟩
  case pos =>
    subst hne
    go_enter Tryz.func42, Tryz.ntmps42
    go_wp2_with fail
    go_loopw [17] (fun x17 wr => ∃ i : Nat, i ≤ K ∧ x17 = .int .i64 i ∧ Aside (l.take i = m.take i) ∧ Aside (Fr none_ w wr)) (fun x17 _ => K - (intOf x17).toNat)
    case atStart => exact ⟨0, Nat.zero_le _, rfl, rfl, Fr.refl _ _⟩
    case round =>
      obtain ⟨i, hi', rfl, hF, hW⟩ := hrel
      have HF := Lib.hid hF.out
      have HW := Lib.hid hW.out
      clear hF hW
      have hi0 : (0 : Int) ≤ (i : Int) := by omega
      by_cases hlt : i < K
      case pos =>
        have hil : (i : Int) < (K : Int) := by omega
        obtain ⟨x, hx⟩ : ∃ x, l[i]? = some x := ⟨_, List.getElem?_eq_getElem (by rw [HK.out]; exact hlt)⟩
        obtain ⟨y, hy⟩ : ∃ y, m[i]? = some y := ⟨_, List.getElem?_eq_getElem (by rw [HN.out]; exact hlt)⟩
        obtain ⟨xd, xv, rfl, hcx, xa, xc, rfl, hnx⟩ := HL.out i x hx
        obtain ⟨yd, yv, rfl, hcy, ya, yc, rfl, hny⟩ := HM.out i y hy
        have f1 := cell_move HW.out hcx
        have f2 := cell_move HW.out hcy
        have HX := Lib.hid hx
        have HY := Lib.hid hy
        have HNX := Lib.hid hnx
        have HNY := Lib.hid hny
        clear hx hy hcx hcy hnx hny
        go_wp2_with fail
        refine (ints_eq x y xa ya xc yc wr (fun j z hj => (HNX.out j z hj).elim fun ad q => ⟨ad, q.1, cell_move HW.out q.2⟩) (fun j z hj => (HNY.out j z hj).elim fun ad q => ⟨ad, q.1, cell_move HW.out q.2⟩) (H3.out x (List.mem_of_getElem? HX.out)) (H4.out y (List.mem_of_getElem? HY.out))).mono ?_
        rintro e w1 ⟨rfl, F1⟩
        have HF1 := Lib.hid (HW.out.tr F1)
        clear F1 f1 f2
        by_cases hxy : x = y
        case pos =>
          rw [decide_eq_true hxy]
          go_wp2_with fail
          go_roundw
          case rel => exact ⟨i + 1, by omega, by go_num, by show l.take (i + 1) = m.take (i + 1); exact take_eq_succ HX.out HY.out HF.out hxy, HF1.out⟩
          case measure => simp [intOf]; omega
        case neg =>
          rw [decide_eq_false hxy]
          have HD := Lib.hid (show decide (l = m) = false by rw [decide_eq_false_iff_not]; exact ne_at HX.out HY.out hxy)
          go_wp2_with fail
          go_ret
          exact ⟨by rw [HD.out]; rfl, HF1.out⟩
      case neg =>
        obtain rfl : i = K := by omega
        have HD := Lib.hid (show decide (l = m) = true by
          rw [decide_eq_true_eq, ← List.take_length (l := l), ← List.take_length (l := m), HK.out, HN.out]
          exact HF.out)
        go_wp2_with fail
        go_ret
        exact ⟨by rw [HD.out]; rfl, HW.out⟩

/-- An automaton in memory, all its parts told. -/
theorem DfaIn.whole {w : World} {v : Value} {D : Dfa} (h : DfaIn w v D) : ∃ (C : List Value) (na ta : Option Addr) (ncap tcap : Nat), v = .agg C.toArray ∧ C.length = 258 ∧ C = intsV D.cls ++ [.slice na D.next.length ncap, .slice ta D.tags.length tcap] ∧
    C[256]? = some (.slice na D.next.length ncap) ∧ C[257]? = some (.slice ta D.tags.length tcap) ∧
    (∀ j r, D.next[j]? = some r → ∃ ad rv, na = some ad ∧ w.cell? (ad.add j) = some rv ∧ NumsIn w rv r) ∧ ∀ (j : Nat) (z : Nat), D.tags[j]? = some z → ∃ ad, ta = some ad ∧ w.cell? (ad.add j) = some (.int .u64 (z : Int)) := by
  obtain ⟨nv, tv, rfl, hn, ht⟩ := h.ex
  obtain ⟨na, ncap, rfl, h1⟩ := hn
  obtain ⟨ta, tcap, rfl, h2⟩ := ht
  obtain ⟨e1, e2⟩ := dfaC_at h.len (.slice na D.next.length ncap) (.slice ta D.tags.length tcap)
  exact ⟨_, na, ta, ncap, tcap, rfl, dfaC_length _ _ _ h.len, rfl, e1, e2, h1, h2⟩
def sameM (A B : Dfa) : Bool := decide (A.cls = B.cls) && decide (A.tags = B.tags) && decide (A.next = B.next)

set_option maxRecDepth 100000 in
set_option maxHeartbeats 4000000 in
theorem same_any (A B : Dfa) (v u : Value) (w : World) (hA : DfaIn w v A) (hB : DfaIn w u B) (t1 : A.tags.length ≤ 9223372036854775807) (t2 : B.tags.length ≤ 9223372036854775807) :
    Calls Tryz.prog 17 #[v, u] w fun e w' => e = .returned (.bool (sameM A B)) ∧ Fr none_ w w' := by
  obtain ⟨C, na, ta, nc, tc, rfl, hz, hCQ, h256, h257, hrow, htag⟩ := hA.whole
  obtain ⟨E, nb, tb, nd, td, rfl, hy, hEQ, g256, g257, grow, gtag⟩ := hB.whole
  have HC := Lib.hid hCQ
  have HE := Lib.hid hEQ
  have HRA := Lib.hid hrow
  have HTA := Lib.hid htag
  have HRB := Lib.hid grow
  have HTB := Lib.hid gtag
  have SA := Lib.hid hA.small
  have SB := Lib.hid hB.small
  have LA := Lib.hid hA.len
  have LB := Lib.hid hB.len
  have hqa : (intsV A.cls).length = 256 := by rw [intsV_length, hA.len]
  have hqb : (intsV B.cls).length = 256 := by rw [intsV_length, hB.len]
  have heq := eql_ints A.cls B.cls hA.len hB.len
  obtain ⟨WB, hWB⟩ : ∃ W, (w.alloc (.cells C.toArray 26)).alloc (.cells E.toArray 26) = W := ⟨_, rfl⟩
  have B0 := Lib.hid (show WB.heap[w.heap.size]? = some (.cells C.toArray 26 (0, 0)) by rw [← hWB]; exact ((Fr.refl none_ (w.alloc (.cells C.toArray 26))).alloc _).at_ (alloc_new w _) (fun h => h))
  have B1 := Lib.hid (show WB.heap[w.heap.size + 1]? = some (.cells E.toArray 26 (0, 0)) by
    have h1 := alloc_new (w.alloc (.cells C.toArray 26)) (.cells E.toArray 26)
    rw [show (w.alloc (.cells C.toArray 26)).heap.size = w.heap.size + 1 by simp, hWB] at h1
    exact h1)
  have FW := Lib.hid (show Fr none_ w WB by rw [← hWB]; exact ((Fr.refl none_ w).alloc _).alloc _)
  have R0 := Lib.hid (show WB.rangeAt w.heap.size 0 (intsV A.cls) from range_pre (D := [.slice na A.next.length nc, .slice ta A.tags.length tc]) (by rw [← HC.out]; exact range_of B0.out))
  have R1 := Lib.hid (show WB.rangeAt (w.heap.size + 1) 0 (intsV B.cls) from range_pre (D := [.slice nb B.next.length nd, .slice tb B.tags.length td]) (by rw [← HE.out]; exact range_of B1.out))
  have HT := Lib.hid (show ∀ wx, Fr none_ WB wx → wx.cell? ⟨w.heap.size, 256, none⟩ = some (.slice na A.next.length nc) ∧ wx.cell? ⟨w.heap.size, 257, none⟩ = some (.slice ta A.tags.length tc) ∧ wx.cell? ⟨w.heap.size + 1, 256, none⟩ = some (.slice nb B.next.length nd) ∧ wx.cell? ⟨w.heap.size + 1, 257, none⟩ = some (.slice tb B.tags.length td) from fun wx hf =>
    ⟨cell_of_block (hf.at_ B0.out (fun h => h)) (by simpa using h256), cell_of_block (hf.at_ B0.out (fun h => h)) (by simpa using h257), cell_of_block (hf.at_ B1.out (fun h => h)) (by simpa using g256), cell_of_block (hf.at_ B1.out (fun h => h)) (by simpa using g257)⟩)
  have hgd : Tryz.prog.eqGuardType Tryz.prog.depth 22 = false := by kernel_rfl
  obtain ⟨f1, f2, f3, f4⟩ := HT.out WB (Fr.refl _ _)
  obtain ⟨c, hc⟩ : ∃ c, decide (A.cls = B.cls) = c := ⟨_, rfl⟩
  rw [hc] at heq
  have HCC := Lib.hid hc
  obtain ⟨QA, hQA⟩ : ∃ Q, intsV A.cls = Q := ⟨_, rfl⟩
  obtain ⟨QB, hQB⟩ : ∃ Q, intsV B.cls = Q := ⟨_, rfl⟩
  rw [hQA] at hqa heq R0 HC
  rw [hQB] at hqb heq R1 HE
  clear hA hB hCQ hEQ h256 h257 g256 g257 hrow htag grow gtag hc hQA hQB
  have HS := Lib.hid (show sameM A B = (c && decide (A.tags = B.tags) && decide (A.next = B.next)) by rw [sameM, HCC.out])
  subst hWB
  cases c with
  | false =>
    go_enter Tryz.func17, Tryz.ntmps17
    go_wp2_with (first
      | (refine wpList_load_mid rfl 22 (.tmp 5) rfl w.heap.size 0 rfl QA _ R0.out Tryz.underlying22 rfl ?_ ?_; (rw [hqa]; exact arr_info))
      | (refine wpList_load_mid rfl 22 (.tmp 7) rfl (w.heap.size + 1) 0 rfl QB _ R1.out Tryz.underlying22 rfl ?_ ?_; (rw [hqb]; exact arr_info)))
    go_ret
    exact ⟨by rw [HS.out]; rfl, FW.out⟩
  | true =>
    go_enter Tryz.func17, Tryz.ntmps17
    go_wp2_with (first
      | (refine wpList_load_mid rfl 22 (.tmp 5) rfl w.heap.size 0 rfl QA _ R0.out Tryz.underlying22 rfl ?_ ?_; (rw [hqa]; exact arr_info))
      | (refine wpList_load_mid rfl 22 (.tmp 7) rfl (w.heap.size + 1) 0 rfl QB _ R1.out Tryz.underlying22 rfl ?_ ?_; (rw [hqb]; exact arr_info)))
    clear f1 f2 f3 f4 heq
    refine (sets_eq A.tags B.tags ta tb tc td _ (fun j z hj => (HTA.out j z hj).elim fun ad q => ⟨ad, q.1, cell_move FW.out q.2⟩) (fun j z hj => (HTB.out j z hj).elim fun ad q => ⟨ad, q.1, cell_move FW.out q.2⟩) t1 t2).mono ?_
    rintro e w1 ⟨rfl, F1⟩
    have HF1 := Lib.hid (FW.out.tr F1)
    obtain ⟨f1, f2, f3, f4⟩ := HT.out w1 F1
    clear F1
    obtain ⟨d, hd⟩ : ∃ d, decide (A.tags = B.tags) = d := ⟨_, rfl⟩
    have HDD := Lib.hid hd
    rw [hd]
    rw [hd] at HS
    clear hd
    cases d with
    | false =>
      go_wp2_with fail
      go_ret
      exact ⟨by rw [HS.out]; rfl, HF1.out⟩
    | true =>
      go_wp2_with fail
      refine (rows_eq A.next B.next na nb nc nd w1 (fun j r hj => (HRA.out j r hj).elim fun ad q => q.elim fun rv q => ⟨ad, rv, q.1, cell_move HF1.out q.2.1, q.2.2.move HF1.out⟩) (fun j r hj => (HRB.out j r hj).elim fun ad q => q.elim fun rv q => ⟨ad, rv, q.1, cell_move HF1.out q.2.1, q.2.2.move HF1.out⟩) SA.out.1 SB.out.1 SA.out.2 SB.out.2).mono ?_
      rintro e w2 ⟨rfl, F2⟩
      have HF2 := Lib.hid (HF1.out.tr F2)
      clear F2 f1 f2 f3 f4
      go_wp2_with fail
      go_ret
      exact ⟨by rw [HS.out]; rfl, HF2.out⟩
end Go.Proofs.YtnenbihmokolpaaGreatDoor

namespace Go.Proofs.YtnenbihmokolpaaGreatDoor set_option linter.unusedVariables false set_option linter.unusedSimpArgs false
open Go.RowKit

theorem valid_dv {D : Dfa} (h : validM D = true) : DV D D.next.length (D.next.getD 0 []).length := by
  simp only [validM, Bool.and_eq_true, decide_eq_true_eq, List.all_eq_true] at h
  obtain ⟨⟨⟨h1, h2⟩, h3⟩, h4⟩ := h
  refine ⟨rfl, h2, by omega, fun r hr => ?_, fun c hc => ?_⟩
  · have := h3 r hr
    simp only [rowOkM, Bool.and_eq_true, decide_eq_true_eq, List.all_eq_true] at this
    exact ⟨this.2, fun t ht => this.1 t ht⟩
  · have := h4 c hc
    simp only [clsOkM, Bool.and_eq_true, decide_eq_true_eq] at this
    exact this
theorem DV.valid {D : Dfa} {n k : Nat} (h : DV D n k) : validM D = true := by
  have h0 := (h.rowAt h.pos).1
  simp only [validM, Bool.and_eq_true, decide_eq_true_eq, List.all_eq_true]
  refine ⟨⟨⟨by rw [h.hn]; have := h.pos; omega, by rw [h.ht, h.hn]⟩, fun r hr => ?_⟩, fun c hc => ?_⟩
  · simp only [rowOkM, Bool.and_eq_true, decide_eq_true_eq, List.all_eq_true]
    have := h.row r hr
    rw [h.hn, h0]
    exact ⟨fun t ht => this.2 t ht, this.1⟩
  · simp only [clsOkM, Bool.and_eq_true, decide_eq_true_eq]
    rw [h0]
    exact h.cls c hc
theorem endD_le (G : List St) (bytes B : List Nat) : ∀ (f n m : Nat), endD G bytes B f n = some m → m ≤ n + f := by
  intro f
  induction f with
  | zero => intro n m h; simp [endD] at h
  | succ f ih =>
    intro n m h
    rw [endD_succ] at h
    split at h
    · split at h
      · cases h
      · have := ih _ _ h; omega
    · have : n = m := by simpa using h
      omega
theorem dfaOf_dv {G : List St} {cls B : List Nat} {D : Dfa} (hc : Normal cls) (hB : B = [] → ∀ c ∈ cls, c = 0) (h : dfaOf G cls B = some D) : ∃ n k, DV D n k ∧ n ≤ 2002 ∧ k ≤ 256 ∧ (∀ t ∈ D.tags, t < 18446744073709551616) ∧ D.cls = ints cls := by
  unfold dfaOf at h
  split at h
  · rename_i hb
    obtain rfl := Option.some.inj h
    refine ⟨1, 1, ⟨rfl, rfl, by omega, fun r hr => ?_, fun c hcc => ?_⟩, by omega, by omega, fun t ht => ?_, rfl⟩
    · obtain rfl : r = [-1] := by simpa using hr
      refine ⟨rfl, fun t ht => ?_⟩
      have e : t = -1 := by simpa using ht
      rw [e]; exact ⟨by decide, by decide⟩
    · simp only [ints, List.mem_map] at hcc
      obtain ⟨m, hm, rfl⟩ := hcc
      rw [hB hb m hm]; decide
    · obtain rfl : t = 0 := by simpa using ht
      omega
  · rename_i hb
    cases he : endD G (firstsM cls 256) B 2002 0 with
    | none => rw [he] at h; simp at h
    | some m =>
      rw [he] at h
      have hD := Option.some.inj h
      subst hD
      obtain ⟨hr, hm⟩ := endD_some hb 2002 0 m (rounds_zero G _ B hb) he
      have hle := endD_le G (firstsM cls 256) B 2002 0 m he
      obtain ⟨x, hx⟩ : ∃ x, roundD G (firstsM cls 256) B m = x := ⟨_, rfl⟩
      rw [hx] at hr hm
      show ∃ n k, DV (⟨ints cls, (roundD G (firstsM cls 256) B m).next, (roundD G (firstsM cls 256) B m).tags⟩ : Dfa) n k ∧ n ≤ 2002 ∧ k ≤ 256 ∧ (∀ t ∈ (roundD G (firstsM cls 256) B m).tags, t < 18446744073709551616) ∧ _
      rw [hx]
      have hpos : 0 < m := by
        obtain ⟨m2, hm2⟩ := rounds_begin G (firstsM cls 256) B m
        rw [hx] at hm2
        rw [hm2] at hm
        simp at hm; omega
      refine ⟨m, (firstsM cls 256).length, ⟨hr.hn, hr.ht, hpos, fun r hr1 => ?_, fun c hcc => ?_⟩, by omega, firsts_le cls 256, fun t ht => ?_, rfl⟩
      · obtain ⟨i, hi, rfl⟩ := List.getElem_of_mem hr1
        have hi' : i < m := by rw [← hr.hn]; exact hi
        have e : x.next.getD i [] = x.next[i] := by simp [List.getD, List.getElem?_eq_getElem hi]
        have h1 := hr.row i hi'
        rw [e] at h1
        refine ⟨h1, fun t ht => ?_⟩
        obtain ⟨c, hcl, rfl⟩ := List.getElem_of_mem ht
        obtain ⟨h2, h3⟩ := hr.to i c hi' (by rw [← h1]; exact hcl)
        rw [e] at h2
        have e2 : x.next[i].getD c 0 = x.next[i][c] := by simp [List.getD, List.getElem?_eq_getElem hcl]
        have e3 := e2.symm.trans h2
        refine (show ∀ z : Int, z = noIn x.sets (stepM G (ints (x.sets.getD i [])) ((firstsM cls 256).getD c 0)) → -1 ≤ z ∧ z < (m : Int) from ?_) _ e3
        intro z hz
        unfold noIn at hz
        split at hz
        · omega
        · rename_i hne
          rcases h3 with h3 | h3
          · exact absurd h3 hne
          · have := idxM_lt h3; omega
      · simp only [ints, List.mem_map] at hcc
        obtain ⟨q, hq, rfl⟩ := hcc
        obtain ⟨b, hb1, rfl⟩ := List.getElem_of_mem hq
        have := normal_lt hc (b := b) (by rw [← hc.1]; exact hb1)
        have e : cls.getD b 0 = cls[b] := by simp [List.getD, List.getElem?_eq_getElem hb1]
        rw [e] at this
        omega
      · obtain ⟨i, hi, rfl⟩ := List.getElem_of_mem ht
        have h1 := hr.tag i (by rw [← hr.ht]; exact hi)
        have e : x.tags.getD i 0 = x.tags[i] := by simp [List.getD, List.getElem?_eq_getElem hi]
        rw [e] at h1
        show x.tags[i] < _
        rw [h1]
        exact tagsM_lt _ _
theorem built_closed_ne {rs : List Rx} (h : closedM (buildM rs 0 [] []).1 (ints (buildM rs 0 [] []).2) = []) : rs = [] := by
  cases rs with
  | nil => rfl
  | cons r rs =>
    obtain ⟨st, en, fin, hst, ⟨s, hs, _⟩, _⟩ := (built (r :: rs)).each 0 r rfl
    have hlt := (List.getElem?_eq_some_iff.1 hs).1
    have : st ∈ closedM (buildM (r :: rs) 0 [] []).1 (ints (buildM (r :: rs) 0 [] []).2) :=
      (mem_closed _ _ _).2 (.base st (mem_ints.2 (List.mem_of_getElem? hst)) hlt)
    rw [h] at this
    simp at this
theorem classes_nil : ∀ c ∈ classesM [], c = 0 := by
  intro c hc
  exact (List.mem_replicate.1 hc).2
theorem dfaX_dv {rs : List Rx} {D : Dfa} (h : dfaX rs = some D) : ∃ n k, DV D n k ∧ n ≤ 2002 ∧ k ≤ 256 ∧ (∀ t ∈ D.tags, t < 18446744073709551616) ∧ D.cls = ints (classesM rs) := by
  unfold dfaX at h
  split at h
  · cases h
  · refine dfaOf_dv (normal_classes rs) (fun hB => ?_) h
    obtain rfl := built_closed_ne hB
    exact classes_nil
end Go.Proofs.YtnenbihmokolpaaGreatDoor

namespace Go.Proofs.YtnenbihmokolpaaGreatDoor set_option linter.unusedVariables false set_option linter.unusedSimpArgs false
open Go.RowKit

def liveM (D : Dfa) (at_ : Int) : Bool := validM D && decide (0 ≤ at_) && decide (at_ < (D.next.length : Int)) && (livesM D).getD at_.toNat false
theorem livesM_length {D : Dfa} {n k : Nat} (hv : DV D n k) : (livesM D).length = n := (lives_spec hv).1

set_option maxRecDepth 100000 in
set_option maxHeartbeats 4000000 in
theorem live_any (D : Dfa) (v : Value) (at_ : Int) (w : World) (h : DfaIn w v D) (hat : intDom at_) (hn : D.next.length ≤ 1000000) (hk : (D.next.getD 0 []).length ≤ 1000000) :
    Calls Tryz.prog 28 #[v, .int .i64 at_] w fun e w' => e = .returned (.bool (liveM D at_)) ∧ Fr none_ w w' := by
  obtain ⟨C, na, ta, ncap, tcap, rfl, hz, h256, h257, hrow, htag⟩ := h.all
  have HD := Lib.hid h
  have B0 := Lib.hid (alloc_new w (.cells C.toArray 26))
  have F0 := Lib.hid ((Fr.refl none_ w).alloc (.cells C.toArray 26))
  have H256 := Lib.hid h256
  clear h hrow htag h256 h257
  cases hv : validM D with
  | false =>
    have HVF := Lib.hid hv
    have HR := Lib.hid (show liveM D at_ = false by unfold liveM; rw [hv]; rfl)
    clear hv
    go_enter Tryz.func28, Tryz.ntmps28
    go_wp2_with (refine wpList_load_row rfl 26 _ rfl w.heap.size 26 C _ rfl B0.out Tryz.underlying26 rfl (by rw [hz]; exact dfa_info) ?_)
    refine (valid_any D _ _ (HD.out.move F0.out)).mono ?_
    rintro e w1 ⟨rfl, F1⟩
    rw [HVF.out]
    have FF := Lib.hid (F0.out.tr F1)
    clear F1
    go_wp2_with fail
    go_ret
    exact ⟨by rw [HR.out]; rfl, FF.out⟩
  | true =>
    have HVT := Lib.hid hv
    have HV := Lib.hid (valid_dv hv)
    by_cases h1 : 0 ≤ at_
    · have c1 : decide (0 ≤ at_) = true := decide_eq_true h1
      by_cases h2 : at_ < (D.next.length : Int)
      · have c2 : decide (at_ < (D.next.length : Int)) = true := decide_eq_true h2
        have hll := livesM_length HV.out
        have HR := Lib.hid (show liveM D at_ = (livesM D).getD at_.toNat false by unfold liveM; rw [hv, c1, c2]; rfl)
        clear hv
        obtain ⟨i, rfl⟩ : ∃ i : Nat, at_ = i := ⟨at_.toNat, by omega⟩
        have hi : i < D.next.length := by omega
        go_enter Tryz.func28, Tryz.ntmps28
        go_wp2_with (refine wpList_load_row rfl 26 _ rfl w.heap.size 26 C _ rfl B0.out Tryz.underlying26 rfl (by rw [hz]; exact dfa_info) ?_)
        refine (valid_any D _ _ (HD.out.move F0.out)).mono ?_
        rintro e w1 ⟨rfl, F1⟩
        rw [HVT.out]
        have B1 := Lib.hid (F1.at_ B0.out (fun h => h))
        have FF := Lib.hid (F0.out.tr F1)
        have f1 : w1.cell? ⟨w.heap.size, 256, none⟩ = some (.slice na D.next.length ncap) := cell_of_block B1.out (by simpa using H256.out)
        clear F1
        go_wp2_with fail
        refine wp_load_mid 26 _ rfl w.heap.size 0 rfl C _ (range_of B1.out) Tryz.underlying26 rfl (by rw [hz]; exact dfa_info) ?_
        go_wp2_with fail
        refine (lives_any D _ _ _ _ (HD.out.move FF.out) HV.out hn hk).mono ?_
        rintro e w2 ⟨g, rfl, hg, hgl, F2⟩
        obtain ⟨b, hb⟩ : ∃ b, (livesM D).getD i false = b := ⟨_, rfl⟩
        have f2 : w2.cell? ⟨g, i, none⟩ = some (.bool b) := cell_of_block hg (by rw [← hb]; simp [boolsV, List.getElem?_map, List.getD, List.getElem?_eq_getElem (show i < (livesM D).length by omega)])
        have HB := Lib.hid hb
        clear hb
        have FG := Lib.hid (FF.out.tr F2)
        clear F2 hg
        go_wp2_with fail
        go_ret
        exact ⟨by rw [HR.out, show ((i : Int)).toNat = i from rfl, HB.out]; rfl, FG.out⟩
      · have c2 : decide (at_ < (D.next.length : Int)) = false := decide_eq_false h2
        have HR := Lib.hid (show liveM D at_ = false by unfold liveM; rw [c2]; simp)
        clear hv
        go_enter Tryz.func28, Tryz.ntmps28
        go_wp2_with (refine wpList_load_row rfl 26 _ rfl w.heap.size 26 C _ rfl B0.out Tryz.underlying26 rfl (by rw [hz]; exact dfa_info) ?_)
        refine (valid_any D _ _ (HD.out.move F0.out)).mono ?_
        rintro e w1 ⟨rfl, F1⟩
        rw [HVT.out]
        have B1 := Lib.hid (F1.at_ B0.out (fun h => h))
        have FF := Lib.hid (F0.out.tr F1)
        have f1 : w1.cell? ⟨w.heap.size, 256, none⟩ = some (.slice na D.next.length ncap) := cell_of_block B1.out (by simpa using H256.out)
        clear F1
        go_wp2_with fail
        go_ret
        exact ⟨by rw [HR.out]; rfl, FF.out⟩
    · have c1 : decide (0 ≤ at_) = false := decide_eq_false h1
      have HR := Lib.hid (show liveM D at_ = false by unfold liveM; rw [c1]; simp)
      clear hv
      go_enter Tryz.func28, Tryz.ntmps28
      go_wp2_with (refine wpList_load_row rfl 26 _ rfl w.heap.size 26 C _ rfl B0.out Tryz.underlying26 rfl (by rw [hz]; exact dfa_info) ?_)
      refine (valid_any D _ _ (HD.out.move F0.out)).mono ?_
      rintro e w1 ⟨rfl, F1⟩
      rw [HVT.out]
      have FF := Lib.hid (F0.out.tr F1)
      clear F1
      go_wp2_with fail
      go_ret
      exact ⟨by rw [HR.out]; rfl, FF.out⟩
end Go.Proofs.YtnenbihmokolpaaGreatDoor

namespace Go.Proofs.YtnenbihmokolpaaGreatDoor set_option linter.unusedVariables false set_option linter.unusedSimpArgs false
open Go.RowKit

def firstE : List ByteArray → Option Int
  | [] => none
  | z :: zs => match parseM z with | .ok _ => firstE zs | .error n => some n
theorem firstE_append (a b : List ByteArray) : firstE (a ++ b) = match firstE a with | some n => some n | none => firstE b := by
  induction a with
  | nil => rfl
  | cons z a ih =>
    simp only [List.cons_append, firstE]
    cases parseM z with
    | ok r => exact ih
    | error n => rfl
def ofM (zs : List ByteArray) : Except Int Dfa := match firstE zs with
  | some n => .error n
  | none => match dfaX (parsedM zs) with | none => .error 4 | some D => .ok (leastM D)
def OfD (e : Ending) (w' : World) : Except Int Dfa → Prop
  | .ok D => ∃ u, e = .returned (.tuple #[u, .int .i64 0]) ∧ DfaIn w' u D
  | .error n => e = .returned (.tuple #[.agg Tryz.zeroCells26, .int .i64 n])
theorem parsed_sizes (zs : List ByteArray) : Rx.sizes (parsedM zs) ≤ zs.length * 500 := by
  have h : ∀ l : List Rx, (∀ r ∈ l, r.size ≤ 500) → Rx.sizes l ≤ l.length * 500 := by
    intro l
    induction l with
    | nil => intro _; simp [Rx.sizes]
    | cons r l ih =>
      intro h
      have h1 := h r (by simp)
      have h2 := ih (fun q hq => h q (List.mem_cons_of_mem _ hq))
      simp only [Rx.sizes, List.length_cons]
      omega
  exact Nat.le_trans (h _ (parsedM_size zs)) (Nat.mul_le_mul_right _ (parsedM_length zs))

set_option maxRecDepth 100000 in
set_option maxHeartbeats 8000000 in
theorem miniof_any (a : Option Addr) (len cap : Nat) (zs : List ByteArray) (w : World) (h : StrsAt w a len zs) (hl : len ≤ 100) (hzs : ∀ z ∈ zs, z.size ≤ 1000) (hp : PowOk w) :
    Calls Tryz.prog 12 #[.slice a len cap] w fun e w' => OfD e w' (ofM zs) ∧ Fr none_ w w' := by
  obtain ⟨i0, hi, hz0, hz1, hz2⟩ := info_parts rx_info
  have H := Lib.hid h
  have HF := Lib.hid hzs
  have HP := Lib.hid hp
  have B0 := Lib.hid (alloc_new w (.cells Tryz.zeroCells26 26))
  have F0 := Lib.hid ((Fr.refl none_ w).alloc (.cells Tryz.zeroCells26 26))
  have hz4 : (dfaC (ints (List.replicate 256 0)) (.slice none 0 0) (.slice none 0 0)).length = 258 := dfaC_length _ _ _ (by rw [ints_length]; exact List.length_replicate)
  clear h hzs hp
  go_enter Tryz.func12, Tryz.ntmps12
  go_wp2_with fail
  go_loopw [4, 13] (fun x4 x13 wr => ∃ i : Nat, i ≤ len ∧ x13 = .int .i64 i ∧ Aside (firstE (zs.take i) = none) ∧ Aside (wr.heap[w.heap.size]? = some (.cells Tryz.zeroCells26 26 (0, 0))) ∧ Aside (RxOwn (w.heap.size + 1) (fun k => w.heap.size + 1 ≤ k) wr x4 (parsedM (zs.take i))) ∧ Aside (Fr none_ w wr)) (fun _ x13 _ => len - (intOf x13).toNat)
  case atStart => exact ⟨0, Nat.zero_le _, rfl, rfl, B0.out, RxOwn.nil _ _ _, F0.out⟩
  case round =>
    obtain ⟨i, hi', rfl, hno', hbl', hown', hfr'⟩ := hrel
    have HNO := Lib.hid hno'.out
    have HBL := Lib.hid hbl'.out
    have HOWN := Lib.hid hown'.out
    have HFr := Lib.hid hfr'.out
    clear hno' hbl' hown' hfr'
    by_cases hlt : i < len
    · obtain ⟨z, hz⟩ : ∃ z, zs[i]? = some z := ⟨zs[i]'(by rw [H.out.len_]; exact hlt), List.getElem?_eq_getElem _⟩
      obtain ⟨ad, rfl, hc⟩ := (H.out.move HFr.out).cell i z hz
      have hzsz : z.size ≤ 1000 := HF.out z (List.mem_of_getElem? hz)
      have hil : (i : Int) < (len : Int) := by omega
      have htk : zs.take (i + 1) = zs.take i ++ [z] := by rw [List.take_add_one, hz]; rfl
      have HZ := Lib.hid (show zs = zs.take (i + 1) ++ zs.drop (i + 1) from (List.take_append_drop _ _).symm)
      have HT := Lib.hid htk
      have HFE := Lib.hid (show firstE (zs.take (i + 1)) = match parseM z with | .ok _ => none | .error n => some n by
        rw [htk, firstE_append, HNO.out]
        simp only [firstE])
      clear hz htk
      cases hp : parseM z with
      | error n =>
        have hne : (n == 0) = false := by
          rcases parseM_err hp with rfl | rfl <;> rfl
        have HOF := Lib.hid (show ofM zs = .error n by
          unfold ofM
          rw [HZ.out, firstE_append, HFE.out, hp])
        have HPP := Lib.hid hp
        clear hp
        go_wp2_with fail
        refine (parse_no z (by omega) n HPP.out _).mono ?_
        rintro e w1 ⟨rfl, F1⟩
        have F2 := Lib.hid ((HFr.out.tr F1).alloc (.cells #[.int .i64 0, .int .u64 0, .int .u64 0, .int .u64 0, .int .u64 0, .slice none 0 0] 53))
        have HB2 := Lib.hid ((F1.alloc (.cells #[.int .i64 0, .int .u64 0, .int .u64 0, .int .u64 0, .int .u64 0, .slice none 0 0] 53)).at_ HBL.out (fun h => h))
        clear F1
        go_wp2_with (refine wpList_store_row rfl 26 _ _ rfl w.heap.size 26 Tryz.zeroCells26 Tryz.zeroCells26 rfl rfl HB2.out (by rw [zeroD_size]; exact dfa_info) rfl zeroD_one ?_)
        have B3 := setRow_heap _ w.heap.size Tryz.zeroCells26 Tryz.zeroCells26 26 (0, 0) HB2.out
        rw [zeroD_list] at B3
        refine bodyPost_ret (results_dfa rfl rfl B3 hz4) rfl ?_
        refine ⟨?_, Fr.setRow F2.out (.inr (by omega)) _⟩
        rw [HOF.out, zeroD_list]
        rfl
      | ok r =>
        obtain ⟨k, b0, b1, b2, b3, kids⟩ := r
        have HOK := Lib.hid (show okM z = some (.mk k b0 b1 b2 b3 kids) by unfold okM; rw [hp])
        have HF1 := Lib.hid (show firstE (zs.take (i + 1)) = none by rw [HFE.out, hp])
        have HPP := Lib.hid hp
        clear hp
        have hwl : (parsedM (zs.take i)).length ≤ 100 := by
          have := parsedM_length (zs.take i)
          simp only [List.length_take] at this
          omega
        go_wp2_with fail
        refine (parse_ok z (by omega) _ HPP.out _).mono ?_
        rintro e w1 ⟨v, rfl, hv, F1⟩
        obtain ⟨va, vcap, rfl, hvc, hvl⟩ := hv.open_
        have F2 := Lib.hid ((HFr.out.tr F1).alloc (.cells #[.int .i64 k, .int .u64 b0, .int .u64 b1, .int .u64 b2, .int .u64 b3, .slice va kids.length vcap] 53))
        have HB2 := Lib.hid ((F1.alloc (.cells #[.int .i64 k, .int .u64 b0, .int .u64 b1, .int .u64 b2, .int .u64 b3, .slice va kids.length vcap] 53)).at_ HBL.out (fun h => h))
        have HO2 := HOWN.out.move (F1.alloc (.cells #[.int .i64 k, .int .u64 b0, .int .u64 b1, .int .u64 b2, .int .u64 b3, .slice va kids.length vcap] 53)) (fun _ _ _ h => h) (fun _ _ _ h => h)
        have HVL := Lib.hid (RxL.move (w' := w1.alloc (.cells #[.int .i64 k, .int .u64 b0, .int .u64 b1, .int .u64 b2, .int .u64 b3, .slice va kids.length vcap] 53)) (fun i _ hlt => Below.heap_alloc _ _ _ hlt) _ _ _ hvl)
        obtain ⟨z0, z1, z2, z3, z4, z5⟩ := six (alloc_new w1 (.cells #[.int .i64 k, .int .u64 b0, .int .u64 b1, .int .u64 b2, .int .u64 b3, .slice va kids.length vcap] 53))
        have hs1 : (w1.alloc (.cells #[.int .i64 k, .int .u64 b0, .int .u64 b1, .int .u64 b2, .int .u64 b3, .slice va kids.length vcap] 53)).heap.size = w1.heap.size + 1 := by simp
        have hww : w.heap.size ≤ wr.heap.size := HFr.out.size
        have hbw : w.heap.size < wr.heap.size := lt_of_block HBL.out
        have hw1 : wr.heap.size ≤ w1.heap.size := F1.size
        obtain ⟨c0, h0, _⟩ := HOWN.out
        have HUB := Lib.hid (show ∀ i, u4.ownBlock = some i → w.heap.size + 1 ≤ i ∧ i < wr.heap.size from fun i hi => h0.lt i hi)
        obtain ⟨cells, hrow, hels⟩ := HO2
        have HROW := Lib.hid hrow
        have HELS := Lib.hid hels
        clear F1 hv hvl hrow hels h0
        go_wp2_with (at_builtin; refine wpList_append_lies _ rfl (.tmp 26) (.tmp 28) 51 rfl (w.heap.size + 1) 53 i0 _ 6 64 Tryz.underlying51 hi hz0 hz1 hz2 rfl (by decide) _ (parsedM (zs.take i)).length cells rfl (HROW.out.alloc _) ⟨w1.heap.size + 1, 0, none⟩ 1 1 [.int .i64 k, .int .u64 b0, .int .u64 b1, .int .u64 b2, .int .u64 b3, .slice va kids.length vcap] rfl rfl (getElem_block (alloc_new2 w1 _ _).2) ?c1 (by decide) ?c2 ?c3 ?c4 (w1.heap.size + 2) (by simp) ?_)
        case c1 => simp [Value.oneCell']
        case c2 => unfold maxLen; omega
        case c3 => omega
        case c4 => simp; omega
        intro g gcap w2 hown2 hgrow2 hat2 hlt2
        have PU := RxOwn.push (B := w.heap.size + 1) (ok := fun k => w.heap.size + 1 ≤ k) HROW.out HELS.out hvc (RxL.mono (fun i hi => ⟨by omega, fun e => by have := (HUB.out i e.symm).2; omega⟩) _ _ _ HVL.out) hown2 hgrow2 (by rw [hs1]; simpa using hat2)
        have HP1 := Lib.hid PU.1
        have HP2 := Lib.hid (F2.out.trans PU.2 (fun i hi hs => by omega))
        have HB3 := Lib.hid (PU.2.at_ HB2.out (fun hs => by omega))
        clear PU hown2 hgrow2 hat2 hlt2 z0 z1 z2 z3 z4 z5
        go_wp2_with fail
        go_roundw
        case rel =>
          refine ⟨i + 1, by omega, by go_num, HF1.out, HB3.out, ?_, HP2.out⟩
          rw [HT.out, parsedM_snoc, HOK.out]
          exact HP1.out
        case measure => simp [intOf]; omega
    · obtain rfl : i = len := by omega
      have htk : zs.take i = zs := List.take_of_length_le (by rw [H.out.len_]; exact Nat.le_refl _)
      rw [htk] at HOWN HNO
      obtain ⟨va, vcap, rfl, hvc, hvl⟩ := HOWN.out.rows
      have HVL := Lib.hid hvl
      clear hvl htk
      have hrsz : Rx.sizes (parsedM zs) ≤ 50000 := Nat.le_trans (parsed_sizes zs) (by rw [H.out.len_]; omega)
      cases hx : dfaX (parsedM zs) with
      | none =>
        have HOF := Lib.hid (show ofM zs = .error 4 by unfold ofM; rw [HNO.out]; simp only [hx])
        have HX := Lib.hid hx
        clear hx
        go_wp2_with fail
        refine (dbuild_any (parsedM zs) va vcap _ _ hvc (by omega) HVL.out (HP.out.move HFr.out)).mono ?_
        rintro e w1 ⟨hB, F1⟩
        rw [HX.out] at hB
        obtain rfl := hB
        have HB1 := Lib.hid (F1.at_ HBL.out (fun h => h))
        have FF := Lib.hid (HFr.out.tr F1)
        clear F1
        have hsz1 : w.heap.size < w1.heap.size := lt_of_block HB1.out
        have LR := laid_row w1 Tryz.zeroCells26 26 Tryz.zeroCells26
        have LF := Lib.hid LR.1
        have LB := Lib.hid LR.2
        clear LR
        have HB2 := Lib.hid (LF.out.at_ HB1.out (fun h => h))
        have FG := Lib.hid (FF.out.tr LF.out)
        clear LF LB
        go_wp2_with (first
          | (refine wpList_store_row rfl 26 (.tmp 9) (.tmp 34) rfl w1.heap.size 26 Tryz.zeroCells26 Tryz.zeroCells26 rfl rfl (alloc_new w1 _) ?_ rfl zeroD_one ?_; (rw [zeroD_size]; exact dfa_info))
          | (refine wpList_store_row rfl 26 (.tmp 2) (.tmp 38) rfl w.heap.size 26 Tryz.zeroCells26 Tryz.zeroCells26 rfl rfl HB2.out ?_ rfl zeroD_one ?_; (rw [zeroD_size]; exact dfa_info)))
        have B3 := setRow_heap _ w.heap.size Tryz.zeroCells26 Tryz.zeroCells26 26 (0, 0) HB2.out
        rw [zeroD_list] at B3
        refine bodyPost_ret (results_dfa rfl rfl B3 hz4) rfl ?_
        refine ⟨?_, Fr.setRow FG.out (.inr (by omega)) _⟩
        rw [HOF.out, zeroD_list]
        rfl
      | some D =>
        have HOF := Lib.hid (show ofM zs = .ok (leastM D) by unfold ofM; rw [HNO.out]; simp only [hx])
        have HX := Lib.hid hx
        clear hx
        go_wp2_with fail
        refine (dbuild_any (parsedM zs) va vcap _ _ hvc (by omega) HVL.out (HP.out.move HFr.out)).mono ?_
        rintro e w1 ⟨hB, F1⟩
        rw [HX.out] at hB
        obtain ⟨v, rfl, hD⟩ := hB
        obtain ⟨C, rfl, hz, hone⟩ := hD.cells
        have HDI := Lib.hid hD
        have HB1 := Lib.hid (F1.at_ HBL.out (fun h => h))
        have FF := Lib.hid (HFr.out.tr F1)
        have hsz1 : w.heap.size < w1.heap.size := lt_of_block HB1.out
        clear hD F1
        have LR := laid_row w1 Tryz.zeroCells26 26 C.toArray
        have LF := Lib.hid LR.1
        have LB := Lib.hid LR.2
        clear LR
        go_wp2_with (refine wpList_store_row rfl 26 _ _ rfl w1.heap.size 26 Tryz.zeroCells26 C.toArray rfl rfl (alloc_new w1 _) (by rw [List.size_toArray, hz]; exact dfa_info) (by rw [zeroD_size, List.size_toArray, hz]) hone ?_)
        refine wp_load_mid 26 _ rfl w1.heap.size 0 rfl C _ (range_of LB.out) Tryz.underlying26 rfl (by rw [hz]; exact dfa_info) ?_
        generalize hwf : (w1.alloc (.cells Tryz.zeroCells26 26)).setRow w1.heap.size C.toArray = wf at *
        have HB2 := Lib.hid (LF.out.at_ HB1.out (fun h => h))
        have FG := Lib.hid (FF.out.tr LF.out)
        have HDF := Lib.hid (HDI.out.move LF.out)
        obtain ⟨dn, dk, hdv, hdn, hdk, hdt, _⟩ := dfaX_dv HX.out
        have HDV := Lib.hid hdv
        have HDT := Lib.hid hdt
        clear hwf LF LB HDI hdv hdt
        go_wp2_with fail
        refine (least_high D dn dk _ _ HDF.out HDV.out HDV.out.valid (by omega) (by omega) HDT.out (HP.out.move FG.out)).mono ?_
        rintro e w2 ⟨u, rfl, hL, F2⟩
        obtain ⟨E, rfl, hzE, honeE⟩ := (hL _ (Fr.refl _ w2)).cells
        have HL := Lib.hid hL
        have HB3 := Lib.hid (F2.at_ HB2.out (fun h => h))
        have FH := Lib.hid (FG.out.tr F2)
        clear hL F2
        go_wp2_with (refine wpList_store_row rfl 26 _ _ rfl w.heap.size 26 Tryz.zeroCells26 E.toArray rfl rfl HB3.out (by rw [List.size_toArray, hzE]; exact dfa_info) (by rw [zeroD_size, List.size_toArray, hzE]) honeE ?_)
        have B3 := setRow_heap _ w.heap.size Tryz.zeroCells26 E.toArray 26 (0, 0) HB3.out
        refine bodyPost_ret (results_dfa rfl rfl B3 hzE) rfl ?_
        have hlt2 := lt_of_block HB2.out
        refine ⟨?_, Fr.setRow FH.out (.inr (by omega)) _⟩
        rw [HOF.out]
        exact ⟨_, rfl, HL.out _ (Fr.setRow (Fr.refl _ w2) (.inl (by show w.heap.size < wf.heap.size; omega)) E.toArray)⟩
end Go.Proofs.YtnenbihmokolpaaGreatDoor
