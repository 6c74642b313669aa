/-
  MiniNone, MiniOrder: plain.
  MiniOrder: the walk.
-/
import Derived.Test.YtglflmkkecephaaDoorMD
namespace Go.Proofs.YtglflmkkecephaaDoor
open Go.RowKit

/-- A state more, that is not come to. -/
def moreD (D : Dfa) (k t : Nat) : Dfa := ⟨D.cls, D.next ++ [List.replicate k 0], D.tags ++ [t]⟩
theorem moreD_dv {D : Dfa} {n k : Nat} (hv : DV D n k) (t : Nat) : DV (moreD D k t) (n + 1) k := by
  refine ⟨by simp [moreD, hv.hn], by simp [moreD, hv.ht], by omega, fun r hr => ?_, hv.cls⟩
  rcases List.mem_append.1 hr with h | h
  · obtain ⟨h1, h2⟩ := hv.row r h
    exact ⟨h1, fun t ht => by have := h2 t ht; omega⟩
  · obtain rfl : r = List.replicate k 0 := by simpa using h
    refine ⟨List.length_replicate, fun t ht => ?_⟩
    obtain rfl := (List.mem_replicate.1 ht).2
    omega
theorem moreD_eq {D : Dfa} {n k : Nat} (hv : DV D n k) (t : Nat) : ∀ (cs : List Nat) (q : Int), q < n → behD D q cs = behD (moreD D k t) q cs := by
  intro cs
  induction cs with
  | nil =>
    intro q hq
    by_cases h0 : q < 0
    · rw [beh_neg _ _ h0, beh_neg _ _ h0]
    · obtain ⟨i, rfl⟩ := Int.eq_ofNat_of_zero_le (show 0 ≤ q by omega)
      show tagQ D i = tagQ _ i
      rw [tag_at_nat, tag_at_nat]
      have hi : i < D.tags.length := by rw [hv.ht]; omega
      simp [moreD, List.getD, List.getElem?_append_left hi]
  | cons c cs ih =>
    intro q hq
    rw [beh_cons, beh_cons]
    have e : toD (moreD D k t) q c = toD D q c := by
      by_cases h0 : q < 0
      · rw [to_neg _ h0, to_neg _ h0]
      · obtain ⟨i, rfl⟩ := Int.eq_ofNat_of_zero_le (show 0 ≤ q by omega)
        rw [to_at, to_at]
        have hi : i < D.next.length := by rw [hv.hn]; omega
        simp [moreD, List.getD, List.getElem?_append_left hi]
    rw [e]
    exact ih _ (hv.to_lt hq c).2
theorem more_least {D : Dfa} {n k : Nat} (hv : DV D n k) (t : Nat) : leastM D = leastM (moreD D k t) :=
  least_canon hv (moreD_dv hv t) (fun cs => moreD_eq hv t cs 0 (by have := hv.pos; omega)) rfl

/-- No tags. -/
def bareD (D : Dfa) : Dfa := ⟨D.cls, D.next, List.replicate D.tags.length 0⟩
theorem bareD_dv {D : Dfa} {n k : Nat} (hv : DV D n k) : DV (bareD D) n k :=
  ⟨hv.hn, by rw [← hv.ht]; exact List.length_replicate, hv.pos, hv.row, hv.cls⟩
theorem bare_least {D : Dfa} {n k : Nat} (hv : DV D n k) (h : n < 100000) : leastM (bareD D) = ⟨D.cls, [List.replicate k (-1)], [0]⟩ :=
  least_dead (bareD_dv hv) h (fun _ ht => (List.mem_replicate.1 ht).2)

/-- States put in another order, the first one first. -/
def turnI (n : Nat) (q : Int) : Int := if 0 < q then (n : Int) - q else q
def turnD (D : Dfa) : Dfa :=
  ⟨D.cls, (List.range D.next.length).map fun (i : Nat) => (D.next.getD (turnI D.next.length i).toNat []).map (turnI D.next.length), (List.range D.next.length).map fun (i : Nat) => D.tags.getD (turnI D.next.length i).toNat 0⟩
theorem turnI_lt {n : Nat} {q : Int} (h : -1 ≤ q ∧ q < n) : -1 ≤ turnI n q ∧ turnI n q < n := by unfold turnI; split <;> omega
theorem turnI_turnI {n : Nat} {q : Int} (h : -1 ≤ q ∧ q < n) : turnI n (turnI n q) = q := by
  unfold turnI
  by_cases h0 : 0 < q
  · rw [if_pos h0, if_pos (by omega)]; omega
  · rw [if_neg h0, if_neg h0]
theorem turnI_nat {n i : Nat} (h : i < n) : ∃ j : Nat, turnI n i = j ∧ j < n := by
  have h1 := turnI_lt (n := n) (q := i) ⟨by omega, by omega⟩
  have h2 : 0 ≤ turnI n i := by unfold turnI; split <;> omega
  obtain ⟨j, hj⟩ := Int.eq_ofNat_of_zero_le h2
  exact ⟨j, hj, by omega⟩
theorem turnD_dv {D : Dfa} {n k : Nat} (hv : DV D n k) : DV (turnD D) n k := by
  refine ⟨by simp [turnD, hv.hn], by simp [turnD, hv.hn], hv.pos, fun r hr => ?_, hv.cls⟩
  simp only [turnD, hv.hn, List.mem_map, List.mem_range] at hr
  obtain ⟨i, hi, rfl⟩ := hr
  obtain ⟨j, hj, hjn⟩ := turnI_nat hi
  rw [hj, show ((j : Int)).toNat = j from rfl]
  obtain ⟨h1, h2⟩ := hv.rowAt hjn
  refine ⟨by rw [List.length_map, h1], fun t ht => ?_⟩
  obtain ⟨q, hq, rfl⟩ := List.mem_map.1 ht
  exact turnI_lt (h2 q hq)
theorem turnD_eq {D : Dfa} {n k : Nat} (hv : DV D n k) : ∀ (cs : List Nat) (q : Int), -1 ≤ q ∧ q < n → behD D q cs = behD (turnD D) (turnI n q) cs := by
  intro cs
  induction cs with
  | nil =>
    intro q hq
    by_cases h0 : q < 0
    · rw [beh_neg _ _ h0, beh_neg _ _ (by unfold turnI; rw [if_neg (by omega)]; exact h0)]
    · obtain ⟨i, rfl⟩ := Int.eq_ofNat_of_zero_le (show 0 ≤ q by omega)
      have hi : i < n := by omega
      obtain ⟨j, hj, hjn⟩ := turnI_nat hi
      rw [hj]
      show tagQ D i = tagQ _ j
      rw [tag_at_nat, tag_at_nat]
      have hb : turnI n (j : Int) = i := by rw [← hj]; exact turnI_turnI ⟨by omega, by omega⟩
      simp [turnD, hv.hn, List.getD, hjn, hb]
  | cons c cs ih =>
    intro q hq
    rw [beh_cons, beh_cons]
    have e : toD (turnD D) (turnI n q) c = turnI n (toD D q c) := by
      by_cases h0 : q < 0
      · have hn0 : turnI n q = q := by unfold turnI; rw [if_neg (by omega)]
        rw [hn0, to_neg _ h0, to_neg _ h0]
        rfl
      · obtain ⟨i, rfl⟩ := Int.eq_ofNat_of_zero_le (show 0 ≤ q by omega)
        have hi : i < n := by omega
        obtain ⟨j, hj, hjn⟩ := turnI_nat hi
        have hb : turnI n (j : Int) = i := by rw [← hj]; exact turnI_turnI ⟨by omega, by omega⟩
        rw [hj, to_at, to_at]
        have e1 : (turnD D).next.getD j [] = (D.next.getD i []).map (turnI n) := by
          simp [turnD, hv.hn, List.getD, hjn, hb]
        rw [e1]
        simp only [List.getD, List.getElem?_map]
        cases ((D.next[i]?.getD [])[c]?) with
        | none => rfl
        | some t => rfl
    rw [e]
    exact ih _ ⟨(hv.to_lt hq.2 c).1, (hv.to_lt hq.2 c).2⟩
theorem turn_least {D : Dfa} {n k : Nat} (hv : DV D n k) : leastM D = leastM (turnD D) :=
  least_canon hv (turnD_dv hv) (fun cs => by
    have := turnD_eq hv cs 0 ⟨by decide, by have := hv.pos; omega⟩
    rw [show turnI n 0 = 0 from rfl] at this
    exact this) rfl
end Go.Proofs.YtglflmkkecephaaDoor

namespace Go.Proofs.YtglflmkkecephaaDoor
open Go.RowKit

theorem turn_at {D : Dfa} {n k : Nat} (hv : DV D n k) {i : Nat} (hi : i < n) : ∃ f : Nat, f < n ∧ turnI n i = f ∧ (turnD D).next[i]? = some ((D.next.getD f []).map (turnI n)) ∧ (turnD D).tags[i]? = some (D.tags.getD f 0) := by
  obtain ⟨f, hf, hfn⟩ := turnI_nat hi
  refine ⟨f, hfn, hf, ?_, ?_⟩
  · simp [turnD, hv.hn, hi, hf]
  · simp [turnD, hv.hn, hi, hf]
theorem turn_tags {D : Dfa} {n k B : Nat} (hv : DV D n k) (h : ∀ t ∈ D.tags, t < B) : ∀ t ∈ (turnD D).tags, t < B := by
  intro t ht
  obtain ⟨i, hi⟩ := List.getElem_of_mem ht
  obtain ⟨hi, e⟩ := hi
  have hin : i < n := by rw [← (turnD_dv hv).ht]; exact hi
  obtain ⟨f, hfn, _, _, h4⟩ := turn_at hv hin
  rw [List.getElem?_eq_getElem hi, e] at h4
  have : t = D.tags.getD f 0 := by injection h4
  rw [this]
  exact h _ (getD_mem (by rw [hv.ht]; exact hfn) 0)
theorem OutL.dfa {w w' : World} {B cb : Nat} {C : List Value} {sv nv : Value} {vals : List Value} {tv : Value} {X : Dfa} {n k : Nat} (h : OutL w B cb C sv nv vals tv X.next X.tags) (hv : DV X n k) (hn : n ≤ 10000) (hk : k ≤ 1000000) (hc : X.cls.length = 256) (hC : intsV X.cls = C) (hf : Fr none_ w w') :
    DfaIn w' (.agg (C ++ [nv, tv]).toArray) X := by
  have hdn := (h.move hf).high (Fr.refl _ w')
  refine ⟨⟨nv, tv, by rw [dfaC, hC], hdn.1, hdn.2⟩, hc, by rw [hv.hn]; omega, fun r hr => ?_⟩
  have := (hv.row r hr).1
  omega

set_option maxRecDepth 100000 in
set_option maxHeartbeats 4000000 in
theorem miniorder_big (D : Dfa) (v : Value) (w : World) (hD : DfaIn w v D) (htl : D.tags.length ≤ 9223372036854775807) (hl : littleM D = false) (hp : PowOk w) :
    Calls Tryd.prog 8 #[v] w fun e w' => e = .returned (.bool true) ∧ Fr none_ w w' := by
  have HL := Lib.hid hl
  clear hl
  obtain ⟨C, na, ta, ncap, tcap, rfl, hz, hCQ, h256, h257, hrow, htag⟩ := hD.whole
  have hone : C.toArray.all (·.oneCell') = true := by
    obtain ⟨E, e, _, h3⟩ := hD.cells
    have e2 : C = E := by injection e with e; injection e
    rw [e2]; exact h3
  have hq : (intsV D.cls).length = 256 := by rw [intsV_length, hD.len]
  have hqm : ∀ v ∈ intsV D.cls, v.oneCell' = true := fun v hv => by
    simp only [intsV, List.mem_map] at hv
    obtain ⟨m, _, rfl⟩ := hv
    rfl
  obtain ⟨Q, hQ⟩ : ∃ Q, intsV D.cls = Q := ⟨_, rfl⟩
  rw [hQ] at hq hqm hCQ
  have HQ := Lib.hid hQ
  have HCQ := Lib.hid hCQ
  have HD0 := Lib.hid hD
  have HP := Lib.hid hp
  have HROW := Lib.hid hrow
  have HTAG := Lib.hid htag
  have H256 := Lib.hid h256
  have H257 := Lib.hid h257
  have HLEN := Lib.hid hD.len
  have B0 := Lib.hid (alloc_new w (.cells C.toArray 29))
  have F0 := Lib.hid ((Fr.refl none_ w).alloc (.cells C.toArray 29))
  clear hD hp h256 h257 hrow htag hCQ hQ
  go_enter Tryd.func8, Tryd.ntmps8
  go_wp2_with fail
  refine (works6_any _ (HP.out.move F0.out)).mono ?_
  rintro e w1 ⟨rfl, F1⟩
  have B1 := Lib.hid (F1.at_ B0.out (fun h => h))
  have FA := Lib.hid (F0.out.tr F1)
  have D1 := Lib.hid (HD0.out.move FA.out)
  clear F1 B0
  go_wp2_with (refine wpList_load_row rfl 29 (.tmp 1) rfl w.heap.size 29 C _ rfl B1.out Tryd.underlying29 rfl (by rw [hz]; exact dfa_info) ?_)
  refine (little_any D _ _ D1.out htl).mono ?_
  rintro e w2 ⟨rfl, F1⟩
  rw [HL.out]
  have B2 := Lib.hid (F1.at_ B1.out (fun h => h))
  have FB := Lib.hid (FA.out.tr F1)
  clear F1 B1 D1 FA
  go_wp2_with fail
  go_ret
  exact ⟨rfl, FB.out⟩

set_option maxRecDepth 100000 in
set_option maxHeartbeats 4000000 in
theorem miniorder_bad (D : Dfa) (v : Value) (w : World) (hD : DfaIn w v D) (htl : D.tags.length ≤ 9223372036854775807) (hl : littleM D = true) (hv : validM D = false) (hp : PowOk w) :
    Calls Tryd.prog 8 #[v] w fun e w' => e = .returned (.bool true) ∧ Fr none_ w w' := by
  have HL := Lib.hid hl
  have HV := Lib.hid hv
  clear hl hv
  obtain ⟨C, na, ta, ncap, tcap, rfl, hz, hCQ, h256, h257, hrow, htag⟩ := hD.whole
  have hone : C.toArray.all (·.oneCell') = true := by
    obtain ⟨E, e, _, h3⟩ := hD.cells
    have e2 : C = E := by injection e with e; injection e
    rw [e2]; exact h3
  have hq : (intsV D.cls).length = 256 := by rw [intsV_length, hD.len]
  have hqm : ∀ v ∈ intsV D.cls, v.oneCell' = true := fun v hv => by
    simp only [intsV, List.mem_map] at hv
    obtain ⟨m, _, rfl⟩ := hv
    rfl
  obtain ⟨Q, hQ⟩ : ∃ Q, intsV D.cls = Q := ⟨_, rfl⟩
  rw [hQ] at hq hqm hCQ
  have HQ := Lib.hid hQ
  have HCQ := Lib.hid hCQ
  have HD0 := Lib.hid hD
  have HP := Lib.hid hp
  have HROW := Lib.hid hrow
  have HTAG := Lib.hid htag
  have H256 := Lib.hid h256
  have H257 := Lib.hid h257
  have HLEN := Lib.hid hD.len
  have B0 := Lib.hid (alloc_new w (.cells C.toArray 29))
  have F0 := Lib.hid ((Fr.refl none_ w).alloc (.cells C.toArray 29))
  clear hD hp h256 h257 hrow htag hCQ hQ
  go_enter Tryd.func8, Tryd.ntmps8
  go_wp2_with fail
  refine (works6_any _ (HP.out.move F0.out)).mono ?_
  rintro e w1 ⟨rfl, F1⟩
  have B1 := Lib.hid (F1.at_ B0.out (fun h => h))
  have FA := Lib.hid (F0.out.tr F1)
  have D1 := Lib.hid (HD0.out.move FA.out)
  clear F1 B0
  go_wp2_with (refine wpList_load_row rfl 29 (.tmp 1) rfl w.heap.size 29 C _ rfl B1.out Tryd.underlying29 rfl (by rw [hz]; exact dfa_info) ?_)
  refine (little_any D _ _ D1.out htl).mono ?_
  rintro e w2 ⟨rfl, F1⟩
  rw [HL.out]
  have B2 := Lib.hid (F1.at_ B1.out (fun h => h))
  have FB := Lib.hid (FA.out.tr F1)
  clear F1 B1 D1 FA
  go_wp2_with fail
  refine wp_load_mid 29 _ rfl w.heap.size 0 rfl C _ (range_of B2.out) Tryd.underlying29 rfl (by rw [hz]; exact dfa_info) ?_
  go_wp2_with fail
  refine (valid_any D _ _ (HD0.out.move FB.out)).mono ?_
  rintro e w3 ⟨rfl, F1⟩
  rw [HV.out]
  have B3 := Lib.hid (F1.at_ B2.out (fun h => h))
  have FC := Lib.hid (FB.out.tr F1)
  clear F1 B2 FB
  go_wp2_with fail
  go_ret
  exact ⟨rfl, FC.out⟩

set_option maxRecDepth 100000 in
set_option maxHeartbeats 4000000 in
theorem miniorder_good (D : Dfa) (v : Value) (w : World) (hD : DfaIn w v D) (htl : D.tags.length ≤ 9223372036854775807) (htg : ∀ t ∈ D.tags, t < 18446744073709551616) (hl : littleM D = true) (hv : validM D = true) (hp : PowOk w) :
    Calls Tryd.prog 8 #[v] w fun e w' => e = .returned (.bool true) ∧ Fr none_ w w' := by
  have HL := Lib.hid hl
  have HV := Lib.hid hv
  have hdv := valid_dv hv
  obtain ⟨hn30, ht30, hr20⟩ := little_spec.1 hl
  have hk20 : (D.next.getD 0 []).length ≤ 20 := by
    have hpos := hdv.pos
    rw [List.getD, List.getElem?_eq_getElem hpos]
    exact hr20 _ (List.getElem_mem hpos)
  obtain ⟨n, hn⟩ : ∃ n, D.next.length = n := ⟨_, rfl⟩
  obtain ⟨k, hk⟩ : ∃ k, (D.next.getD 0 []).length = k := ⟨_, rfl⟩
  rw [hn, hk] at hdv
  rw [hn] at hn30
  rw [hk] at hk20
  have HN := Lib.hid hn
  have HDV := Lib.hid hdv
  have HTG := Lib.hid htg
  have HXA := Lib.hid (fun (i : Nat) (hi : i < n) => turn_at hdv hi)
  have HXV := Lib.hid (turnD_dv hdv)
  have HXM := Lib.hid (turnD_dv hdv).valid
  have HXT := Lib.hid (turn_tags hdv htg)
  have HXL := Lib.hid (turn_least hdv)
  have HXC := Lib.hid (show (turnD D).cls = D.cls from rfl)
  obtain ⟨hm1, hm2, hm3, hm4, hm5⟩ := least_len hdv (by omega)
  obtain ⟨X, hX⟩ : ∃ X, turnD D = X := ⟨_, rfl⟩
  rw [hX] at HXA HXV HXM HXT HXL HXC
  clear hl hv htg hr20 hdv hm1 hm2 hm4 hm5 hn hk hX
  obtain ⟨C, na, ta, ncap, tcap, rfl, hz, hCQ, h256, h257, hrow, htag⟩ := hD.whole
  have hone : C.toArray.all (·.oneCell') = true := by
    obtain ⟨E, e, _, h3⟩ := hD.cells
    have e2 : C = E := by injection e with e; injection e
    rw [e2]; exact h3
  have hq : (intsV D.cls).length = 256 := by rw [intsV_length, hD.len]
  have hqm : ∀ v ∈ intsV D.cls, v.oneCell' = true := fun v hv => by
    simp only [intsV, List.mem_map] at hv
    obtain ⟨m, _, rfl⟩ := hv
    rfl
  obtain ⟨Q, hQ⟩ : ∃ Q, intsV D.cls = Q := ⟨_, rfl⟩
  rw [hQ] at hq hqm hCQ
  have HQ := Lib.hid hQ
  have HCQ := Lib.hid hCQ
  have HD0 := Lib.hid hD
  have HP := Lib.hid hp
  have HROW := Lib.hid hrow
  have HTAG := Lib.hid htag
  have H256 := Lib.hid h256
  have H257 := Lib.hid h257
  have HLEN := Lib.hid hD.len
  have B0 := Lib.hid (alloc_new w (.cells C.toArray 29))
  have F0 := Lib.hid ((Fr.refl none_ w).alloc (.cells C.toArray 29))
  clear hD hp h256 h257 hrow htag hCQ hQ
  go_enter Tryd.func8, Tryd.ntmps8
  go_wp2_with fail
  refine (works6_any _ (HP.out.move F0.out)).mono ?_
  rintro e w1 ⟨rfl, F1⟩
  have B1 := Lib.hid (F1.at_ B0.out (fun h => h))
  have FA := Lib.hid (F0.out.tr F1)
  have D1 := Lib.hid (HD0.out.move FA.out)
  clear F1 B0
  go_wp2_with (refine wpList_load_row rfl 29 (.tmp 1) rfl w.heap.size 29 C _ rfl B1.out Tryd.underlying29 rfl (by rw [hz]; exact dfa_info) ?_)
  refine (little_any D _ _ D1.out htl).mono ?_
  rintro e w2 ⟨rfl, F1⟩
  rw [HL.out]
  have B2 := Lib.hid (F1.at_ B1.out (fun h => h))
  have FB := Lib.hid (FA.out.tr F1)
  clear F1 B1 D1 FA
  go_wp2_with fail
  refine wp_load_mid 29 _ rfl w.heap.size 0 rfl C _ (range_of B2.out) Tryd.underlying29 rfl (by rw [hz]; exact dfa_info) ?_
  go_wp2_with fail
  refine (valid_any D _ _ (HD0.out.move FB.out)).mono ?_
  rintro e w3 ⟨rfl, F1⟩
  rw [HV.out]
  have B3 := Lib.hid (F1.at_ B2.out (fun h => h))
  have FC := Lib.hid (FB.out.tr F1)
  clear F1 B2 FB
  rw [HN.out] at H256
  rw [HDV.out.ht] at H257
  have c256 := cell_of_block (o := 256) B3.out (by simpa using H256.out)
  have hb1 := fold_class Q hq
  have hone2 := cls_one Q hqm (.slice none 0 0) (.slice none 0 0) rfl rfl
  have hz2 : (Q ++ [Value.slice none 0 0, Value.slice none 0 0]).toArray.size = 258 := by simp [hq]
  have HRG := Lib.hid (show w3.rangeAt w.heap.size 0 Q from range_pre (D := [.slice na n ncap, .slice ta n tcap]) (by
    have h1 := HCQ.out
    rw [HN.out, HDV.out.ht] at h1
    rw [← h1]; exact range_of B3.out))
  go_wp2_with (first
    | (refine wpList_load_mid rfl 25 (.tmp 32) rfl w.heap.size 0 rfl Q _ ?_ Tryd.underlying25 rfl ?_ ?_; exact HRG.out; (rw [hq]; exact arr_info))
    | (refine wpList_store_row rfl 29 (.tmp 6) (.tmp 34) rfl w3.heap.size 29 Tryd.zeroCells29 (Q ++ [Value.slice none 0 0, Value.slice none 0 0]).toArray rfl rfl (alloc_new w3 _) ?_ ?_ hone2 ?_; (rw [hz2]; exact dfa_info); (rw [hz2]; exact zeroD_size)))
  have LR := laid_row w3 Tryd.zeroCells29 29 (Q ++ [Value.slice none 0 0, Value.slice none 0 0]).toArray
  have LF := Lib.hid LR.1
  have LB := Lib.hid LR.2
  obtain ⟨cb, hcb⟩ : ∃ x, w3.heap.size = x := ⟨_, rfl⟩
  obtain ⟨W7, hW7⟩ : ∃ x, (w3.alloc (.cells Tryd.zeroCells29 29)).setRow w3.heap.size (Q ++ [Value.slice none 0 0, Value.slice none 0 0]).toArray = x := ⟨_, rfl⟩
  have HCB1 := Lib.hid (show w3.heap.size ≤ cb by omega)
  rw [hW7] at LF LB ⊢
  rw [hcb] at LB ⊢
  obtain ⟨BB, hBB⟩ : ∃ x, W7.heap.size = x := ⟨_, rfl⟩
  have HBB1 := Lib.hid (show w3.heap.size ≤ BB by have := LF.out.size; omega)
  have hbb0 : BB ≤ W7.heap.size := by omega
  have HL0 := Lib.hid (show OutL W7 BB cb Q (.slice none 0 0) (.slice none 0 0) [] (.slice none 0 0) [] [] from
    ⟨LB.out, World.ownsRow_nil _ _ _ _, fun i r h => by simp at h, World.ownsRow_nil _ _ _ _⟩)
  clear hW7 hcb LR c256 hb1 hone2 hz2 HRG hBB LB
  go_loopw [7] (fun x7 wr => ∃ i : Nat, i ≤ n ∧ x7 = .int .i64 i ∧ Aside (∃ nv vals tv, OutL wr BB cb Q (.slice none 0 0) nv vals tv (X.next.take i) (X.tags.take i) ∧ Fr none_ w3 wr ∧ BB ≤ wr.heap.size)) (fun x7 _ => n - (intOf x7).toNat)
  case atStart => exact ⟨0, Nat.zero_le _, rfl, ⟨_, _, _, HL0.out, LF.out, hbb0⟩⟩
  case round =>
    obtain ⟨i, hin, rfl, h2'⟩ := hrel
    obtain ⟨nv, vals, tv, hol, hfr, hbb⟩ := h2'.out
    have HOL := Lib.hid hol
    have HFR := Lib.hid hfr
    clear h2' hol hfr HL0 hbb0
    by_cases hlt : i < n
    case pos =>
      have hil : (i : Int) < (n : Int) := by omega
      have hi00 : (0 : Int) ≤ (i : Int) := by omega
      obtain ⟨f, hfn, hfi, hxn, hxt⟩ := HXA.out i hlt
      have HXN := Lib.hid hxn
      have HXG := Lib.hid hxt
      have hff : turnI n i = (f : Int) := hfi
      unfold turnI at hff
      obtain ⟨r, hr⟩ : ∃ r, D.next[f]? = some r := ⟨_, List.getElem?_eq_getElem (by rw [HN.out]; exact hfn)⟩
      obtain ⟨z, hzz⟩ : ∃ z, D.tags[f]? = some z := ⟨_, List.getElem?_eq_getElem (by rw [HDV.out.ht]; exact hfn)⟩
      obtain ⟨ad, rv, rfl, hc1, ra, rcap, rfl, hrc⟩ := HROW.out f r hr
      obtain ⟨td, rfl, hc2⟩ := HTAG.out f z hzz
      have HRT := Lib.hid (show ∀ t ∈ r, -1 ≤ t ∧ t < n from (HDV.out.row r (List.mem_of_getElem? hr)).2)
      have hrk : r.length = k := (HDV.out.row r (List.mem_of_getElem? hr)).1
      have HRC := Lib.hid hrc
      have HGR := Lib.hid (show D.next.getD f [] = r by rw [List.getD, hr]; rfl)
      have HGT := Lib.hid (show D.tags.getD f 0 = z by rw [List.getD, hzz]; rfl)
      have HC1 := Lib.hid hc1
      have HC2 := Lib.hid hc2
      rw [hrk] at HC1
      have HRK := Lib.hid hrk
      have hf0 : (0 : Int) ≤ (f : Int) := by omega
      have hf1 : (f : Int) < (n : Int) := by omega
      clear hr hzz hc1 hc2 hrc hxn hxt hfi hrk
      by_cases h0 : 0 < i
      case pos =>
        have h00 : (0 : Int) < (i : Int) := by omega
        rw [if_pos h00] at hff
        have hsub : (n : Int) - (i : Int) = (f : Int) := hff
        clear hff
        go_wp2_with fail
        try simp only [hsub]
        clear hsub h00
        obtain ⟨wb, hwb⟩ : ∃ y, y = wr := ⟨_, rfl⟩
        subst hwb
        have HY := Lib.hid (show (X.next.take i ++ [r.map (turnI n)]) = X.next.take (i + 1) by rw [List.take_add_one, HXN.out, HGR.out]; rfl)
        have HYT := Lib.hid (show (X.tags.take i ++ [z]) = X.tags.take (i + 1) by rw [List.take_add_one, HXG.out, HGT.out]; rfl)
        obtain ⟨Y, hY⟩ : ∃ Y, r.map (turnI n) = Y := ⟨_, rfl⟩
        have hYl : Y.length = k := by rw [← hY, List.length_map]; exact HRK.out
        have HYA := Lib.hid (show ∀ (j : Nat) (t : Int), r[j]? = some t → Y[j]? = some (turnI n t) from fun j t h => by rw [← hY, List.getElem?_map, h]; rfl)
        rw [hY] at HY
        clear hY
        go_loopw [9, 10] (fun x9 x10 wr => ∃ j : Nat, j ≤ k ∧ x10 = .int .i64 j ∧ Aside (wr.ownsRow wb.heap.size 3 1 x9 j (intsV (Y.take j)) ∧ Fr none_ wb wr)) (fun _ x10 _ => k - (intOf x10).toNat)
        case atStart => exact ⟨0, Nat.zero_le _, rfl, ⟨World.ownsRow_nil _ _ _ _, Fr.refl _ _⟩⟩
        case round =>
          obtain ⟨j, hj', rfl, hrow⟩ := hrel
          have HR' := Lib.hid hrow.out.1
          have HF' := Lib.hid hrow.out.2
          have HF1 := Lib.hid (HFR.out.tr hrow.out.2)
          have hwbs := hrow.out.2.size
          clear hrow
          obtain ⟨xa, xcap, hxv, hxc⟩ := ownsRow_slice HR'.out
          subst hxv
          have hj0 : (0 : Int) ≤ (j : Int) := by omega
          have q2 : wr.cell? ⟨w.heap.size, 256, none⟩ = some (.slice (some ad) n ncap) := cell_of_block (HF1.out.at_ B3.out (fun h => h)) (by simpa using H256.out)
          have q3 : wr.cell? (ad.add f) = some (.slice ra k rcap) := cell_move (FC.out.tr HF1.out) HC1.out
          by_cases hlt2 : j < k
          case pos =>
            have hjl : (j : Int) < (k : Int) := by omega
            obtain ⟨t, ht⟩ : ∃ t, r[j]? = some t := ⟨_, List.getElem?_eq_getElem (by rw [HRK.out]; exact hlt2)⟩
            have htr := HRT.out t (List.mem_of_getElem? ht)
            have HYJ := Lib.hid (show intsV (Y.take (j + 1)) = intsV (Y.take j) ++ [.int .i64 (turnI n t)] by rw [List.take_add_one, HYA.out j t ht]; exact intsV_snoc _ _)
            obtain ⟨xd, rfl, hcx⟩ := HRC.out j t ht
            have g1 := cell_move (FC.out.tr HF1.out) hcx
            clear ht hcx
            obtain ⟨i0, hi, hz0, hz1, hz2⟩ := info_parts int_info
            by_cases ht0 : 0 < t
            case pos =>
              rw [show turnI n t = (n : Int) - t from if_pos ht0] at HYJ
              go_wp2_with (at_builtin; refine wpList_append_lies _ rfl (.tmp 68) (.tmp 70) 52 rfl wb.heap.size 3 i0 _ 1 8 Tryd.underlying52 hi hz0 hz1 hz2 rfl (by decide) _ j (intsV (Y.take j)) rfl (HR'.out.alloc _) ⟨wr.heap.size, 0, none⟩ 1 1 [.int .i64 ((n : Int) - t)] rfl rfl (getElem_block (alloc_new _ _)) ?c1 (by decide) ?c2 ?c3 ?c4 (wr.heap.size + 1) (by simp) ?_)
              case c1 => simp [Value.oneCell']
              case c2 => unfold maxLen; omega
              case c3 => omega
              case c4 => first | omega | (simp; omega)
              intro g2 cap2 w9 hown9 hgrow9 hat9 hlt9
              have HNEW := Lib.hid (show w9.ownsRow wb.heap.size 3 1 (.slice (some ⟨g2, 0, none⟩) (j + 1) cap2) (j + 1) (intsV (Y.take (j + 1))) by rw [HYJ.out]; exact hown9)
              have HFN := Lib.hid ((HF'.out.alloc (.cells #[.int .i64 ((n : Int) - t)] 3)).grown hgrow9 (fun k hk => .inr (HR'.out.lt k hk).1))
              clear hown9 hgrow9 hat9 hlt9 HYJ
              go_wp2_with fail
              go_roundw
              case rel => exact ⟨j + 1, by omega, by go_num, ⟨HNEW.out, HFN.out⟩⟩
              case measure => simp [intOf]; omega
            case neg =>
              rw [show turnI n t = t from if_neg ht0] at HYJ
              go_wp2_with (at_builtin; refine wpList_append_lies _ rfl (.tmp 68) (.tmp 70) 52 rfl wb.heap.size 3 i0 _ 1 8 Tryd.underlying52 hi hz0 hz1 hz2 rfl (by decide) _ j (intsV (Y.take j)) rfl (HR'.out.alloc _) ⟨wr.heap.size, 0, none⟩ 1 1 [.int .i64 (t)] rfl rfl (getElem_block (alloc_new _ _)) ?c1 (by decide) ?c2 ?c3 ?c4 (wr.heap.size + 1) (by simp) ?_)
              case c1 => simp [Value.oneCell']
              case c2 => unfold maxLen; omega
              case c3 => omega
              case c4 => first | omega | (simp; omega)
              intro g2 cap2 w9 hown9 hgrow9 hat9 hlt9
              have HNEW := Lib.hid (show w9.ownsRow wb.heap.size 3 1 (.slice (some ⟨g2, 0, none⟩) (j + 1) cap2) (j + 1) (intsV (Y.take (j + 1))) by rw [HYJ.out]; exact hown9)
              have HFN := Lib.hid ((HF'.out.alloc (.cells #[.int .i64 (t)] 3)).grown hgrow9 (fun k hk => .inr (HR'.out.lt k hk).1))
              clear hown9 hgrow9 hat9 hlt9 HYJ
              go_wp2_with fail
              go_roundw
              case rel => exact ⟨j + 1, by omega, by go_num, ⟨HNEW.out, HFN.out⟩⟩
              case measure => simp [intOf]; omega
          case neg =>
            obtain rfl : k = j := by omega
            rw [List.take_of_length_le (by omega)] at HR'
            have hOo := HOL.out.move HF'.out
            obtain ⟨na2, ncap2, hnv, hncp⟩ := ownsRow_slice hOo.row
            obtain ⟨ta2, tcap2, htv, htcp⟩ := ownsRow_slice hOo.tgs
            have hlx : (X.next.take i).length = i := by rw [List.length_take, HXV.out.hn]; omega
            have hlt3 : (X.tags.take i).length = i := by rw [List.length_take, HXV.out.ht]; omega
            have HLX := Lib.hid hlx
            have HLT := Lib.hid hlt3
            rw [hlx] at hnv hncp
            rw [hlt3] at htv htcp
            subst hnv
            subst htv
            have HOO := Lib.hid hOo
            have e256 : wr.cell? ⟨cb, 256, none⟩ = some (.slice na2 i ncap2) := cell_of_block hOo.blk (at_256 Q hq _ _)
            obtain ⟨i0, hi, hz0, hz1, hz2⟩ := info_parts row_info
            have HNR := Lib.hid (show wr.ownsRow BB 52 1 (.slice na2 i ncap2) i vals by have h1 := hOo.row; rw [hlx] at h1; exact h1)
            have HCB := Lib.hid (show ∀ (wn : World), (wr.alloc (.cells #[.slice xa k xcap] 52)).grownBy wn (Value.slice na2 i ncap2).ownBlock → wn.heap[cb]? = some (.cells (Q ++ [Value.slice na2 i ncap2, Value.slice ta2 i tcap2]).toArray 29 (0, 0)) from fun wn hg =>
              (((Fr.refl _ wr).alloc _).grown hg (fun k hk => .inl hk) : Fr (fun k => (Value.slice na2 i ncap2).ownBlock = some k) wr wn).at_ hOo.blk (row_off hOo.row hOo.blk (by decide)))
            have hbw : BB ≤ wr.heap.size := by omega
            clear hOo hlx hlt3
            go_wp2_with (at_builtin; refine wpList_append_lies _ rfl (.tmp 73) (.tmp 75) 26 rfl BB 52 i0 _ 1 24 Tryd.underlying26 hi hz0 hz1 hz2 rfl (by decide) _ i vals rfl (HNR.out.alloc _) ⟨wr.heap.size, 0, none⟩ 1 1 [.slice xa k xcap] rfl rfl (getElem_block (alloc_new _ _)) (by simp [Value.oneCell']) (by decide) (by unfold maxLen; omega) (by omega) (by first | omega | (simp; omega)) (wr.heap.size + 1) (by simp) ?_; intro g2 cap2 w9 hown9 hgrow9 hat9 hlt9; (have HB9 := Lib.hid (HCB.out w9 hgrow9)); (have c256 : w9.cell? ⟨cb, 256, none⟩ = some (.slice na2 i ncap2) := cell_of_block HB9.out (at_256 Q hq _ _)); (have f256 : w9.frozen? ⟨cb, 256, none⟩ = false := free_of_block HB9.out); (have HOW9 := Lib.hid hown9); (have HG9 := Lib.hid hgrow9); (have HA9 : Hid ((Value.slice na2 i ncap2).ownBlock = some g2 ∨ g2 = wr.heap.size + 1) := Lib.hid hat9); clear hown9 hgrow9 hat9 hlt9)
            have hput := OutL.put (row := Y) (xv := .slice xa k xcap) (g2 := g2) (cap2 := cap2) HOO.out hq (by rw [hYl]; exact ownsRow_base HR'.out hbb) (fun k hk => by simp [Value.ownBlock]) HG9.out (by rw [HLX.out]; exact HOW9.out) HA9.out
            rw [HLX.out, HY.out] at hput
            have HFq := Lib.hid (HF1.out.fresh hput.2 (by
              rintro k (hk | rfl)
              · have := (HOO.out.row.lt k hk).1; have := HBB1.out; omega
              · exact HCB1.out))
            have HOq := Lib.hid hput.1
            have hsq : wr.heap.size ≤ (w9.setCell ⟨cb, 256, none⟩ (.slice (some ⟨g2, 0, none⟩) (i + 1) cap2)).heap.size := hput.2.size
            obtain ⟨wq, hwq⟩ : ∃ q, w9.setCell ⟨cb, 256, none⟩ (.slice (some ⟨g2, 0, none⟩) (i + 1) cap2) = q := ⟨_, rfl⟩
            rw [hwq] at HFq HOq hsq ⊢
            have e1 : wq.drew.cell? ⟨w.heap.size, 257, none⟩ = some (.slice (some td) n tcap) := cell_of_block (w := wq.drew) (HFq.out.at_ B3.out (fun h => h)) (by simpa using H257.out)
            have e4 : wq.drew.cell? (td.add f) = some (.int .u64 z) := cell_move (w' := wq.drew) (FC.out.tr (HFq.out.drew)) HC2.out
            have e5 : wq.drew.cell? ⟨cb, 257, none⟩ = some (.slice ta2 i tcap2) := cell_of_block (w := wq.drew) HOq.out.blk (at_257 Q hq _ _)
            have e6 : (wq.alloc (.cells #[.int .u64 (z : Int)] 37)).cell? ⟨cb, 257, none⟩ = some (.slice ta2 i tcap2) := cell_of_block ((Fr.alloc (Fr.refl none_ wq) _).at_ HOq.out.blk (fun h => h)) (at_257 Q hq _ _)
            obtain ⟨j0, hj, hy0, hy1, hy2⟩ := info_parts set_info
            have HTR := Lib.hid (show wq.ownsRow BB 37 1 (.slice ta2 i tcap2) i (setsV (X.tags.take i)) by have h1 := HOq.out.tgs; rw [HLT.out] at h1; exact h1)
            have HCB2 := Lib.hid (show ∀ (wn : World), (wq.drew.alloc (.cells #[.int .u64 (z : Int)] 37)).grownBy wn (Value.slice ta2 i tcap2).ownBlock → wn.heap[cb]? = some (.cells (Q ++ [Value.slice (some ⟨g2, 0, none⟩) (i + 1) cap2, Value.slice ta2 i tcap2]).toArray 29 (0, 0)) from fun wn hg =>
              (((Fr.refl _ wq).drew.alloc _).grown hg (fun k hk => .inl hk) : Fr (fun k => (Value.slice ta2 i tcap2).ownBlock = some k) wq wn).at_ HOq.out.blk (row_off HOq.out.tgs HOq.out.blk (by decide)))
            have hbq : BB ≤ wq.heap.size := by omega
            have HSF := Lib.hid (show ∀ (wn : World), Fr (fun k => (Value.slice ta2 i tcap2).ownBlock = some k ∨ k = cb) wq wn → (wn.cell? ⟨w.heap.size, 257, none⟩ = some (.slice (some td) n tcap) ∧ wn.cell? (td.add f) = some (.int .u64 z)) from fun wn hf => by
              have g1 : Fr none_ w3 wn := HFq.out.fresh hf (by
                rintro k (hk | rfl)
                · have := (HOq.out.tgs.lt k hk).1; have := HBB1.out; omega
                · exact HCB1.out)
              exact ⟨cell_of_block (g1.at_ B3.out (fun h => h)) (by simpa using H257.out), cell_move (FC.out.tr g1) HC2.out⟩)
            clear hput hwq HB9 HNR HCB HOW9 HG9 HA9 c256 f256 e256
            go_wp2_with fail
            refine wp_region_held_drew (S := fun w' => w'.cell? ⟨w.heap.size, 257, none⟩ = some (.slice (some td) n tcap) ∧ w'.cell? (td.add f) = some (.int .u64 z)) (by kernel_rfl) ⟨e1, e4⟩ (fun hHeld => ?_)
            try simp only [Act.put, List.setIfInBounds_toArray, List.set_cons_zero, List.set_cons_succ]
            refine wpAnyH_take (i := 0) (v := ?_) lot0 (by kernel_rfl) (by kernel_rfl) (by kernel_rfl) (fun _ _ _ h => h) (Or.inl ⟨by rfl, ?_⟩) (by assumption) ?_
            rotate_left
            · (intro wv hSw; (try dsimp only at hSw); obtain ⟨s1, s2⟩ := hSw; go_simp) <;> with_reducible rfl
            try simp only [Act.put, List.setIfInBounds_toArray, List.set_cons_zero, List.set_cons_succ]
            refine wpAnyH_take (i := 2) (v := ?_) lot2 (by kernel_rfl) (by kernel_rfl) (by kernel_rfl) (fun _ _ _ h => h) (Or.inl ⟨by rfl, ?_⟩) (by assumption) ?_
            rotate_left
            · (intro wv hSw; (try dsimp only at hSw); obtain ⟨s1, s2⟩ := hSw; go_simp) <;> with_reducible rfl
            try simp only [Act.put, List.setIfInBounds_toArray, List.set_cons_zero, List.set_cons_succ]
            refine wpAnyH_take (i := 3) (v := ?_) lot3 (by kernel_rfl) (by kernel_rfl) (by kernel_rfl) (fun _ _ _ h => h) (Or.inl ⟨by rfl, ?_⟩) (by assumption) ?_
            rotate_left
            · (intro wv hSw; (try dsimp only at hSw); obtain ⟨s1, s2⟩ := hSw; go_simp) <;> with_reducible rfl
            try simp only [Act.put, List.setIfInBounds_toArray, List.set_cons_zero, List.set_cons_succ]
            refine wpAnyH_take (i := 4) (v := ?_) lot4 (by kernel_rfl) (by kernel_rfl) (by kernel_rfl) (fun _ _ _ h => h) (Or.inl ⟨by rfl, ?_⟩) (by assumption) ?_
            rotate_left
            · (intro wv hSw; (try dsimp only at hSw); obtain ⟨s1, s2⟩ := hSw; go_simp) <;> with_reducible rfl
            try simp only [Act.put, List.setIfInBounds_toArray, List.set_cons_zero, List.set_cons_succ]
            refine wpAnyH_take (i := 5) (v := ?_) lot5 (by kernel_rfl) (by kernel_rfl) (by kernel_rfl) (fun _ _ _ h => h) (Or.inl ⟨by rfl, ?_⟩) (by assumption) ?_
            rotate_left
            · (intro wv hSw; (try dsimp only at hSw); obtain ⟨s1, s2⟩ := hSw; go_simp) <;> with_reducible rfl
            try simp only [Act.put, List.setIfInBounds_toArray, List.set_cons_zero, List.set_cons_succ]
            refine wpAnyH_take (i := 6) (v := ?_) lot6 (by kernel_rfl) (by kernel_rfl) (by kernel_rfl) (fun _ _ _ h => h) (Or.inl ⟨by rfl, ?_⟩) (by assumption) ?_
            rotate_left
            · (intro wv hSw; (try dsimp only at hSw); obtain ⟨s1, s2⟩ := hSw; go_simp) <;> with_reducible rfl
            try simp only [Act.put, List.setIfInBounds_toArray, List.set_cons_zero, List.set_cons_succ]
            refine wpAnyH_ready (rs := [1, 7]) (by kernel_rfl) (by simp) ?_
            refine AllReadyH.cons lot1 (fun K hK => ?gAf) (AllReadyH.cons lot7 (fun K hK => ?gBf) AllReadyH.nil)
            case' gAf =>
              go_simp
              refine hK.out _ _ (HSF.out _ ((Fr.refl _ wq).drew)) (fun hHeld => ?_)
              clear hK K
              try simp only [Act.put, List.setIfInBounds_toArray, List.set_cons_zero, List.set_cons_succ]
              refine wpAnyH_ready (rs := [7]) (by kernel_rfl) (by simp) ?_
              refine AllReadyH.cons lot7 (fun K hK => ?_) AllReadyH.nil
              go_simp
              refine hK.out _ _ (HSF.out _ ((Fr.refl _ wq).drew.alloc (.cells #[.int .u64 (z : Int)] 37))) (fun hHeld => ?_)
              clear hK K
              try simp only [Act.put, List.setIfInBounds_toArray, List.set_cons_zero, List.set_cons_succ]
            case' gBf =>
              go_simp
              refine hK.out _ _ (HSF.out _ ((Fr.refl _ wq).drew.alloc (.cells #[.int .u64 (z : Int)] 37))) (fun hHeld => ?_)
              clear hK K
              try simp only [Act.put, List.setIfInBounds_toArray, List.set_cons_zero, List.set_cons_succ]
              refine wpAnyH_ready (rs := [1]) (by kernel_rfl) (by simp) ?_
              refine AllReadyH.cons lot1 (fun K hK => ?_) AllReadyH.nil
              go_simp
              refine hK.out _ _ (HSF.out _ ((Fr.refl _ wq).drew.alloc (.cells #[.int .u64 (z : Int)] 37))) (fun hHeld => ?_)
              clear hK K
              try simp only [Act.put, List.setIfInBounds_toArray, List.set_cons_zero, List.set_cons_succ]
            all_goals
              refine wpAnyH_ready (rs := [8]) (by kernel_rfl) (by simp) ?_
              refine AllReadyH.cons lot8 (fun K hK => ?_) AllReadyH.nil
              refine step_append_lies _ rfl (.tmp 79) (.tmp 85) 27 rfl BB 37 j0 _ 1 8 Tryd.underlying27 hj hy0 hy1 hy2 rfl (by decide) _ i (setsV (X.tags.take i)) rfl (HTR.out.drew.alloc _) ⟨wq.heap.size, 0, none⟩ 1 1 [.int .u64 (z : Int)] rfl rfl (getElem_block (w := wq.drew.alloc _) (alloc_new _ _)) (by simp [Value.oneCell']) (by decide) (by unfold maxLen; omega) (by omega) (by simp; omega) (wq.heap.size + 1) (by simp) ?_
              intro g3 cap3 wt hownt hgrowt hatt hltt
              have HBT := Lib.hid (HCB2.out wt hgrowt)
              have c257 : wt.cell? ⟨cb, 257, none⟩ = some (.slice ta2 i tcap2) := cell_of_block HBT.out (at_257 Q hq _ _)
              have f257 : wt.frozen? ⟨cb, 257, none⟩ = false := free_of_block HBT.out
              have HOWT := Lib.hid hownt
              have HGT2 := Lib.hid hgrowt
              have HATT : Hid ((Value.slice ta2 i tcap2).ownBlock = some g3 ∨ g3 = wq.heap.size + 1) := Lib.hid hatt
              have HFT := Lib.hid (show Fr (fun k => (Value.slice ta2 i tcap2).ownBlock = some k ∨ k = cb) wq wt from ((Fr.refl _ wq).drew.alloc (.cells #[.int .u64 (z : Int)] 37)).grown hgrowt (fun k hk => .inl (.inl hk)))
              clear hownt hgrowt hatt hltt
              refine hK.out _ _ (HSF.out _ HFT.out) (fun hHeld => ?_)
              clear hK K
              try simp only [Act.put, List.setIfInBounds_toArray, List.set_cons_zero, List.set_cons_succ]
              refine wpAnyH_take (i := 9) (v := ?_) lot9 (by kernel_rfl) (by kernel_rfl) (by kernel_rfl) (fun _ _ _ h => h) (Or.inl ⟨by rfl, ?_⟩) (by assumption) ?_
              rotate_left
              · (intro wv hSw; (try dsimp only at hSw); go_simp) <;> with_reducible rfl
              try simp only [Act.put, List.setIfInBounds_toArray, List.set_cons_zero, List.set_cons_succ]
              refine wpAnyH_ready (rs := [10]) (by kernel_rfl) (by simp) ?_
              refine AllReadyH.cons lot10 (fun K hK => ?_) AllReadyH.nil
              go_simp
              refine hK.out _ _ (HSF.out _ (HFT.out.setCell (p := ⟨cb, 257, none⟩) (.inl (.inr rfl)) _)) (fun hHeld => ?_)
              clear hK K
              try simp only [Act.put, List.setIfInBounds_toArray, List.set_cons_zero, List.set_cons_succ]
              refine wpAnyH_done (by kernel_rfl) ?_ _
              have htag := OutL.tag (z := z) (g2 := g3) (cap2 := cap3) HOq.out hq (wd := wq.drew.alloc (.cells #[.int .u64 (z : Int)] 37)) ((Fr.refl none_ wq).drew.alloc _) HGT2.out (by rw [HLT.out]; exact HOWT.out) (HATT.out.imp id (fun h => by omega))
              rw [HLT.out, HYT.out] at htag
              have HFt := Lib.hid (HFq.out.fresh htag.2 (by
                rintro k (hk | rfl)
                · have := (HOq.out.tgs.lt k hk).1; have := HBB1.out; omega
                · exact HCB1.out))
              have HOt := Lib.hid htag.1
              have hst : BB ≤ (wt.setCell ⟨cb, 257, none⟩ (.slice (some ⟨g3, 0, none⟩) (i + 1) cap3)).heap.size := by have := htag.2.size; omega
              clear htag c257 f257 HBT HOWT HGT2 HATT HFT
              go_wp2_with fail
              go_roundw
              case rel => exact ⟨i + 1, by omega, by go_num, ⟨_, _, _, HOt.out, HFt.out, hst⟩⟩
              case measure => simp [intOf]; omega
      case neg =>
        have h00 : ¬ (0 : Int) < (i : Int) := by omega
        rw [if_neg h00] at hff
        obtain rfl : f = 0 := by omega
        rw [Addr.add_zero'] at HC1 HC2
        clear hff
        go_wp2_with fail
        obtain ⟨wb, hwb⟩ : ∃ y, y = wr := ⟨_, rfl⟩
        subst hwb
        have HY := Lib.hid (show (X.next.take i ++ [r.map (turnI n)]) = X.next.take (i + 1) by rw [List.take_add_one, HXN.out, HGR.out]; rfl)
        have HYT := Lib.hid (show (X.tags.take i ++ [z]) = X.tags.take (i + 1) by rw [List.take_add_one, HXG.out, HGT.out]; rfl)
        obtain ⟨Y, hY⟩ : ∃ Y, r.map (turnI n) = Y := ⟨_, rfl⟩
        have hYl : Y.length = k := by rw [← hY, List.length_map]; exact HRK.out
        have HYA := Lib.hid (show ∀ (j : Nat) (t : Int), r[j]? = some t → Y[j]? = some (turnI n t) from fun j t h => by rw [← hY, List.getElem?_map, h]; rfl)
        rw [hY] at HY
        clear hY
        go_loopw [9, 10] (fun x9 x10 wr => ∃ j : Nat, j ≤ k ∧ x10 = .int .i64 j ∧ Aside (wr.ownsRow wb.heap.size 3 1 x9 j (intsV (Y.take j)) ∧ Fr none_ wb wr)) (fun _ x10 _ => k - (intOf x10).toNat)
        case atStart => exact ⟨0, Nat.zero_le _, rfl, ⟨World.ownsRow_nil _ _ _ _, Fr.refl _ _⟩⟩
        case round =>
          obtain ⟨j, hj', rfl, hrow⟩ := hrel
          have HR' := Lib.hid hrow.out.1
          have HF' := Lib.hid hrow.out.2
          have HF1 := Lib.hid (HFR.out.tr hrow.out.2)
          have hwbs := hrow.out.2.size
          clear hrow
          obtain ⟨xa, xcap, hxv, hxc⟩ := ownsRow_slice HR'.out
          subst hxv
          have hj0 : (0 : Int) ≤ (j : Int) := by omega
          have q2 : wr.cell? ⟨w.heap.size, 256, none⟩ = some (.slice (some ad) n ncap) := cell_of_block (HF1.out.at_ B3.out (fun h => h)) (by simpa using H256.out)
          have q3 : wr.cell? ad = some (.slice ra k rcap) := cell_move (FC.out.tr HF1.out) HC1.out
          by_cases hlt2 : j < k
          case pos =>
            have hjl : (j : Int) < (k : Int) := by omega
            obtain ⟨t, ht⟩ : ∃ t, r[j]? = some t := ⟨_, List.getElem?_eq_getElem (by rw [HRK.out]; exact hlt2)⟩
            have htr := HRT.out t (List.mem_of_getElem? ht)
            have HYJ := Lib.hid (show intsV (Y.take (j + 1)) = intsV (Y.take j) ++ [.int .i64 (turnI n t)] by rw [List.take_add_one, HYA.out j t ht]; exact intsV_snoc _ _)
            obtain ⟨xd, rfl, hcx⟩ := HRC.out j t ht
            have g1 := cell_move (FC.out.tr HF1.out) hcx
            clear ht hcx
            obtain ⟨i0, hi, hz0, hz1, hz2⟩ := info_parts int_info
            by_cases ht0 : 0 < t
            case pos =>
              rw [show turnI n t = (n : Int) - t from if_pos ht0] at HYJ
              go_wp2_with (at_builtin; refine wpList_append_lies _ rfl (.tmp 68) (.tmp 70) 52 rfl wb.heap.size 3 i0 _ 1 8 Tryd.underlying52 hi hz0 hz1 hz2 rfl (by decide) _ j (intsV (Y.take j)) rfl (HR'.out.alloc _) ⟨wr.heap.size, 0, none⟩ 1 1 [.int .i64 ((n : Int) - t)] rfl rfl (getElem_block (alloc_new _ _)) ?c1 (by decide) ?c2 ?c3 ?c4 (wr.heap.size + 1) (by simp) ?_)
              case c1 => simp [Value.oneCell']
              case c2 => unfold maxLen; omega
              case c3 => omega
              case c4 => first | omega | (simp; omega)
              intro g2 cap2 w9 hown9 hgrow9 hat9 hlt9
              have HNEW := Lib.hid (show w9.ownsRow wb.heap.size 3 1 (.slice (some ⟨g2, 0, none⟩) (j + 1) cap2) (j + 1) (intsV (Y.take (j + 1))) by rw [HYJ.out]; exact hown9)
              have HFN := Lib.hid ((HF'.out.alloc (.cells #[.int .i64 ((n : Int) - t)] 3)).grown hgrow9 (fun k hk => .inr (HR'.out.lt k hk).1))
              clear hown9 hgrow9 hat9 hlt9 HYJ
              go_wp2_with fail
              go_roundw
              case rel => exact ⟨j + 1, by omega, by go_num, ⟨HNEW.out, HFN.out⟩⟩
              case measure => simp [intOf]; omega
            case neg =>
              rw [show turnI n t = t from if_neg ht0] at HYJ
              go_wp2_with (at_builtin; refine wpList_append_lies _ rfl (.tmp 68) (.tmp 70) 52 rfl wb.heap.size 3 i0 _ 1 8 Tryd.underlying52 hi hz0 hz1 hz2 rfl (by decide) _ j (intsV (Y.take j)) rfl (HR'.out.alloc _) ⟨wr.heap.size, 0, none⟩ 1 1 [.int .i64 (t)] rfl rfl (getElem_block (alloc_new _ _)) ?c1 (by decide) ?c2 ?c3 ?c4 (wr.heap.size + 1) (by simp) ?_)
              case c1 => simp [Value.oneCell']
              case c2 => unfold maxLen; omega
              case c3 => omega
              case c4 => first | omega | (simp; omega)
              intro g2 cap2 w9 hown9 hgrow9 hat9 hlt9
              have HNEW := Lib.hid (show w9.ownsRow wb.heap.size 3 1 (.slice (some ⟨g2, 0, none⟩) (j + 1) cap2) (j + 1) (intsV (Y.take (j + 1))) by rw [HYJ.out]; exact hown9)
              have HFN := Lib.hid ((HF'.out.alloc (.cells #[.int .i64 (t)] 3)).grown hgrow9 (fun k hk => .inr (HR'.out.lt k hk).1))
              clear hown9 hgrow9 hat9 hlt9 HYJ
              go_wp2_with fail
              go_roundw
              case rel => exact ⟨j + 1, by omega, by go_num, ⟨HNEW.out, HFN.out⟩⟩
              case measure => simp [intOf]; omega
          case neg =>
            obtain rfl : k = j := by omega
            rw [List.take_of_length_le (by omega)] at HR'
            have hOo := HOL.out.move HF'.out
            obtain ⟨na2, ncap2, hnv, hncp⟩ := ownsRow_slice hOo.row
            obtain ⟨ta2, tcap2, htv, htcp⟩ := ownsRow_slice hOo.tgs
            have hlx : (X.next.take i).length = i := by rw [List.length_take, HXV.out.hn]; omega
            have hlt3 : (X.tags.take i).length = i := by rw [List.length_take, HXV.out.ht]; omega
            have HLX := Lib.hid hlx
            have HLT := Lib.hid hlt3
            rw [hlx] at hnv hncp
            rw [hlt3] at htv htcp
            subst hnv
            subst htv
            have HOO := Lib.hid hOo
            have e256 : wr.cell? ⟨cb, 256, none⟩ = some (.slice na2 i ncap2) := cell_of_block hOo.blk (at_256 Q hq _ _)
            obtain ⟨i0, hi, hz0, hz1, hz2⟩ := info_parts row_info
            have HNR := Lib.hid (show wr.ownsRow BB 52 1 (.slice na2 i ncap2) i vals by have h1 := hOo.row; rw [hlx] at h1; exact h1)
            have HCB := Lib.hid (show ∀ (wn : World), (wr.alloc (.cells #[.slice xa k xcap] 52)).grownBy wn (Value.slice na2 i ncap2).ownBlock → wn.heap[cb]? = some (.cells (Q ++ [Value.slice na2 i ncap2, Value.slice ta2 i tcap2]).toArray 29 (0, 0)) from fun wn hg =>
              (((Fr.refl _ wr).alloc _).grown hg (fun k hk => .inl hk) : Fr (fun k => (Value.slice na2 i ncap2).ownBlock = some k) wr wn).at_ hOo.blk (row_off hOo.row hOo.blk (by decide)))
            have hbw : BB ≤ wr.heap.size := by omega
            clear hOo hlx hlt3
            go_wp2_with (at_builtin; refine wpList_append_lies _ rfl (.tmp 73) (.tmp 75) 26 rfl BB 52 i0 _ 1 24 Tryd.underlying26 hi hz0 hz1 hz2 rfl (by decide) _ i vals rfl (HNR.out.alloc _) ⟨wr.heap.size, 0, none⟩ 1 1 [.slice xa k xcap] rfl rfl (getElem_block (alloc_new _ _)) (by simp [Value.oneCell']) (by decide) (by unfold maxLen; omega) (by omega) (by first | omega | (simp; omega)) (wr.heap.size + 1) (by simp) ?_; intro g2 cap2 w9 hown9 hgrow9 hat9 hlt9; (have HB9 := Lib.hid (HCB.out w9 hgrow9)); (have c256 : w9.cell? ⟨cb, 256, none⟩ = some (.slice na2 i ncap2) := cell_of_block HB9.out (at_256 Q hq _ _)); (have f256 : w9.frozen? ⟨cb, 256, none⟩ = false := free_of_block HB9.out); (have HOW9 := Lib.hid hown9); (have HG9 := Lib.hid hgrow9); (have HA9 : Hid ((Value.slice na2 i ncap2).ownBlock = some g2 ∨ g2 = wr.heap.size + 1) := Lib.hid hat9); clear hown9 hgrow9 hat9 hlt9)
            have hput := OutL.put (row := Y) (xv := .slice xa k xcap) (g2 := g2) (cap2 := cap2) HOO.out hq (by rw [hYl]; exact ownsRow_base HR'.out hbb) (fun k hk => by simp [Value.ownBlock]) HG9.out (by rw [HLX.out]; exact HOW9.out) HA9.out
            rw [HLX.out, HY.out] at hput
            have HFq := Lib.hid (HF1.out.fresh hput.2 (by
              rintro k (hk | rfl)
              · have := (HOO.out.row.lt k hk).1; have := HBB1.out; omega
              · exact HCB1.out))
            have HOq := Lib.hid hput.1
            have hsq : wr.heap.size ≤ (w9.setCell ⟨cb, 256, none⟩ (.slice (some ⟨g2, 0, none⟩) (i + 1) cap2)).heap.size := hput.2.size
            obtain ⟨wq, hwq⟩ : ∃ q, w9.setCell ⟨cb, 256, none⟩ (.slice (some ⟨g2, 0, none⟩) (i + 1) cap2) = q := ⟨_, rfl⟩
            rw [hwq] at HFq HOq hsq ⊢
            have e1 : wq.drew.cell? ⟨w.heap.size, 257, none⟩ = some (.slice (some td) n tcap) := cell_of_block (w := wq.drew) (HFq.out.at_ B3.out (fun h => h)) (by simpa using H257.out)
            have e4 : wq.drew.cell? td = some (.int .u64 z) := cell_move (w' := wq.drew) (FC.out.tr (HFq.out.drew)) HC2.out
            have e5 : wq.drew.cell? ⟨cb, 257, none⟩ = some (.slice ta2 i tcap2) := cell_of_block (w := wq.drew) HOq.out.blk (at_257 Q hq _ _)
            have e6 : (wq.alloc (.cells #[.int .u64 (z : Int)] 37)).cell? ⟨cb, 257, none⟩ = some (.slice ta2 i tcap2) := cell_of_block ((Fr.alloc (Fr.refl none_ wq) _).at_ HOq.out.blk (fun h => h)) (at_257 Q hq _ _)
            obtain ⟨j0, hj, hy0, hy1, hy2⟩ := info_parts set_info
            have HTR := Lib.hid (show wq.ownsRow BB 37 1 (.slice ta2 i tcap2) i (setsV (X.tags.take i)) by have h1 := HOq.out.tgs; rw [HLT.out] at h1; exact h1)
            have HCB2 := Lib.hid (show ∀ (wn : World), (wq.drew.alloc (.cells #[.int .u64 (z : Int)] 37)).grownBy wn (Value.slice ta2 i tcap2).ownBlock → wn.heap[cb]? = some (.cells (Q ++ [Value.slice (some ⟨g2, 0, none⟩) (i + 1) cap2, Value.slice ta2 i tcap2]).toArray 29 (0, 0)) from fun wn hg =>
              (((Fr.refl _ wq).drew.alloc _).grown hg (fun k hk => .inl hk) : Fr (fun k => (Value.slice ta2 i tcap2).ownBlock = some k) wq wn).at_ HOq.out.blk (row_off HOq.out.tgs HOq.out.blk (by decide)))
            have hbq : BB ≤ wq.heap.size := by omega
            have HSF := Lib.hid (show ∀ (wn : World), Fr (fun k => (Value.slice ta2 i tcap2).ownBlock = some k ∨ k = cb) wq wn → (wn.cell? ⟨w.heap.size, 257, none⟩ = some (.slice (some td) n tcap) ∧ wn.cell? td = some (.int .u64 z)) from fun wn hf => by
              have g1 : Fr none_ w3 wn := HFq.out.fresh hf (by
                rintro k (hk | rfl)
                · have := (HOq.out.tgs.lt k hk).1; have := HBB1.out; omega
                · exact HCB1.out)
              exact ⟨cell_of_block (g1.at_ B3.out (fun h => h)) (by simpa using H257.out), cell_move (FC.out.tr g1) HC2.out⟩)
            clear hput hwq HB9 HNR HCB HOW9 HG9 HA9 c256 f256 e256
            go_wp2_with fail
            refine wp_region_held_drew (S := fun w' => w'.cell? ⟨w.heap.size, 257, none⟩ = some (.slice (some td) n tcap) ∧ w'.cell? td = some (.int .u64 z)) (by kernel_rfl) ⟨e1, e4⟩ (fun hHeld => ?_)
            try simp only [Act.put, List.setIfInBounds_toArray, List.set_cons_zero, List.set_cons_succ]
            refine wpAnyH_take (i := 0) (v := ?_) lot0 (by kernel_rfl) (by kernel_rfl) (by kernel_rfl) (fun _ _ _ h => h) (Or.inl ⟨by rfl, ?_⟩) (by assumption) ?_
            rotate_left
            · (intro wv hSw; (try dsimp only at hSw); obtain ⟨s1, s2⟩ := hSw; go_simp) <;> with_reducible rfl
            try simp only [Act.put, List.setIfInBounds_toArray, List.set_cons_zero, List.set_cons_succ]
            refine wpAnyH_take (i := 2) (v := ?_) lot2 (by kernel_rfl) (by kernel_rfl) (by kernel_rfl) (fun _ _ _ h => h) (Or.inl ⟨by rfl, ?_⟩) (by assumption) ?_
            rotate_left
            · (intro wv hSw; (try dsimp only at hSw); obtain ⟨s1, s2⟩ := hSw; go_simp) <;> with_reducible rfl
            try simp only [Act.put, List.setIfInBounds_toArray, List.set_cons_zero, List.set_cons_succ]
            refine wpAnyH_take (i := 3) (v := ?_) lot3 (by kernel_rfl) (by kernel_rfl) (by kernel_rfl) (fun _ _ _ h => h) (Or.inl ⟨by rfl, ?_⟩) (by assumption) ?_
            rotate_left
            · (intro wv hSw; (try dsimp only at hSw); obtain ⟨s1, s2⟩ := hSw; go_simp) <;> with_reducible rfl
            try simp only [Act.put, List.setIfInBounds_toArray, List.set_cons_zero, List.set_cons_succ]
            refine wpAnyH_take (i := 4) (v := ?_) lot4 (by kernel_rfl) (by kernel_rfl) (by kernel_rfl) (fun _ _ _ h => h) (Or.inl ⟨by rfl, ?_⟩) (by assumption) ?_
            rotate_left
            · (intro wv hSw; (try dsimp only at hSw); obtain ⟨s1, s2⟩ := hSw; go_simp) <;> with_reducible rfl
            try simp only [Act.put, List.setIfInBounds_toArray, List.set_cons_zero, List.set_cons_succ]
            refine wpAnyH_take (i := 5) (v := ?_) lot5 (by kernel_rfl) (by kernel_rfl) (by kernel_rfl) (fun _ _ _ h => h) (Or.inl ⟨by rfl, ?_⟩) (by assumption) ?_
            rotate_left
            · (intro wv hSw; (try dsimp only at hSw); obtain ⟨s1, s2⟩ := hSw; go_simp) <;> with_reducible rfl
            try simp only [Act.put, List.setIfInBounds_toArray, List.set_cons_zero, List.set_cons_succ]
            refine wpAnyH_take (i := 6) (v := ?_) lot6 (by kernel_rfl) (by kernel_rfl) (by kernel_rfl) (fun _ _ _ h => h) (Or.inl ⟨by rfl, ?_⟩) (by assumption) ?_
            rotate_left
            · (intro wv hSw; (try dsimp only at hSw); obtain ⟨s1, s2⟩ := hSw; go_simp) <;> with_reducible rfl
            try simp only [Act.put, List.setIfInBounds_toArray, List.set_cons_zero, List.set_cons_succ]
            refine wpAnyH_ready (rs := [1, 7]) (by kernel_rfl) (by simp) ?_
            refine AllReadyH.cons lot1 (fun K hK => ?gA0) (AllReadyH.cons lot7 (fun K hK => ?gB0) AllReadyH.nil)
            case' gA0 =>
              go_simp
              refine hK.out _ _ (HSF.out _ ((Fr.refl _ wq).drew)) (fun hHeld => ?_)
              clear hK K
              try simp only [Act.put, List.setIfInBounds_toArray, List.set_cons_zero, List.set_cons_succ]
              refine wpAnyH_ready (rs := [7]) (by kernel_rfl) (by simp) ?_
              refine AllReadyH.cons lot7 (fun K hK => ?_) AllReadyH.nil
              go_simp
              refine hK.out _ _ (HSF.out _ ((Fr.refl _ wq).drew.alloc (.cells #[.int .u64 (z : Int)] 37))) (fun hHeld => ?_)
              clear hK K
              try simp only [Act.put, List.setIfInBounds_toArray, List.set_cons_zero, List.set_cons_succ]
            case' gB0 =>
              go_simp
              refine hK.out _ _ (HSF.out _ ((Fr.refl _ wq).drew.alloc (.cells #[.int .u64 (z : Int)] 37))) (fun hHeld => ?_)
              clear hK K
              try simp only [Act.put, List.setIfInBounds_toArray, List.set_cons_zero, List.set_cons_succ]
              refine wpAnyH_ready (rs := [1]) (by kernel_rfl) (by simp) ?_
              refine AllReadyH.cons lot1 (fun K hK => ?_) AllReadyH.nil
              go_simp
              refine hK.out _ _ (HSF.out _ ((Fr.refl _ wq).drew.alloc (.cells #[.int .u64 (z : Int)] 37))) (fun hHeld => ?_)
              clear hK K
              try simp only [Act.put, List.setIfInBounds_toArray, List.set_cons_zero, List.set_cons_succ]
            all_goals
              refine wpAnyH_ready (rs := [8]) (by kernel_rfl) (by simp) ?_
              refine AllReadyH.cons lot8 (fun K hK => ?_) AllReadyH.nil
              refine step_append_lies _ rfl (.tmp 79) (.tmp 85) 27 rfl BB 37 j0 _ 1 8 Tryd.underlying27 hj hy0 hy1 hy2 rfl (by decide) _ i (setsV (X.tags.take i)) rfl (HTR.out.drew.alloc _) ⟨wq.heap.size, 0, none⟩ 1 1 [.int .u64 (z : Int)] rfl rfl (getElem_block (w := wq.drew.alloc _) (alloc_new _ _)) (by simp [Value.oneCell']) (by decide) (by unfold maxLen; omega) (by omega) (by simp; omega) (wq.heap.size + 1) (by simp) ?_
              intro g3 cap3 wt hownt hgrowt hatt hltt
              have HBT := Lib.hid (HCB2.out wt hgrowt)
              have c257 : wt.cell? ⟨cb, 257, none⟩ = some (.slice ta2 i tcap2) := cell_of_block HBT.out (at_257 Q hq _ _)
              have f257 : wt.frozen? ⟨cb, 257, none⟩ = false := free_of_block HBT.out
              have HOWT := Lib.hid hownt
              have HGT2 := Lib.hid hgrowt
              have HATT : Hid ((Value.slice ta2 i tcap2).ownBlock = some g3 ∨ g3 = wq.heap.size + 1) := Lib.hid hatt
              have HFT := Lib.hid (show Fr (fun k => (Value.slice ta2 i tcap2).ownBlock = some k ∨ k = cb) wq wt from ((Fr.refl _ wq).drew.alloc (.cells #[.int .u64 (z : Int)] 37)).grown hgrowt (fun k hk => .inl (.inl hk)))
              clear hownt hgrowt hatt hltt
              refine hK.out _ _ (HSF.out _ HFT.out) (fun hHeld => ?_)
              clear hK K
              try simp only [Act.put, List.setIfInBounds_toArray, List.set_cons_zero, List.set_cons_succ]
              refine wpAnyH_take (i := 9) (v := ?_) lot9 (by kernel_rfl) (by kernel_rfl) (by kernel_rfl) (fun _ _ _ h => h) (Or.inl ⟨by rfl, ?_⟩) (by assumption) ?_
              rotate_left
              · (intro wv hSw; (try dsimp only at hSw); go_simp) <;> with_reducible rfl
              try simp only [Act.put, List.setIfInBounds_toArray, List.set_cons_zero, List.set_cons_succ]
              refine wpAnyH_ready (rs := [10]) (by kernel_rfl) (by simp) ?_
              refine AllReadyH.cons lot10 (fun K hK => ?_) AllReadyH.nil
              go_simp
              refine hK.out _ _ (HSF.out _ (HFT.out.setCell (p := ⟨cb, 257, none⟩) (.inl (.inr rfl)) _)) (fun hHeld => ?_)
              clear hK K
              try simp only [Act.put, List.setIfInBounds_toArray, List.set_cons_zero, List.set_cons_succ]
              refine wpAnyH_done (by kernel_rfl) ?_ _
              have htag := OutL.tag (z := z) (g2 := g3) (cap2 := cap3) HOq.out hq (wd := wq.drew.alloc (.cells #[.int .u64 (z : Int)] 37)) ((Fr.refl none_ wq).drew.alloc _) HGT2.out (by rw [HLT.out]; exact HOWT.out) (HATT.out.imp id (fun h => by omega))
              rw [HLT.out, HYT.out] at htag
              have HFt := Lib.hid (HFq.out.fresh htag.2 (by
                rintro k (hk | rfl)
                · have := (HOq.out.tgs.lt k hk).1; have := HBB1.out; omega
                · exact HCB1.out))
              have HOt := Lib.hid htag.1
              have hst : BB ≤ (wt.setCell ⟨cb, 257, none⟩ (.slice (some ⟨g3, 0, none⟩) (i + 1) cap3)).heap.size := by have := htag.2.size; omega
              clear htag c257 f257 HBT HOWT HGT2 HATT HFT
              go_wp2_with fail
              go_roundw
              case rel => exact ⟨i + 1, by omega, by go_num, ⟨_, _, _, HOt.out, HFt.out, hst⟩⟩
              case measure => simp [intOf]; omega
    case neg =>
      obtain rfl : i = n := by omega
      have hil : ¬ (i : Int) < (i : Int) := by omega
      rw [List.take_of_length_le (by rw [HXV.out.hn]; exact Nat.le_refl _), List.take_of_length_le (by rw [HXV.out.ht]; exact Nat.le_refl _)] at HOL
      have BR := Lib.hid (HFR.out.at_ B3.out (fun h => h))
      go_wp2_with (refine wpList_load_row rfl 29 (.tmp 1) rfl w.heap.size 29 C _ rfl BR.out Tryd.underlying29 rfl (by rw [hz]; exact dfa_info) ?_)
      refine (least_yes D _ _ _ _ (HD0.out.move (FC.out.tr HFR.out)) HDV.out HV.out (by omega) (by omega) HTG.out (HP.out.move (FC.out.tr HFR.out))).mono ?_
      rintro e w5 ⟨v5, rfl, hD5, F1⟩
      obtain ⟨C5, na5, ncap5, rfl, hz5, hone5, h5⟩ := hD5.cells2
      have HD5 := Lib.hid hD5
      have hones := HOL.out.ones
      have HOC := Lib.hid HOL.out.blk
      have hzx : (Q ++ [nv, tv]).length = 258 := by simp [hq]
      have LR := laid_row w5 Tryd.zeroCells29 29 C5.toArray
      have LF := Lib.hid LR.1
      have LB := Lib.hid LR.2
      have FX := Lib.hid (F1.tr LF.out)
      have BX := Lib.hid (FX.out.at_ HOC.out (fun h => h))
      have FE := Lib.hid ((FC.out.tr HFR.out).tr FX.out)
      have D5 := Lib.hid (HD5.out.move LF.out)
      have DX := Lib.hid (OutL.dfa HOL.out HXV.out (by omega) (by omega) (by rw [HXC.out]; exact HLEN.out) (by rw [HXC.out]; exact HQ.out) FX.out)
      clear F1 LR h5 hD5 BR HOL HFR hones HOC HD5
      go_wp2_with (first
        | (refine wpList_store_row rfl 29 (.tmp 12) (.tmp 91) rfl w5.heap.size 29 Tryd.zeroCells29 C5.toArray rfl rfl (alloc_new w5 _) ?_ ?_ hone5 ?_; (rw [List.size_toArray, hz5]; exact dfa_info); (rw [zeroD_size, List.size_toArray, hz5]))
        | (refine wpList_load_row rfl 29 (.tmp 6) rfl cb 29 (Q ++ [nv, tv]) _ rfl BX.out Tryd.underlying29 rfl ?_ ?_; (rw [hzx]; exact dfa_info)))
      obtain ⟨b5, hb5⟩ : ∃ x, w5.heap.size = x := ⟨_, rfl⟩
      generalize hwc : (w5.alloc (.cells Tryd.zeroCells29 29)).setRow w5.heap.size C5.toArray = wc at *
      rw [hb5] at LB ⊢
      clear hwc LF FX BX
      refine (least_yes X _ _ _ _ DX.out HXV.out HXM.out (by omega) (by omega) HXT.out (HP.out.move FE.out)).mono ?_
      rintro e w6 ⟨v6, rfl, hD6, F1⟩
      rw [← HXL.out] at hD6
      obtain ⟨C6, na6, ncap6, rfl, hz6, hone6, h6⟩ := hD6.cells2
      have HD6 := Lib.hid hD6
      have LR := laid_row w6 Tryd.zeroCells29 29 C6.toArray
      have LF := Lib.hid LR.1
      have L6 := Lib.hid LR.2
      have FX := Lib.hid (F1.tr LF.out)
      have L5 := Lib.hid (FX.out.at_ LB.out (fun h => h))
      have E5 := Lib.hid (D5.out.move FX.out)
      have E6 := Lib.hid (HD6.out.move LF.out)
      have FG := Lib.hid (FE.out.tr FX.out)
      clear F1 LR h6 hD6 LB DX D5 FE HD6
      go_wp2_with (refine wpList_store_row rfl 29 (.tmp 14) (.tmp 96) rfl w6.heap.size 29 Tryd.zeroCells29 C6.toArray rfl rfl (alloc_new w6 _) ?_ ?_ hone6 ?_; (rw [List.size_toArray, hz6]; exact dfa_info); (rw [zeroD_size, List.size_toArray, hz6]))
      obtain ⟨b6, hb6⟩ : ∃ x, w6.heap.size = x := ⟨_, rfl⟩
      generalize hwd : (w6.alloc (.cells Tryd.zeroCells29 29)).setRow w6.heap.size C6.toArray = wd at *
      rw [hb6] at L6 ⊢
      clear hwd LF FX
      go_wp2_with fail
      refine wp_load_mid 29 _ rfl b5 0 rfl C5 _ (range_of L5.out) Tryd.underlying29 rfl (by rw [hz5]; exact dfa_info) ?_
      go_wp2_with fail
      refine wp_load_mid 29 _ rfl b6 0 rfl C6 _ (range_of L6.out) Tryd.underlying29 rfl (by rw [hz6]; exact dfa_info) ?_
      go_wp2_with fail
      refine (same_any (leastM D) (leastM D) _ _ _ E5.out E6.out (by omega) (by omega)).mono ?_
      rintro e w8 ⟨rfl, F1⟩
      rw [sameM_refl]
      have FH := Lib.hid (FG.out.tr F1)
      clear F1
      go_wp2_with fail
      go_ret
      exact ⟨rfl, FH.out⟩
end Go.Proofs.YtglflmkkecephaaDoor
