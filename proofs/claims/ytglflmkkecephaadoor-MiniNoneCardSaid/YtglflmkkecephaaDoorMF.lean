/-
  MiniNone: the walk.
-/
import Derived.Test.YtglflmkkecephaaDoorME
namespace Go.Proofs.YtglflmkkecephaaDoor
open Go.RowKit

theorem step_make_full {P : Program} (w : World) {ops : Array Oper} {o : Oper} {a : Act} {K : Act → World → Prop} {Q : Exit → Act → World → Prop} {E : Prop}
    (hg : o.guard = none) (l c : Operand) (t : TypeId) (hop : o.op = Op.makeSlice t l c)
    (base : Nat) (e : TypeId) (i : TypeInfo) (z : Value) (size : Nat) (h1 : P.underlying t = some (.slice e)) (h2 : P.info? e = some i) (h3 : i.zero = some z) (h4 : i.size = size)
    (kl kc : IntKind) (L C : Int) (n : Nat) (hl : a.eval l = .int kl L) (hc : a.eval c = .int kc C) (hL : L = (n : Int)) (hC : C = (n : Int)) (b2 : i.bytes * n ≤ 281474976710656) (b3 : n ≤ maxLen) (b4 : base ≤ w.heap.size)
    (hK : ∀ w', w'.ownsRow base e size (.slice (some ⟨w.heap.size, 0, none⟩) n n) n (madeCells z.cells (n * size)).toList → w.grownBy w' none → K (a.put o.dst (.slice (some ⟨w.heap.size, 0, none⟩) n n)) w') :
    if Region.wanted o (yielded ops a.tmps) = true then Oper.wp P o a w K Q else E := by
  have hw : Region.wanted o (yielded ops a.tmps) = true := by simp [Region.wanted, hg]
  rw [if_pos hw]
  obtain ⟨w', hrun, r1, r2⟩ := run_make_full (P := P) w base t e i z size h1 h2 h3 h4 kl kc n b2 b3 b4
  subst hL
  subst hC
  unfold Oper.wp
  simp [execOp, hop, hl, hc, hrun, Result.andThen]
  exact hK w' r1 r2
theorem rows_vals {w : World} {na : Option Addr} {l : List (List Int)} (h : ∀ j r, l[j]? = some r → ∃ ad rv, na = some ad ∧ w.cell? (ad.add j) = some rv ∧ NumsIn w rv r) (hl : 0 < l.length) :
    ∃ (ad : Addr) (vals : List Value), na = some ad ∧ vals.length = l.length ∧ (∀ (j : Nat) (u : Value), vals[j]? = some u → w.cell? (ad.add j) = some u) ∧ (∀ u ∈ vals, u.oneCell' = true) ∧ ∀ (j : Nat) (r : List Int), l[j]? = some r → ∃ u, vals[j]? = some u ∧ NumsIn w u r := by
  obtain ⟨ad, rv0, rfl, _, _⟩ := h 0 l[0] (List.getElem?_eq_getElem hl)
  have hall : ∀ j, j < l.length → ∃ u r, l[j]? = some r ∧ w.cell? (ad.add j) = some u ∧ NumsIn w u r := fun j hj => by
    obtain ⟨ad2, rv, e, h1, h2⟩ := h j l[j] (List.getElem?_eq_getElem hj)
    injection e with e
    subst e
    exact ⟨rv, l[j], List.getElem?_eq_getElem hj, h1, h2⟩
  have hat : ∀ (j : Nat) (u : Value), ((List.range l.length).map fun (j : Nat) => (w.cell? (ad.add j)).getD undef)[j]? = some u → w.cell? (ad.add j) = some u ∧ j < l.length := by
    intro j u hu
    have hj : j < l.length := by have := (List.getElem?_eq_some_iff.1 hu).1; simpa using this
    obtain ⟨v, r, _, h2, _⟩ := hall j hj
    simp [hj, h2] at hu
    exact ⟨by rw [h2, hu], hj⟩
  refine ⟨ad, (List.range l.length).map fun (j : Nat) => (w.cell? (ad.add j)).getD undef, rfl, by simp, fun j u hu => (hat j u hu).1, fun u hu => ?_, fun j r hr => ?_⟩
  · obtain ⟨j, hj⟩ := List.getElem?_of_mem hu
    obtain ⟨h1, h2⟩ := hat j u hj
    obtain ⟨v, r, _, h3, a, c, rfl, _⟩ := hall j h2
    rw [h3] at h1
    injection h1 with h1
    rw [← h1]; rfl
  · have hj := (List.getElem?_eq_some_iff.1 hr).1
    obtain ⟨v, r2, h1, h2, h3⟩ := hall j hj
    rw [h1] at hr
    injection hr with hr
    subst hr
    exact ⟨v, by simp [hj, h2], h3⟩
theorem tags_vals {w : World} {ta : Option Addr} {l : List Nat} (h : ∀ (j : Nat) (z : Nat), l[j]? = some z → ∃ ad, ta = some ad ∧ w.cell? (ad.add j) = some (.int .u64 (z : Int))) (hl : 0 < l.length) :
    ∃ ad, ta = some ad ∧ ∀ (j : Nat) (u : Value), (setsV l)[j]? = some u → w.cell? (ad.add j) = some u := by
  obtain ⟨ad, rfl, _⟩ := h 0 l[0] (List.getElem?_eq_getElem hl)
  refine ⟨ad, rfl, fun j u hu => ?_⟩
  rw [setsV, List.getElem?_map] at hu
  cases hz : l[j]? with
  | none => rw [hz] at hu; simp at hu
  | some z =>
    rw [hz] at hu
    obtain ⟨ad2, e, h2⟩ := h j z hz
    injection e with e
    subst e
    rw [h2]
    simpa using hu
theorem more_rows {w : World} {B : Nat} {nv u : Value} {vals : List Value} {l : List (List Int)} {q : List Int} {n : Nat} (h : w.ownsRow B 52 1 nv (n + 1) (vals ++ [u])) (hn : l.length = n) (hl : vals.length = n) (hr : ∀ (j : Nat) (r : List Int), l[j]? = some r → ∃ u, vals[j]? = some u ∧ NumsIn w u r) (hu : NumsIn w u q) : RowsIn w nv (l ++ [q]) := by
  obtain ⟨a, cap, e, hc⟩ := row_cell h
  refine ⟨a, cap, by rw [List.length_append, hn]; exact e, fun j r hj => ?_⟩
  by_cases hlt : j < l.length
  · rw [List.getElem?_append_left hlt] at hj
    obtain ⟨u2, h1, h2⟩ := hr j r hj
    obtain ⟨ad, h3, h4⟩ := hc j u2 (by rw [List.getElem?_append_left (by omega)]; exact h1)
    exact ⟨ad, u2, h3, h4, h2⟩
  · have hj2 := (List.getElem?_eq_some_iff.1 hj).1
    simp at hj2
    obtain rfl : j = l.length := by omega
    rw [List.getElem?_append_right (Nat.le_refl _), Nat.sub_self] at hj
    have e2 : q = r := by simpa using hj
    subst e2
    obtain ⟨ad, h3, h4⟩ := hc l.length u (by rw [List.getElem?_append_right (by omega), hl, hn, Nat.sub_self]; rfl)
    exact ⟨ad, u, h3, h4, hu⟩
theorem more_tags {w : World} {B : Nat} {tv : Value} {l : List Nat} {z n : Nat} (h : w.ownsRow B 37 1 tv (n + 1) (setsV l ++ [.int .u64 (z : Int)])) (hn : l.length = n) : SetsIn w tv (l ++ [z]) :=
  sets_in (B := B) (by rw [List.length_append, hn]; simpa [setsV] using h)
theorem made_nums {w : World} {B g k : Nat} (h : w.ownsRow B 3 1 (.slice (some ⟨g, 0, none⟩) k k) k (List.replicate k (.int .i64 0))) : NumsIn w (.slice (some ⟨g, 0, none⟩) k k) (List.replicate k 0) :=
  IntsAt.nums ⟨B, by rw [List.length_replicate]; simpa [intsV] using h⟩
theorem made_sets {w : World} {B g k : Nat} (h : w.ownsRow B 37 1 (.slice (some ⟨g, 0, none⟩) k k) k (List.replicate k (.int .u64 0))) : SetsIn w (.slice (some ⟨g, 0, none⟩) k k) (List.replicate k 0) :=
  sets_in (B := B) (by rw [List.length_replicate]; simpa [setsV] using h)

set_option maxRecDepth 100000 in
set_option maxHeartbeats 4000000 in
theorem mininone_big (D : Dfa) (v : Value) (tn : Nat) (w : World) (hD : DfaIn w v D) (htl : D.tags.length ≤ 9223372036854775807) (hl : littleM D = false) (hp : PowOk w) :
    Calls Tryd.prog 7 #[v, .int .u64 (tn : Int)] w fun e w' => e = .returned (.bool true) ∧ Fr none_ w w' := by
  have HL := Lib.hid hl
  clear hl
  obtain ⟨C, na, ta, ncap, tcap, rfl, hz, hCQ, h256, h257, hrow, htag⟩ := hD.whole
  have hone : C.toArray.all (·.oneCell') = true := by
    obtain ⟨E, e, _, h3⟩ := hD.cells
    have e2 : C = E := by injection e with e; injection e
    rw [e2]; exact h3
  have hq : (intsV D.cls).length = 256 := by rw [intsV_length, hD.len]
  have hqm : ∀ v ∈ intsV D.cls, v.oneCell' = true := fun v hv => by
    simp only [intsV, List.mem_map] at hv
    obtain ⟨m, _, rfl⟩ := hv
    rfl
  obtain ⟨Q, hQ⟩ : ∃ Q, intsV D.cls = Q := ⟨_, rfl⟩
  rw [hQ] at hq hqm hCQ
  have HQ := Lib.hid hQ
  have HCQ := Lib.hid hCQ
  have HD0 := Lib.hid hD
  have HP := Lib.hid hp
  have HROW := Lib.hid hrow
  have HTAG := Lib.hid htag
  have H256 := Lib.hid h256
  have H257 := Lib.hid h257
  have HLEN := Lib.hid hD.len
  have B0 := Lib.hid (alloc_new w (.cells C.toArray 29))
  have F0 := Lib.hid ((Fr.refl none_ w).alloc (.cells C.toArray 29))
  clear hD hp h256 h257 hrow htag hCQ hQ
  go_enter Tryd.func7, Tryd.ntmps7
  go_wp2_with fail
  refine (works6_any _ (HP.out.move F0.out)).mono ?_
  rintro e w1 ⟨rfl, F1⟩
  have B1 := Lib.hid (F1.at_ B0.out (fun h => h))
  have FA := Lib.hid (F0.out.tr F1)
  have D1 := Lib.hid (HD0.out.move FA.out)
  clear F1 B0
  go_wp2_with (refine wpList_load_row rfl 29 (.tmp 2) rfl w.heap.size 29 C _ rfl B1.out Tryd.underlying29 rfl (by rw [hz]; exact dfa_info) ?_)
  refine (little_any D _ _ D1.out htl).mono ?_
  rintro e w2 ⟨rfl, F1⟩
  rw [HL.out]
  have B2 := Lib.hid (F1.at_ B1.out (fun h => h))
  have FB := Lib.hid (FA.out.tr F1)
  clear F1 B1 D1 FA
  go_wp2_with fail
  go_ret
  exact ⟨rfl, FB.out⟩

set_option maxRecDepth 100000 in
set_option maxHeartbeats 4000000 in
theorem mininone_bad (D : Dfa) (v : Value) (tn : Nat) (w : World) (hD : DfaIn w v D) (htl : D.tags.length ≤ 9223372036854775807) (hl : littleM D = true) (hv : validM D = false) (hp : PowOk w) :
    Calls Tryd.prog 7 #[v, .int .u64 (tn : Int)] w fun e w' => e = .returned (.bool true) ∧ Fr none_ w w' := by
  have HL := Lib.hid hl
  have HV := Lib.hid hv
  clear hl hv
  obtain ⟨C, na, ta, ncap, tcap, rfl, hz, hCQ, h256, h257, hrow, htag⟩ := hD.whole
  have hone : C.toArray.all (·.oneCell') = true := by
    obtain ⟨E, e, _, h3⟩ := hD.cells
    have e2 : C = E := by injection e with e; injection e
    rw [e2]; exact h3
  have hq : (intsV D.cls).length = 256 := by rw [intsV_length, hD.len]
  have hqm : ∀ v ∈ intsV D.cls, v.oneCell' = true := fun v hv => by
    simp only [intsV, List.mem_map] at hv
    obtain ⟨m, _, rfl⟩ := hv
    rfl
  obtain ⟨Q, hQ⟩ : ∃ Q, intsV D.cls = Q := ⟨_, rfl⟩
  rw [hQ] at hq hqm hCQ
  have HQ := Lib.hid hQ
  have HCQ := Lib.hid hCQ
  have HD0 := Lib.hid hD
  have HP := Lib.hid hp
  have HROW := Lib.hid hrow
  have HTAG := Lib.hid htag
  have H256 := Lib.hid h256
  have H257 := Lib.hid h257
  have HLEN := Lib.hid hD.len
  have B0 := Lib.hid (alloc_new w (.cells C.toArray 29))
  have F0 := Lib.hid ((Fr.refl none_ w).alloc (.cells C.toArray 29))
  clear hD hp h256 h257 hrow htag hCQ hQ
  go_enter Tryd.func7, Tryd.ntmps7
  go_wp2_with fail
  refine (works6_any _ (HP.out.move F0.out)).mono ?_
  rintro e w1 ⟨rfl, F1⟩
  have B1 := Lib.hid (F1.at_ B0.out (fun h => h))
  have FA := Lib.hid (F0.out.tr F1)
  have D1 := Lib.hid (HD0.out.move FA.out)
  clear F1 B0
  go_wp2_with (refine wpList_load_row rfl 29 (.tmp 2) rfl w.heap.size 29 C _ rfl B1.out Tryd.underlying29 rfl (by rw [hz]; exact dfa_info) ?_)
  refine (little_any D _ _ D1.out htl).mono ?_
  rintro e w2 ⟨rfl, F1⟩
  rw [HL.out]
  have B2 := Lib.hid (F1.at_ B1.out (fun h => h))
  have FB := Lib.hid (FA.out.tr F1)
  clear F1 B1 D1 FA
  go_wp2_with fail
  refine wp_load_mid 29 _ rfl w.heap.size 0 rfl C _ (range_of B2.out) Tryd.underlying29 rfl (by rw [hz]; exact dfa_info) ?_
  go_wp2_with fail
  refine (valid_any D _ _ (HD0.out.move FB.out)).mono ?_
  rintro e w3 ⟨rfl, F1⟩
  rw [HV.out]
  have B3 := Lib.hid (F1.at_ B2.out (fun h => h))
  have FC := Lib.hid (FB.out.tr F1)
  clear F1 B2 FB
  go_wp2_with fail
  go_ret
  exact ⟨rfl, FC.out⟩

set_option maxRecDepth 100000 in
set_option maxHeartbeats 4000000 in
theorem mininone_good (D : Dfa) (v : Value) (tn : Nat) (w : World) (hD : DfaIn w v D) (htl : D.tags.length ≤ 9223372036854775807) (htg : ∀ t ∈ D.tags, t < 18446744073709551616) (htn : tn < 18446744073709551616) (hl : littleM D = true) (hv : validM D = true) (hp : PowOk w) :
    Calls Tryd.prog 7 #[v, .int .u64 (tn : Int)] w fun e w' => e = .returned (.bool true) ∧ Fr none_ w w' := by
  have HL := Lib.hid hl
  have HV := Lib.hid hv
  have hdv := valid_dv hv
  obtain ⟨hn30, ht30, hr20⟩ := little_spec.1 hl
  have hk20 : (D.next.getD 0 []).length ≤ 20 := by
    have hpos := hdv.pos
    rw [List.getD, List.getElem?_eq_getElem hpos]
    exact hr20 _ (List.getElem_mem hpos)
  obtain ⟨n, hn⟩ : ∃ n, D.next.length = n := ⟨_, rfl⟩
  obtain ⟨k, hk⟩ : ∃ k, (D.next.getD 0 []).length = k := ⟨_, rfl⟩
  rw [hn, hk] at hdv
  rw [hn] at hn30
  rw [hk] at hk20
  have HN := Lib.hid hn
  have HDV := Lib.hid hdv
  have hnpos := hdv.pos
  have HTG := Lib.hid htg
  have HBL := Lib.hid (bare_least hdv (by omega))
  have HBV := Lib.hid (bareD_dv hdv)
  have HBM := Lib.hid (bareD_dv hdv).valid
  have HBT := Lib.hid (show ∀ t ∈ (bareD D).tags, t < 18446744073709551616 from fun t ht => by rw [(List.mem_replicate.1 ht).2]; decide)
  have HXV := Lib.hid (moreD_dv hdv tn)
  have HXM := Lib.hid (moreD_dv hdv tn).valid
  have HXL := Lib.hid (more_least hdv tn)
  have HXT := Lib.hid (show ∀ t ∈ (moreD D k tn).tags, t < 18446744073709551616 from fun t ht => by
    rcases List.mem_append.1 ht with h | h
    · exact htg t h
    · obtain rfl : t = tn := by simpa using h
      exact htn)
  obtain ⟨hm1, hm2, hm3, hm4, hm5⟩ := least_len hdv (by omega)
  obtain ⟨r0, hr0⟩ : ∃ r, D.next[0]? = some r := ⟨_, List.getElem?_eq_getElem (by rw [hn]; exact hnpos)⟩
  have hrk : r0.length = k := (hdv.row r0 (List.mem_of_getElem? hr0)).1
  have HR0 := Lib.hid hr0
  have HRK := Lib.hid hrk
  clear hl hv htg hr20 hdv hm1 hm2 hm4 hm5 hn hk htn hr0 hrk
  obtain ⟨C, na, ta, ncap, tcap, rfl, hz, hCQ, h256, h257, hrow, htag⟩ := hD.whole
  have hone : C.toArray.all (·.oneCell') = true := by
    obtain ⟨E, e, _, h3⟩ := hD.cells
    have e2 : C = E := by injection e with e; injection e
    rw [e2]; exact h3
  have hq : (intsV D.cls).length = 256 := by rw [intsV_length, hD.len]
  have hqm : ∀ v ∈ intsV D.cls, v.oneCell' = true := fun v hv => by
    simp only [intsV, List.mem_map] at hv
    obtain ⟨m, _, rfl⟩ := hv
    rfl
  obtain ⟨Q, hQ⟩ : ∃ Q, intsV D.cls = Q := ⟨_, rfl⟩
  rw [hQ] at hq hqm hCQ
  have HQ := Lib.hid hQ
  have HCQ := Lib.hid hCQ
  have HD0 := Lib.hid hD
  have HP := Lib.hid hp
  have HROW := Lib.hid hrow
  have HTAG := Lib.hid htag
  have H256 := Lib.hid h256
  have H257 := Lib.hid h257
  have HLEN := Lib.hid hD.len
  have B0 := Lib.hid (alloc_new w (.cells C.toArray 29))
  have F0 := Lib.hid ((Fr.refl none_ w).alloc (.cells C.toArray 29))
  clear hD hp h256 h257 hrow htag hCQ hQ
  go_enter Tryd.func7, Tryd.ntmps7
  go_wp2_with fail
  refine (works6_any _ (HP.out.move F0.out)).mono ?_
  rintro e w1 ⟨rfl, F1⟩
  have B1 := Lib.hid (F1.at_ B0.out (fun h => h))
  have FA := Lib.hid (F0.out.tr F1)
  have D1 := Lib.hid (HD0.out.move FA.out)
  clear F1 B0
  go_wp2_with (refine wpList_load_row rfl 29 (.tmp 2) rfl w.heap.size 29 C _ rfl B1.out Tryd.underlying29 rfl (by rw [hz]; exact dfa_info) ?_)
  refine (little_any D _ _ D1.out htl).mono ?_
  rintro e w2 ⟨rfl, F1⟩
  rw [HL.out]
  have B2 := Lib.hid (F1.at_ B1.out (fun h => h))
  have FB := Lib.hid (FA.out.tr F1)
  clear F1 B1 D1 FA
  go_wp2_with fail
  refine wp_load_mid 29 _ rfl w.heap.size 0 rfl C _ (range_of B2.out) Tryd.underlying29 rfl (by rw [hz]; exact dfa_info) ?_
  go_wp2_with fail
  refine (valid_any D _ _ (HD0.out.move FB.out)).mono ?_
  rintro e w3 ⟨rfl, F1⟩
  rw [HV.out]
  have B3 := Lib.hid (F1.at_ B2.out (fun h => h))
  have FC := Lib.hid (FB.out.tr F1)
  clear F1 B2 FB
  rw [HN.out] at H256
  rw [HDV.out.ht] at H257
  have HTL := Lib.hid HDV.out.ht
  have hCn : C = Q ++ [.slice na n ncap, .slice ta n tcap] := by
    have h1 := HCQ.out
    rw [HN.out, HTL.out] at h1
    exact h1
  obtain ⟨ad, vals, rfl, hvl, hvc, hvo, hvr⟩ := rows_vals HROW.out (by rw [HN.out]; exact hnpos)
  obtain ⟨td, rfl, htc⟩ := tags_vals HTAG.out (by rw [HTL.out]; exact hnpos)
  rw [HN.out] at hvl
  have HVC := Lib.hid hvc
  have HVO := Lib.hid hvo
  have HVR := Lib.hid hvr
  have HTC := Lib.hid htc
  have HCN := Lib.hid hCn
  have HRI := Lib.hid (show RowsIn w (.slice (some ad) n ncap) D.next from ⟨some ad, ncap, by rw [HN.out], HROW.out⟩)
  obtain ⟨ad9, rv, e9, hc1, ra, rcap, rfl, hrc⟩ := HROW.out 0 r0 HR0.out
  injection e9 with e9
  subst e9
  rw [HRK.out, Addr.add_zero'] at hc1
  have HC1 := Lib.hid hc1
  clear hvc hvo hvr htc hCn hc1 hrc
  have LR := laid_row w3 Tryd.zeroCells29 29 C.toArray
  have LF := Lib.hid LR.1
  have LB := Lib.hid LR.2
  have B4 := Lib.hid (LF.out.at_ B3.out (fun h => h))
  have c257 : ((w3.alloc (.cells Tryd.zeroCells29 29)).setRow w3.heap.size C.toArray).cell? ⟨w.heap.size, 257, none⟩ = some (.slice (some td) n tcap) := cell_of_block B4.out (by simpa using H257.out)
  have HC257 := Lib.hid c257
  clear c257
  obtain ⟨j0, hj, hy0, hy1, hy2⟩ := info_parts set_info
  go_wp2_with (first
    | (refine wpList_load_row rfl 29 (.tmp 2) rfl w.heap.size 29 C _ rfl B3.out Tryd.underlying29 rfl ?_ ?_; (rw [hz]; exact dfa_info))
    | (refine wpList_store_row rfl 29 (.tmp 7) (.tmp 29) rfl w3.heap.size 29 Tryd.zeroCells29 C.toArray rfl rfl (alloc_new w3 _) ?_ ?_ hone ?_; (rw [List.size_toArray, hz]; exact dfa_info); (rw [zeroD_size, List.size_toArray, hz]); (have c257 := HC257.out))
    | (refine wpList_make_full _ rfl (.tmp 32) (.tmp 32) 27 rfl 0 37 j0 _ 1 Tryd.underlying27 hj hy0 hy1 .i64 .i64 _ _ n rfl rfl rfl rfl (by rw [hy2]; omega) (by unfold maxLen; omega) (Nat.zero_le _) ?_))
  obtain ⟨b7, hb7⟩ : ∃ x, w3.heap.size = x := ⟨_, rfl⟩
  obtain ⟨w4, hw4⟩ : ∃ x, (w3.alloc (.cells Tryd.zeroCells29 29)).setRow w3.heap.size C.toArray = x := ⟨_, rfl⟩
  rw [hw4] at LF LB B4 HC257 ⊢
  rw [hb7] at LB ⊢
  have HB7 := Lib.hid (show w3.heap.size ≤ b7 by omega)
  have hsz4 : w4.heap.size = b7 + 1 := by rw [← hw4, setRow_size, ← hb7]
  clear hw4 hb7 LR HC257
  intro w5 hmk hgrow
  rw [toList_madeCells_one] at hmk
  try clear c257
  obtain ⟨g5, hg5⟩ : ∃ x, b7 + 1 = x := ⟨_, rfl⟩
  rw [hg5] at hmk
  rw [hg5]
  have G5 := Lib.hid ((Fr.refl none_ w4).grown hgrow (fun k h => by cases h))
  have L5 := Lib.hid (G5.out.at_ LB.out (fun h => h))
  have HMK := Lib.hid hmk
  have c1 : w5.cell? ⟨b7, 257, none⟩ = some (.slice (some td) n tcap) := cell_of_block L5.out (by simpa using H257.out)
  have c2 : w5.frozen? ⟨b7, 257, none⟩ = false := free_of_block L5.out
  clear hmk hgrow hg5 hsz4 LB
  go_wp2_with fail
  have hst := heap_setCell w5 L5.out 257 (.slice (some ⟨g5, 0, none⟩) n n)
  rw [HCN.out, set_257 Q hq] at hst
  have S5 := Lib.hid hst
  have K5 := Lib.hid ((Fr.refl (fun k => k = b7) w5).setCell (p := ⟨b7, 257, none⟩) (.inl rfl) (.slice (some ⟨g5, 0, none⟩) n n))
  have FS := Lib.hid ((LF.out.tr G5.out).fresh K5.out (fun k hk => by have := HB7.out; have h2 : k = b7 := hk; omega))
  have HMS := Lib.hid (row_keep HMK.out K5.out (fun k hk e => by
    have e : k = b7 := e
    subst e
    exact row_off HMK.out L5.out (by decide) hk))
  obtain ⟨w6, hw6⟩ : ∃ x, w5.setCell ⟨b7, 257, none⟩ (.slice (some ⟨g5, 0, none⟩) n n) = x := ⟨_, rfl⟩
  rw [hw6] at S5 FS HMS ⊢
  have FD := Lib.hid (FC.out.tr FS.out)
  have B6 := Lib.hid (FS.out.at_ B3.out (fun h => h))
  have DB := Lib.hid (show DfaIn w6 (.agg (Q ++ [Value.slice (some ad) n ncap, Value.slice (some ⟨g5, 0, none⟩) n n]).toArray) (bareD D) from
    ⟨⟨_, _, by rw [dfaC, ← HQ.out]; rfl, HRI.out.move FD.out, by show SetsIn w6 _ (List.replicate D.tags.length 0); rw [HTL.out]; exact made_sets HMS.out⟩, HLEN.out, HD0.out.small⟩)
  have hz6 : (Q ++ [Value.slice (some ad) n ncap, Value.slice (some ⟨g5, 0, none⟩) n n]).length = 258 := by simp [hq]
  clear hst K5 G5 L5 HMK HMS c1 c2 hw6 LF B4 FS
  refine wp_load_mid 29 _ rfl b7 0 rfl (Q ++ [Value.slice (some ad) n ncap, Value.slice (some ⟨g5, 0, none⟩) n n]) _ (range_of S5.out) Tryd.underlying29 rfl (by rw [hz6]; exact dfa_info) ?_
  go_wp2_with fail
  refine (least_yes (bareD D) _ _ _ _ DB.out HBV.out HBM.out (by omega) (by omega) HBT.out (HP.out.move FD.out)).mono ?_
  rintro e w7 ⟨v7, rfl, hD7, F1⟩
  rw [HBL.out] at hD7
  obtain ⟨C7, na7, ta7, ncap7, tcap7, rfl, hz7, hCQ7, h7, ht7, hrow7, htag7⟩ := hD7.whole
  obtain ⟨a7, rv7, rfl, hc7, ra7, rcap7, rfl, hrc7⟩ := hrow7 0 _ rfl
  obtain ⟨d7, rfl, hd7⟩ := htag7 0 0 rfl
  have hone7 : C7.toArray.all (·.oneCell') = true := by
    obtain ⟨E, e, _, h3⟩ := hD7.cells
    have e2 : C7 = E := by injection e with e; injection e
    rw [e2]; exact h3
  rw [List.length_replicate, Addr.add_zero'] at hc7
  rw [Addr.add_zero'] at hd7
  have HC7 := Lib.hid hc7
  have HD7 := Lib.hid hd7
  have HRC7 := Lib.hid hrc7
  have H7 := Lib.hid (show C7[256]? = some (.slice (some a7) 1 ncap7) from h7)
  have HT7 := Lib.hid (show C7[257]? = some (.slice (some d7) 1 tcap7) from ht7)
  have LR := laid_row w7 Tryd.zeroCells29 29 C7.toArray
  have LF := Lib.hid LR.1
  have LB := Lib.hid LR.2
  have FE := Lib.hid (FD.out.tr (F1.tr LF.out))
  have B7 := Lib.hid ((F1.tr LF.out).at_ B6.out (fun h => h))
  clear F1 LR hc7 hd7 hrc7 h7 ht7 hrow7 htag7 hD7 DB S5 B6 hz6 hCQ7
  have HD1 := Lib.hid (show ((w7.alloc (.cells Tryd.zeroCells29 29)).setRow w7.heap.size C7.toArray).cell? ⟨w7.heap.size, 256, none⟩ = some (.slice (some a7) 1 ncap7) from cell_of_block LB.out (by simpa using H7.out))
  have HD2 := Lib.hid (show ((w7.alloc (.cells Tryd.zeroCells29 29)).setRow w7.heap.size C7.toArray).cell? ⟨w7.heap.size, 257, none⟩ = some (.slice (some d7) 1 tcap7) from cell_of_block LB.out (by simpa using HT7.out))
  have HD3 := Lib.hid (show ((w7.alloc (.cells Tryd.zeroCells29 29)).setRow w7.heap.size C7.toArray).cell? d7 = some (.int .u64 0) from cell_move LF.out HD7.out)
  have HD4 := Lib.hid (show ((w7.alloc (.cells Tryd.zeroCells29 29)).setRow w7.heap.size C7.toArray).cell? a7 = some (.slice ra7 k rcap7) from cell_move LF.out HC7.out)
  go_wp2_with (refine wpList_store_row rfl 29 (.tmp 8) (.tmp 38) rfl w7.heap.size 29 Tryd.zeroCells29 C7.toArray rfl rfl (alloc_new w7 _) ?_ ?_ hone7 ?_; (rw [List.size_toArray, hz7]; exact dfa_info); (rw [zeroD_size, List.size_toArray, hz7]); (have d1 := HD1.out); (have d2 := HD2.out); (have d3 := HD3.out))
  obtain ⟨b8, hb8⟩ : ∃ x, w7.heap.size = x := ⟨_, rfl⟩
  obtain ⟨w8, hw8⟩ : ∃ x, (w7.alloc (.cells Tryd.zeroCells29 29)).setRow w7.heap.size C7.toArray = x := ⟨_, rfl⟩
  rw [hw8] at LF LB FE B7 HD1 HD4 ⊢
  rw [hb8] at LB HD1 ⊢
  try clear d1
  try clear d2
  try clear d3
  have d1 := HD1.out
  have d4 := HD4.out
  clear hw8 hb8 HD2 HD3 HD1 HD4
  go_loopw [10] (fun x10 wr => ∃ i : Nat, i ≤ k ∧ x10 = .int .i64 i ∧ Aside (wr = w8)) (fun x10 _ => k - (intOf x10).toNat)
  case atStart => exact ⟨0, Nat.zero_le _, rfl, rfl⟩
  case round =>
    obtain ⟨i, hik, rfl, hw'⟩ := hrel
    obtain rfl := hw'.out
    clear hw'
    have hi0 : (0 : Int) ≤ (i : Int) := by omega
    by_cases hlt : i < k
    case pos =>
      have hil : (i : Int) < (k : Int) := by omega
      obtain ⟨xd, rfl, hx⟩ := HRC7.out i (-1) (by simp [hlt])
      have d5 := cell_move LF.out hx
      clear hx
      go_wp2_with fail
      go_roundw
      case rel => exact ⟨i + 1, by omega, by go_num, trivial⟩
      case measure => simp [intOf]; omega
    case neg =>
      obtain rfl : i = k := by omega
      have hil : ¬ (i : Int) < (i : Int) := by omega
      go_wp2_with (first
        | (refine wpList_load_row rfl 29 (.tmp 2) rfl w.heap.size 29 C _ rfl B7.out Tryd.underlying29 rfl ?_ ?_; (rw [hz]; exact dfa_info))
        | (refine wpList_store_row rfl 29 (.tmp 11) (.tmp 72) rfl wr.heap.size 29 Tryd.zeroCells29 C.toArray rfl rfl (alloc_new wr _) ?_ ?_ hone ?_; (rw [List.size_toArray, hz]; exact dfa_info); (rw [zeroD_size, List.size_toArray, hz])))
      have LR := laid_row wr Tryd.zeroCells29 29 C.toArray
      have LG := Lib.hid LR.1
      have L9 := Lib.hid LR.2
      have B9 := Lib.hid (LG.out.at_ B7.out (fun h => h))
      have F9 := Lib.hid (FE.out.tr LG.out)
      obtain ⟨cb, hcb⟩ : ∃ x, wr.heap.size = x := ⟨_, rfl⟩
      obtain ⟨w9, hw9⟩ : ∃ x, (wr.alloc (.cells Tryd.zeroCells29 29)).setRow wr.heap.size C.toArray = x := ⟨_, rfl⟩
      rw [hw9] at LG L9 B9 F9 ⊢
      rw [hcb] at L9 ⊢
      have HCB := Lib.hid (show w.heap.size < cb by have := lt_of_block B7.out; omega)
      clear hw9 hcb LR d1 d4 B7 LF LB LG FE
      have hcb9 := lt_of_block L9.out
      obtain ⟨BB, hBB⟩ : ∃ x, w9.heap.size = x := ⟨_, rfl⟩
      rw [hBB] at hcb9
      have hBw : w.heap.size ≤ BB := by have := HCB.out; omega
      have HSX := Lib.hid (show ∀ (wn : World), Fr none_ w9 wn → (wn.cell? ⟨w.heap.size, 256, none⟩ = some (.slice (some ad) n ncap) ∧ wn.cell? ad = some (.slice ra i rcap)) from fun wn hf =>
        ⟨cell_of_block (hf.at_ B9.out (fun h => h)) (by simpa using H256.out), cell_move (F9.out.tr hf) HC1.out⟩)
      have HNW := Lib.hid (show ∀ (wn : World), Fr none_ w9 wn → ∀ (j : Nat) (u : Value), vals[j]? = some u → wn.cell? (ad.add j) = some u from fun wn hf j u hu => cell_move (F9.out.tr hf) (HVC.out j u hu))
      have HLB := Lib.hid (show ∀ (wn : World), Fr none_ w9 wn → wn.heap[cb]? = some (.cells C.toArray 29 (0, 0)) from fun wn hf => hf.at_ L9.out (fun h => h))
      obtain ⟨i0, hi, hz0, hz1, hz2⟩ := info_parts row_info
      obtain ⟨m0, hm, hm0, hm1, hm2⟩ := info_parts int_info
      have e1 := (HSX.out _ (Fr.refl none_ w9).drew).1
      have e2 := (HSX.out _ (Fr.refl none_ w9).drew).2
      go_wp2_with fail
      rename_i K0 hK0
      have key : ∀ (gA g3 cap3 gm gb g4 cap4 : Nat) (y2 : World), Hid (Fr none_ w y2) → Hid (y2.heap[w.heap.size]? = some (Obj.cells C.toArray 29 (0, 0))) → Hid (y2.heap[cb]? = some (Obj.cells (Q ++ [Value.slice (some ⟨g4, 0, none⟩) (n + 1) cap4, Value.slice (some td) n tcap]).toArray 29 (0, 0))) → Hid (y2.ownsRow BB 52 1 (Value.slice (some ⟨g4, 0, none⟩) (n + 1) cap4) (n + 1) (vals ++ [Value.slice (some ⟨gm, 0, none⟩) i i])) → Hid (y2.ownsRow 0 3 1 (Value.slice (some ⟨gm, 0, none⟩) i i) i (List.replicate i (Value.int IntKind.i64 0))) → K0 { tmps := #[Value.agg C.toArray, Value.int IntKind.u64 ↑tn, Value.pointer (some { block := w.heap.size, off := 0 }), undef, u4, Value.bool true, Value.bool true, Value.pointer (some { block := b7, off := 0 }), Value.pointer (some { block := b8, off := 0 }), Value.int IntKind.i64 0, Value.int IntKind.i64 ↑i, Value.pointer (some { block := cb, off := 0 }), undef, undef, undef, undef, Value.bool true, Value.bool true, Value.bool false, Value.agg C.toArray, Value.bool true, Value.bool true, Value.bool false, Value.bool false, Value.agg C.toArray, Value.bool true, Value.bool false, Value.bool false, undef, Value.agg C.toArray, Value.pointer (some { block := w.heap.size, off := 257 }), Value.slice (some td) n tcap, Value.int IntKind.i64 ↑n, Value.slice (some { block := g5, off := 0 }) n n, Value.pointer (some { block := b7, off := 257 }), Value.tuple #[Value.agg C7.toArray, Value.int IntKind.i64 0], Value.agg (Q ++ [Value.slice (some ad) n ncap, Value.slice (some { block := g5, off := 0 }) n n]).toArray, Value.tuple #[Value.agg C7.toArray, Value.int IntKind.i64 0], Value.agg C7.toArray, Value.int IntKind.i64 0, Value.int IntKind.i64 0, Value.bool false, Value.bool false, Value.pointer (some { block := b8, off := 256 }), Value.slice (some a7) 1 ncap7, Value.int IntKind.i64 1, Value.bool false, Value.bool false, Value.bool false, Value.pointer (some { block := b8, off := 257 }), Value.slice (some d7) 1 tcap7, Value.pointer (some d7), Value.int IntKind.u64 0, Value.bool false, Value.bool false, Value.int IntKind.i64 ↑i, Value.pointer (some { block := b8, off := 256 }), Value.slice (some a7) 1 ncap7, Value.pointer (some a7), Value.slice ra7 i rcap7, Value.int IntKind.i64 ↑i, Value.bool false, u62, u63, u64, u65, u66, u67, u68, u69, u70, u71, Value.agg C.toArray, Value.slice (some { block := gA, off := 0 }) 0 0, Value.pointer (some { block := w.heap.size, off := 256 }), Value.slice (some ad) n ncap, Value.slice (some { block := g3, off := 0 }) n cap3, Value.pointer (some { block := w.heap.size, off := 256 }), Value.slice (some ad) n ncap, Value.pointer (some ad), Value.slice ra i rcap, Value.int IntKind.i64 ↑i, Value.slice (some { block := gm, off := 0 }) i i, Value.slice (some { block := gb, off := 0 }) 1 1, Value.slice (some { block := g4, off := 0 }) (n + 1) cap4, Value.pointer (some { block := cb, off := 256 }), undef, undef, undef, undef, undef, undef, undef, undef, undef, undef, undef, undef, undef, undef, undef, undef, undef, undef, undef, undef, undef, undef, undef, undef, undef, undef, undef, undef, undef, undef, undef, undef], defers := [] } y2 := by
        intro gA g3 cap3 gm gb g4 cap4 y2 FYW HBOX HSZ HO3 HM3
        refine hK0 _ _ ?_
        clear hK0 HSX HNW HLB e1 e2 i0 hi hz0 hz1 hz2 m0 hm hm0 hm1 hm2
        have hBW : w.heap.size ≤ y2.heap.size := FYW.out.size
        have c257 : (y2.alloc (.cells #[] 37)).cell? ⟨w.heap.size, 257, none⟩ = some (.slice (some td) n tcap) := cell_of_block (((Fr.refl none_ y2).alloc _).at_ HBOX.out (fun h => h)) (by simpa using H257.out)
        obtain ⟨B2, hB2⟩ : ∃ x, y2.heap.size = x := ⟨_, rfl⟩
        have HE0 := Lib.hid (show (y2.alloc (.cells #[] 37)).ownsRow B2 37 1 (.slice (some ⟨y2.heap.size, 0, none⟩) 0 0) 0 [] from ⟨rfl, .inr ⟨y2.heap.size, 0, #[], rfl, by omega, alloc_new y2 _, Nat.le_refl _, by decide, rfl, rfl⟩⟩)
        have hB2' : B2 ≤ y2.heap.size := by omega
        have hBW2 : w.heap.size ≤ B2 := by omega
        clear hB2
        have HNT := Lib.hid (show ∀ (j : Nat) (u : Value), (setsV D.tags)[j]? = some u → (y2.alloc (.cells #[] 37)).cell? (td.add j) = some u from fun j u hu => cell_move (FYW.out.alloc _) (HTC.out j u hu))
        have hsl : (setsV D.tags).length = n := by rw [setsV, List.length_map]; exact HTL.out
        have hso : ∀ u ∈ setsV D.tags, u.oneCell' = true := fun u hu => by
          simp only [setsV, List.mem_map] at hu
          obtain ⟨m, _, rfl⟩ := hu
          rfl
        have HSO := Lib.hid hso
        clear hso
        go_wp2_with (at_builtin; refine wpList_append_lies _ rfl (.tmp 86) (.tmp 88) 27 rfl B2 37 j0 _ 1 8 Tryd.underlying27 hj hy0 hy1 hy2 rfl (by decide) _ 0 [] rfl HE0.out td n tcap (setsV D.tags) rfl (by rw [hsl, Nat.mul_one]) HNT.out HSO.out hnpos (by unfold maxLen; omega) (by omega) (by simp; omega) _ rfl ?_)
        intro g5b cap5 y3 hown hgrow hat hlt
        try simp only [Nat.zero_add, List.nil_append] at hown
        have F3 := Lib.hid ((((Fr.refl none_ y2).alloc (.cells #[] 37)).grown hgrow (fun k hk => .inr (by have h2 : y2.heap.size = k := Option.some.inj hk; omega))))
        have HO4 := Lib.hid hown
        have hB3 : B2 ≤ y3.heap.size := by have := F3.out.size; omega
        clear c257 HE0 HNT HSO hown hgrow hat hlt
        try simp only [Nat.zero_add]
        have HC6 := Lib.hid (show ∀ (wn : World), Fr (fun k => (Value.slice (some ⟨g5b, 0, none⟩) n cap5).ownBlock = some k) y3 wn → wn.heap[cb]? = some (.cells (Q ++ [Value.slice (some ⟨g4, 0, none⟩) (n + 1) cap4, Value.slice (some td) n tcap]).toArray 29 (0, 0)) from fun wn hf =>
          hf.at_ (F3.out.at_ HSZ.out (fun h => h)) (row_off HO4.out (F3.out.at_ HSZ.out (fun h => h)) (by decide)))
        go_wp2_with (at_builtin; refine wpList_append_lies _ rfl (.tmp 89) (.tmp 91) 27 rfl B2 37 j0 _ 1 8 Tryd.underlying27 hj hy0 hy1 hy2 rfl (by decide) _ n (setsV D.tags) rfl (HO4.out.alloc _) ⟨y3.heap.size, 0, none⟩ 1 1 [.int .u64 (tn : Int)] rfl rfl (getElem_block (alloc_new _ _)) (by simp [Value.oneCell']) (by decide) (by unfold maxLen; omega) (by omega) (by first | omega | (simp; omega)) (y3.heap.size + 1) (by simp) ?_; intro g6 cap6 y4 hown hgrow hat hlt; (have T4 := Lib.hid (((Fr.refl (fun k => (Value.slice (some ⟨g5b, 0, none⟩) n cap5).ownBlock = some k) y3).alloc (.cells #[.int .u64 (tn : Int)] 37)).grown hgrow (fun k hk => .inl hk))); (have L4 := Lib.hid (HC6.out y4 T4.out)); (have c6 : y4.cell? ⟨cb, 257, none⟩ = some (.slice (some td) n tcap) := cell_of_block L4.out (at_257 Q hq _ _)); (have f6 : y4.frozen? ⟨cb, 257, none⟩ = false := free_of_block L4.out); (have HO5 := Lib.hid hown); clear hown hgrow hat hlt)
        have hsy := heap_setCell y4 L4.out 257 (.slice (some ⟨g6, 0, none⟩) (n + 1) cap6)
        rw [set_257 Q hq] at hsy
        have HSY := Lib.hid hsy
        have KY := Lib.hid ((Fr.refl (fun k => k = cb) y4).setCell (p := ⟨cb, 257, none⟩) (.inl rfl) (.slice (some ⟨g6, 0, none⟩) (n + 1) cap6))
        have F4 := Lib.hid ((FYW.out.tr F3.out).fresh T4.out (fun k hk => by have := (HO4.out.lt k hk).1; omega))
        have F10 := Lib.hid (F4.out.fresh KY.out (fun k hk => by have := HCB.out; have h2 : k = cb := hk; omega))
        have ncb : ∀ {base : Nat} {e : TypeId} {size m : Nat} {v : Value} {xs : List Value}, y4.ownsRow base e size v m xs → e ≠ 29 → ∀ k, v.ownBlock = some k → ¬ (k = cb) := fun hr he k hk e2 => by
          subst e2
          exact row_off hr L4.out (fun e => he e.symm) hk
        have HO6 := Lib.hid (row_keep (row_keep (row_keep HO3.out F3.out (fun _ _ h => h)) T4.out (fun k hk e => rows_apart (row_keep HO3.out F3.out (fun _ _ h => h)) HO4.out (by decide) k hk e)) KY.out (fun k hk => ncb (row_keep (row_keep HO3.out F3.out (fun _ _ h => h)) T4.out (fun k hk e => rows_apart (row_keep HO3.out F3.out (fun _ _ h => h)) HO4.out (by decide) k hk e)) (by decide) k hk))
        have HM6 := Lib.hid (row_keep (row_keep (row_keep HM3.out F3.out (fun _ _ h => h)) T4.out (fun k hk e => rows_apart (row_keep HM3.out F3.out (fun _ _ h => h)) HO4.out (by decide) k hk e)) KY.out (fun k hk => ncb (row_keep (row_keep HM3.out F3.out (fun _ _ h => h)) T4.out (fun k hk e => rows_apart (row_keep HM3.out F3.out (fun _ _ h => h)) HO4.out (by decide) k hk e)) (by decide) k hk))
        have HT6 := Lib.hid (row_keep HO5.out KY.out (fun k hk => ncb HO5.out (by decide) k hk))
        have B10 := Lib.hid (KY.out.at_ (T4.out.at_ (F3.out.at_ HBOX.out (fun h => h)) (row_off HO4.out (F3.out.at_ HBOX.out (fun h => h)) (by decide))) (fun e => by have e : w.heap.size = cb := e; have := HCB.out; omega))
        obtain ⟨w10, hw10⟩ : ∃ y, y4.setCell ⟨cb, 257, none⟩ (.slice (some ⟨g6, 0, none⟩) (n + 1) cap6) = y := ⟨_, rfl⟩
        rw [hw10] at HSY F10 HO6 HM6 HT6 B10 ⊢
        clear hw10 hsy KY ncb T4 L4 HO5 c6 f6 HC6 HO4 HO3 HM3 HSZ HBOX F3 F4 FYW
        have DX := Lib.hid (show DfaIn w10 (.agg (Q ++ [Value.slice (some ⟨g4, 0, none⟩) (n + 1) cap4, Value.slice (some ⟨g6, 0, none⟩) (n + 1) cap6]).toArray) (moreD D i tn) from
          ⟨⟨_, _, by rw [dfaC, ← HQ.out]; rfl, more_rows HO6.out HN.out hvl (fun j r hr => (HVR.out j r hr).elim fun u q => ⟨u, q.1, q.2.move F10.out⟩) (made_nums HM6.out), more_tags HT6.out HTL.out⟩, HLEN.out, by rw [HXV.out.hn]; omega, fun r hr => by rw [(HXV.out.row r hr).1]; omega⟩)
        clear HO6 HM6 HT6
        have hzx : (Q ++ [Value.slice (some ⟨g4, 0, none⟩) (n + 1) cap4, Value.slice (some ⟨g6, 0, none⟩) (n + 1) cap6]).length = 258 := by simp [hq]
        refine wp_load_mid 29 _ rfl w.heap.size 0 rfl C _ (range_of B10.out) Tryd.underlying29 rfl (by rw [hz]; exact dfa_info) ?_
        go_wp2_with fail
        refine (least_yes D _ _ _ _ (HD0.out.move F10.out) HDV.out HV.out (by omega) (by omega) HTG.out (HP.out.move F10.out)).mono ?_
        rintro e w11 ⟨v11, rfl, hD11, F1⟩
        obtain ⟨C11, na11, ncap11, rfl, hz11, hone11, h11⟩ := hD11.cells2
        have HD11 := Lib.hid hD11
        have LR := laid_row w11 Tryd.zeroCells29 29 C11.toArray
        have LF := Lib.hid LR.1
        have LB := Lib.hid LR.2
        have FX := Lib.hid (F1.tr LF.out)
        have BX := Lib.hid (FX.out.at_ HSY.out (fun h => h))
        have FE2 := Lib.hid (F10.out.tr FX.out)
        have D11 := Lib.hid (HD11.out.move LF.out)
        have DX2 := Lib.hid (DX.out.move FX.out)
        clear F1 LR h11 hD11 HD11 HSY DX
        go_wp2_with (first
          | (refine wpList_store_row rfl 29 (.tmp 12) (.tmp 97) rfl w11.heap.size 29 Tryd.zeroCells29 C11.toArray rfl rfl (alloc_new w11 _) ?_ ?_ hone11 ?_; (rw [List.size_toArray, hz11]; exact dfa_info); (rw [zeroD_size, List.size_toArray, hz11]))
          | (refine wpList_load_row rfl 29 (.tmp 11) rfl cb 29 (Q ++ [Value.slice (some ⟨g4, 0, none⟩) (n + 1) cap4, Value.slice (some ⟨g6, 0, none⟩) (n + 1) cap6]) _ rfl BX.out Tryd.underlying29 rfl ?_ ?_; (rw [hzx]; exact dfa_info)))
        obtain ⟨b12, hb12⟩ : ∃ x, w11.heap.size = x := ⟨_, rfl⟩
        obtain ⟨w12, hw12⟩ : ∃ x, (w11.alloc (.cells Tryd.zeroCells29 29)).setRow w11.heap.size C11.toArray = x := ⟨_, rfl⟩
        rw [hw12] at LF LB FX FE2 D11 DX2 ⊢
        rw [hb12] at LB ⊢
        clear hw12 hb12 LF FX BX
        refine (least_yes (moreD D i tn) _ _ _ _ DX2.out HXV.out HXM.out (by omega) (by omega) HXT.out (HP.out.move FE2.out)).mono ?_
        rintro e w13 ⟨v13, rfl, hD13, F1⟩
        rw [← HXL.out] at hD13
        obtain ⟨C13, na13, ncap13, rfl, hz13, hone13, h13⟩ := hD13.cells2
        have HD13 := Lib.hid hD13
        have LR := laid_row w13 Tryd.zeroCells29 29 C13.toArray
        have LF := Lib.hid LR.1
        have L13 := Lib.hid LR.2
        have FX := Lib.hid (F1.tr LF.out)
        have L12 := Lib.hid (FX.out.at_ LB.out (fun h => h))
        have E12 := Lib.hid (D11.out.move FX.out)
        have E13 := Lib.hid (HD13.out.move LF.out)
        have FG := Lib.hid (FE2.out.tr FX.out)
        clear F1 LR h13 hD13 LB DX2 D11 FE2 HD13
        go_wp2_with (refine wpList_store_row rfl 29 (.tmp 14) (.tmp 102) rfl w13.heap.size 29 Tryd.zeroCells29 C13.toArray rfl rfl (alloc_new w13 _) ?_ ?_ hone13 ?_; (rw [List.size_toArray, hz13]; exact dfa_info); (rw [zeroD_size, List.size_toArray, hz13]))
        obtain ⟨b14, hb14⟩ : ∃ x, w13.heap.size = x := ⟨_, rfl⟩
        obtain ⟨w14, hw14⟩ : ∃ x, (w13.alloc (.cells Tryd.zeroCells29 29)).setRow w13.heap.size C13.toArray = x := ⟨_, rfl⟩
        rw [hw14] at LF L13 FX L12 E12 E13 FG ⊢
        rw [hb14] at L13 ⊢
        clear hw14 hb14 LF FX
        go_wp2_with fail
        refine wp_load_mid 29 _ rfl b12 0 rfl C11 _ (range_of L12.out) Tryd.underlying29 rfl (by rw [hz11]; exact dfa_info) ?_
        go_wp2_with fail
        refine wp_load_mid 29 _ rfl b14 0 rfl C13 _ (range_of L13.out) Tryd.underlying29 rfl (by rw [hz13]; exact dfa_info) ?_
        go_wp2_with fail
        refine (same_any (leastM D) (leastM D) _ _ _ E12.out E13.out (by omega) (by omega)).mono ?_
        rintro e w15 ⟨rfl, F1⟩
        rw [sameM_refl]
        have FH := Lib.hid (FG.out.tr F1)
        clear F1
        go_wp2_with fail
        go_ret
        exact ⟨rfl, FH.out⟩
      clear hK0
      refine wp_region_held_drew (S := fun w' => w'.cell? ⟨w.heap.size, 256, none⟩ = some (.slice (some ad) n ncap) ∧ w'.cell? ad = some (.slice ra i rcap)) (by kernel_rfl) ⟨e1, e2⟩ (fun hHeld => ?_)
      clear e1 e2
      try simp only [Act.put, List.setIfInBounds_toArray, List.set_cons_zero, List.set_cons_succ]
      refine wpAnyH_take (i := 1) (v := ?_) lot1 (by kernel_rfl) (by kernel_rfl) (by kernel_rfl) (fun _ _ _ h => h) (Or.inl ⟨by rfl, ?_⟩) (by assumption) ?_
      rotate_left
      · (intro wv hSw; (try dsimp only at hSw); obtain ⟨s1, s2⟩ := hSw; go_simp) <;> with_reducible rfl
      try simp only [Act.put, List.setIfInBounds_toArray, List.set_cons_zero, List.set_cons_succ]
      refine wpAnyH_take (i := 2) (v := ?_) lot2 (by kernel_rfl) (by kernel_rfl) (by kernel_rfl) (fun _ _ _ h => h) (Or.inl ⟨by rfl, ?_⟩) (by assumption) ?_
      rotate_left
      · (intro wv hSw; (try dsimp only at hSw); obtain ⟨s1, s2⟩ := hSw; go_simp) <;> with_reducible rfl
      try simp only [Act.put, List.setIfInBounds_toArray, List.set_cons_zero, List.set_cons_succ]
      refine wpAnyH_take (i := 4) (v := ?_) lot4 (by kernel_rfl) (by kernel_rfl) (by kernel_rfl) (fun _ _ _ h => h) (Or.inl ⟨by rfl, ?_⟩) (by assumption) ?_
      rotate_left
      · (intro wv hSw; (try dsimp only at hSw); obtain ⟨s1, s2⟩ := hSw; go_simp) <;> with_reducible rfl
      try simp only [Act.put, List.setIfInBounds_toArray, List.set_cons_zero, List.set_cons_succ]
      refine wpAnyH_take (i := 5) (v := ?_) lot5 (by kernel_rfl) (by kernel_rfl) (by kernel_rfl) (fun _ _ _ h => h) (Or.inl ⟨by rfl, ?_⟩) (by assumption) ?_
      rotate_left
      · (intro wv hSw; (try dsimp only at hSw); obtain ⟨s1, s2⟩ := hSw; go_simp) <;> with_reducible rfl
      try simp only [Act.put, List.setIfInBounds_toArray, List.set_cons_zero, List.set_cons_succ]
      refine wpAnyH_take (i := 6) (v := ?_) lot6 (by kernel_rfl) (by kernel_rfl) (by kernel_rfl) (fun _ _ _ h => h) (Or.inl ⟨by rfl, ?_⟩) (by assumption) ?_
      rotate_left
      · (intro wv hSw; (try dsimp only at hSw); obtain ⟨s1, s2⟩ := hSw; go_simp) <;> with_reducible rfl
      try simp only [Act.put, List.setIfInBounds_toArray, List.set_cons_zero, List.set_cons_succ]
      refine wpAnyH_take (i := 7) (v := ?_) lot7 (by kernel_rfl) (by kernel_rfl) (by kernel_rfl) (fun _ _ _ h => h) (Or.inl ⟨by rfl, ?_⟩) (by assumption) ?_
      rotate_left
      · (intro wv hSw; (try dsimp only at hSw); obtain ⟨s1, s2⟩ := hSw; go_simp) <;> with_reducible rfl
      try simp only [Act.put, List.setIfInBounds_toArray, List.set_cons_zero, List.set_cons_succ]
      refine wpAnyH_take (i := 8) (v := ?_) lot8 (by kernel_rfl) (by kernel_rfl) (by kernel_rfl) (fun _ _ _ h => h) (Or.inl ⟨by rfl, ?_⟩) (by assumption) ?_
      rotate_left
      · (intro wv hSw; (try dsimp only at hSw); obtain ⟨s1, s2⟩ := hSw; go_simp) <;> with_reducible rfl
      try simp only [Act.put, List.setIfInBounds_toArray, List.set_cons_zero, List.set_cons_succ]
      obtain ⟨wz, hwz⟩ : ∃ y, w9.drew = y := ⟨_, rfl⟩
      have Fz := Lib.hid (Fr.refl none_ w9).drew
      rw [hwz] at Fz hHeld ⊢
      clear hwz
      refine wpAnyH_ready (rs := [0, 9]) (by kernel_rfl) (by simp) ?_
      refine AllReadyH.cons lot0 (fun K hK => ?gA1) (AllReadyH.cons lot9 (fun K hK => ?gB1) AllReadyH.nil)
      case' gA1 =>
        go_simp
        refine hK.out _ _ (HSX.out _ ((Fz.out).alloc (.cells #[] 52))) (fun hHeld => ?_)
        clear hK K
        try simp only [Act.put, List.setIfInBounds_toArray, List.set_cons_zero, List.set_cons_succ]
        obtain ⟨x1, hx1⟩ : ∃ y, (wz).alloc (.cells #[] 52) = y := ⟨_, rfl⟩
        have Fx1 := Lib.hid ((Fz.out).alloc (.cells #[] 52))
        have Nx1 := Lib.hid (alloc_new (wz) (.cells #[] 52))
        have Tx1 := Lib.hid ((Fr.refl none_ (wz)).alloc (.cells #[] 52))
        obtain ⟨gA, hgA⟩ : ∃ y, (wz).heap.size = y := ⟨_, rfl⟩
        have hgegA : BB ≤ gA := by have := (Fz.out).size; omega
        rw [hx1] at Fx1 Nx1 Tx1 ⊢
        try rw [hx1] at hHeld
        rw [hgA] at Nx1 ⊢
        have HA := Lib.hid (show x1.ownsRow BB 52 1 (.slice (some ⟨gA, 0, none⟩) 0 0) 0 [] from ⟨rfl, .inr ⟨gA, 0, #[], rfl, hgegA, Nx1.out, Nat.le_refl _, by decide, rfl, rfl⟩⟩)
        clear hx1 Nx1 Tx1 hgA
        refine wpAnyH_ready (rs := [3, 9]) (by kernel_rfl) (by simp) ?_
        refine AllReadyH.cons lot3 (fun K hK => ?gA2) (AllReadyH.cons lot9 (fun K hK => ?gB2) AllReadyH.nil)
        case' gA2 =>
          refine step_append_lies _ rfl (.tmp 73) (.tmp 75) 26 rfl BB 52 i0 _ 1 24 Tryd.underlying26 hi hz0 hz1 hz2 rfl (by decide) _ 0 [] rfl HA.out ad n ncap vals rfl (by rw [hvl, Nat.mul_one]) (HNW.out _ (Fx1.out)) HVO.out hnpos (by unfold maxLen; omega) (by omega) (by have := (Fx1.out).size; omega) _ rfl ?_
          intro g3 cap3 x2 hown hgrow hat hlt
          rw [Nat.zero_add, List.nil_append] at hown
          have Fx2 := Lib.hid ((Fx1.out).grown hgrow (fun k hk => .inr (by have h2 : gA = k := Option.some.inj hk; omega)))
          have Tx2 := Lib.hid ((Fr.refl (fun k => k = gA) (x1)).grown hgrow (fun k hk => .inl (by have h2 : gA = k := Option.some.inj hk; exact h2.symm)))
          have HO := Lib.hid hown
          refine hK.out _ _ (HSX.out _ Fx2.out) (fun hHeld => ?_)
          clear hK K
          try simp only [Act.put, List.setIfInBounds_toArray, List.set_cons_zero, List.set_cons_succ]
          try simp only [Nat.zero_add]
          clear hown hgrow hat hlt Tx2 HA
          refine wpAnyH_ready (rs := [9]) (by kernel_rfl) (by simp) ?_
          refine AllReadyH.cons lot9 (fun K hK => ?_) AllReadyH.nil
          refine step_make_full _ rfl (.tmp 81) (.tmp 81) 52 rfl 0 3 m0 _ 1 Tryd.underlying52 hm hm0 hm1 .i64 .i64 _ _ i rfl rfl rfl rfl (by rw [hm2]; omega) (by unfold maxLen; omega) (Nat.zero_le _) ?_
          intro x3 hmk hgrow
          rw [show (Value.int .i64 0).cells = #[Value.int .i64 0] from rfl, Nat.mul_one, toList_madeCells_one] at hmk
          have Fx3 := Lib.hid ((Fx2.out).grown hgrow (fun k h => by cases h))
          have Tx3 := Lib.hid ((Fr.refl none_ (x2)).grown hgrow (fun k h => by cases h))
          have HM := Lib.hid hmk
          refine hK.out _ _ (HSX.out _ Fx3.out) (fun hHeld => ?_)
          clear hK K
          try simp only [Act.put, List.setIfInBounds_toArray, List.set_cons_zero, List.set_cons_succ]
          obtain ⟨gm, hgm⟩ : ∃ y, (x2).heap.size = y := ⟨_, rfl⟩
          rw [hgm] at HM ⊢
          clear hmk hgrow hgm
          replace HO := Lib.hid (row_keep HO.out Tx3.out (fun _ _ h => h))
          clear Tx3
          refine wpAnyH_ready (rs := [10]) (by kernel_rfl) (by simp) ?_
          refine AllReadyH.cons lot10 (fun K hK => ?_) AllReadyH.nil
          go_simp
          refine hK.out _ _ (HSX.out _ ((Fx3.out).alloc (.cells #[.slice (some ⟨gm, 0, none⟩) i i] 52))) (fun hHeld => ?_)
          clear hK K
          try simp only [Act.put, List.setIfInBounds_toArray, List.set_cons_zero, List.set_cons_succ]
          obtain ⟨x4, hx4⟩ : ∃ y, (x3).alloc (.cells #[.slice (some ⟨gm, 0, none⟩) i i] 52) = y := ⟨_, rfl⟩
          have Fx4 := Lib.hid ((Fx3.out).alloc (.cells #[.slice (some ⟨gm, 0, none⟩) i i] 52))
          have Nx4 := Lib.hid (alloc_new (x3) (.cells #[.slice (some ⟨gm, 0, none⟩) i i] 52))
          have Tx4 := Lib.hid ((Fr.refl none_ (x3)).alloc (.cells #[.slice (some ⟨gm, 0, none⟩) i i] 52))
          obtain ⟨gb, hgb⟩ : ∃ y, (x3).heap.size = y := ⟨_, rfl⟩
          have hgegb : BB ≤ gb := by have := (Fx3.out).size; omega
          rw [hx4] at Fx4 Nx4 Tx4 ⊢
          try rw [hx4] at hHeld
          rw [hgb] at Nx4 ⊢
          have HB := Lib.hid Nx4.out
          replace HO := Lib.hid (row_keep HO.out Tx4.out (fun _ _ h => h))
          replace HM := Lib.hid (row_keep HM.out Tx4.out (fun _ _ h => h))
          clear hx4 Nx4 Tx4 hgb
        case' gB2 =>
          refine step_make_full _ rfl (.tmp 81) (.tmp 81) 52 rfl 0 3 m0 _ 1 Tryd.underlying52 hm hm0 hm1 .i64 .i64 _ _ i rfl rfl rfl rfl (by rw [hm2]; omega) (by unfold maxLen; omega) (Nat.zero_le _) ?_
          intro x2 hmk hgrow
          rw [show (Value.int .i64 0).cells = #[Value.int .i64 0] from rfl, Nat.mul_one, toList_madeCells_one] at hmk
          have Fx2 := Lib.hid ((Fx1.out).grown hgrow (fun k h => by cases h))
          have Tx2 := Lib.hid ((Fr.refl none_ (x1)).grown hgrow (fun k h => by cases h))
          have HM := Lib.hid hmk
          refine hK.out _ _ (HSX.out _ Fx2.out) (fun hHeld => ?_)
          clear hK K
          try simp only [Act.put, List.setIfInBounds_toArray, List.set_cons_zero, List.set_cons_succ]
          obtain ⟨gm, hgm⟩ : ∃ y, (x1).heap.size = y := ⟨_, rfl⟩
          rw [hgm] at HM ⊢
          clear hmk hgrow hgm
          replace HA := Lib.hid (row_keep HA.out Tx2.out (fun _ _ h => h))
          clear Tx2
          refine wpAnyH_ready (rs := [3, 10]) (by kernel_rfl) (by simp) ?_
          refine AllReadyH.cons lot3 (fun K hK => ?gA5) (AllReadyH.cons lot10 (fun K hK => ?gB5) AllReadyH.nil)
          case' gA5 =>
            refine step_append_lies _ rfl (.tmp 73) (.tmp 75) 26 rfl BB 52 i0 _ 1 24 Tryd.underlying26 hi hz0 hz1 hz2 rfl (by decide) _ 0 [] rfl HA.out ad n ncap vals rfl (by rw [hvl, Nat.mul_one]) (HNW.out _ (Fx2.out)) HVO.out hnpos (by unfold maxLen; omega) (by omega) (by have := (Fx2.out).size; omega) _ rfl ?_
            intro g3 cap3 x3 hown hgrow hat hlt
            rw [Nat.zero_add, List.nil_append] at hown
            have Fx3 := Lib.hid ((Fx2.out).grown hgrow (fun k hk => .inr (by have h2 : gA = k := Option.some.inj hk; omega)))
            have Tx3 := Lib.hid ((Fr.refl (fun k => k = gA) (x2)).grown hgrow (fun k hk => .inl (by have h2 : gA = k := Option.some.inj hk; exact h2.symm)))
            have HO := Lib.hid hown
            replace HM := Lib.hid (row_keep HM.out Tx3.out (fun k hk e => rows_apart HM.out HA.out (by decide) k hk (by rw [show k = gA from e]; rfl)))
            refine hK.out _ _ (HSX.out _ Fx3.out) (fun hHeld => ?_)
            clear hK K
            try simp only [Act.put, List.setIfInBounds_toArray, List.set_cons_zero, List.set_cons_succ]
            try simp only [Nat.zero_add]
            clear hown hgrow hat hlt Tx3 HA
            refine wpAnyH_ready (rs := [10]) (by kernel_rfl) (by simp) ?_
            refine AllReadyH.cons lot10 (fun K hK => ?_) AllReadyH.nil
            go_simp
            refine hK.out _ _ (HSX.out _ ((Fx3.out).alloc (.cells #[.slice (some ⟨gm, 0, none⟩) i i] 52))) (fun hHeld => ?_)
            clear hK K
            try simp only [Act.put, List.setIfInBounds_toArray, List.set_cons_zero, List.set_cons_succ]
            obtain ⟨x4, hx4⟩ : ∃ y, (x3).alloc (.cells #[.slice (some ⟨gm, 0, none⟩) i i] 52) = y := ⟨_, rfl⟩
            have Fx4 := Lib.hid ((Fx3.out).alloc (.cells #[.slice (some ⟨gm, 0, none⟩) i i] 52))
            have Nx4 := Lib.hid (alloc_new (x3) (.cells #[.slice (some ⟨gm, 0, none⟩) i i] 52))
            have Tx4 := Lib.hid ((Fr.refl none_ (x3)).alloc (.cells #[.slice (some ⟨gm, 0, none⟩) i i] 52))
            obtain ⟨gb, hgb⟩ : ∃ y, (x3).heap.size = y := ⟨_, rfl⟩
            have hgegb : BB ≤ gb := by have := (Fx3.out).size; omega
            rw [hx4] at Fx4 Nx4 Tx4 ⊢
            try rw [hx4] at hHeld
            rw [hgb] at Nx4 ⊢
            have HB := Lib.hid Nx4.out
            replace HO := Lib.hid (row_keep HO.out Tx4.out (fun _ _ h => h))
            replace HM := Lib.hid (row_keep HM.out Tx4.out (fun _ _ h => h))
            clear hx4 Nx4 Tx4 hgb
          case' gB5 =>
            go_simp
            refine hK.out _ _ (HSX.out _ ((Fx2.out).alloc (.cells #[.slice (some ⟨gm, 0, none⟩) i i] 52))) (fun hHeld => ?_)
            clear hK K
            try simp only [Act.put, List.setIfInBounds_toArray, List.set_cons_zero, List.set_cons_succ]
            obtain ⟨x3, hx3⟩ : ∃ y, (x2).alloc (.cells #[.slice (some ⟨gm, 0, none⟩) i i] 52) = y := ⟨_, rfl⟩
            have Fx3 := Lib.hid ((Fx2.out).alloc (.cells #[.slice (some ⟨gm, 0, none⟩) i i] 52))
            have Nx3 := Lib.hid (alloc_new (x2) (.cells #[.slice (some ⟨gm, 0, none⟩) i i] 52))
            have Tx3 := Lib.hid ((Fr.refl none_ (x2)).alloc (.cells #[.slice (some ⟨gm, 0, none⟩) i i] 52))
            obtain ⟨gb, hgb⟩ : ∃ y, (x2).heap.size = y := ⟨_, rfl⟩
            have hgegb : BB ≤ gb := by have := (Fx2.out).size; omega
            have hAB : gb ≠ gA := by have := (HA.out.lt gA rfl).2; omega
            rw [hx3] at Fx3 Nx3 Tx3 ⊢
            try rw [hx3] at hHeld
            rw [hgb] at Nx3 ⊢
            have HB := Lib.hid Nx3.out
            replace HA := Lib.hid (row_keep HA.out Tx3.out (fun _ _ h => h))
            replace HM := Lib.hid (row_keep HM.out Tx3.out (fun _ _ h => h))
            clear hx3 Nx3 Tx3 hgb
            refine wpAnyH_ready (rs := [3]) (by kernel_rfl) (by simp) ?_
            refine AllReadyH.cons lot3 (fun K hK => ?_) AllReadyH.nil
            refine step_append_lies _ rfl (.tmp 73) (.tmp 75) 26 rfl BB 52 i0 _ 1 24 Tryd.underlying26 hi hz0 hz1 hz2 rfl (by decide) _ 0 [] rfl HA.out ad n ncap vals rfl (by rw [hvl, Nat.mul_one]) (HNW.out _ (Fx3.out)) HVO.out hnpos (by unfold maxLen; omega) (by omega) (by have := (Fx3.out).size; omega) _ rfl ?_
            intro g3 cap3 x4 hown hgrow hat hlt
            rw [Nat.zero_add, List.nil_append] at hown
            have Fx4 := Lib.hid ((Fx3.out).grown hgrow (fun k hk => .inr (by have h2 : gA = k := Option.some.inj hk; omega)))
            have Tx4 := Lib.hid ((Fr.refl (fun k => k = gA) (x3)).grown hgrow (fun k hk => .inl (by have h2 : gA = k := Option.some.inj hk; exact h2.symm)))
            have HO := Lib.hid hown
            replace HM := Lib.hid (row_keep HM.out Tx4.out (fun k hk e => rows_apart HM.out HA.out (by decide) k hk (by rw [show k = gA from e]; rfl)))
            replace HB := Lib.hid (Tx4.out.at_ HB.out hAB)
            refine hK.out _ _ (HSX.out _ Fx4.out) (fun hHeld => ?_)
            clear hK K
            try simp only [Act.put, List.setIfInBounds_toArray, List.set_cons_zero, List.set_cons_succ]
            try simp only [Nat.zero_add]
            clear hown hgrow hat hlt Tx4 HA
      case' gB1 =>
        refine step_make_full _ rfl (.tmp 81) (.tmp 81) 52 rfl 0 3 m0 _ 1 Tryd.underlying52 hm hm0 hm1 .i64 .i64 _ _ i rfl rfl rfl rfl (by rw [hm2]; omega) (by unfold maxLen; omega) (Nat.zero_le _) ?_
        intro x1 hmk hgrow
        rw [show (Value.int .i64 0).cells = #[Value.int .i64 0] from rfl, Nat.mul_one, toList_madeCells_one] at hmk
        have Fx1 := Lib.hid ((Fz.out).grown hgrow (fun k h => by cases h))
        have Tx1 := Lib.hid ((Fr.refl none_ (wz)).grown hgrow (fun k h => by cases h))
        have HM := Lib.hid hmk
        refine hK.out _ _ (HSX.out _ Fx1.out) (fun hHeld => ?_)
        clear hK K
        try simp only [Act.put, List.setIfInBounds_toArray, List.set_cons_zero, List.set_cons_succ]
        obtain ⟨gm, hgm⟩ : ∃ y, (wz).heap.size = y := ⟨_, rfl⟩
        rw [hgm] at HM ⊢
        clear hmk hgrow hgm
        clear Tx1
        refine wpAnyH_ready (rs := [0, 10]) (by kernel_rfl) (by simp) ?_
        refine AllReadyH.cons lot0 (fun K hK => ?gA8) (AllReadyH.cons lot10 (fun K hK => ?gB8) AllReadyH.nil)
        case' gA8 =>
          go_simp
          refine hK.out _ _ (HSX.out _ ((Fx1.out).alloc (.cells #[] 52))) (fun hHeld => ?_)
          clear hK K
          try simp only [Act.put, List.setIfInBounds_toArray, List.set_cons_zero, List.set_cons_succ]
          obtain ⟨x2, hx2⟩ : ∃ y, (x1).alloc (.cells #[] 52) = y := ⟨_, rfl⟩
          have Fx2 := Lib.hid ((Fx1.out).alloc (.cells #[] 52))
          have Nx2 := Lib.hid (alloc_new (x1) (.cells #[] 52))
          have Tx2 := Lib.hid ((Fr.refl none_ (x1)).alloc (.cells #[] 52))
          obtain ⟨gA, hgA⟩ : ∃ y, (x1).heap.size = y := ⟨_, rfl⟩
          have hgegA : BB ≤ gA := by have := (Fx1.out).size; omega
          rw [hx2] at Fx2 Nx2 Tx2 ⊢
          try rw [hx2] at hHeld
          rw [hgA] at Nx2 ⊢
          have HA := Lib.hid (show x2.ownsRow BB 52 1 (.slice (some ⟨gA, 0, none⟩) 0 0) 0 [] from ⟨rfl, .inr ⟨gA, 0, #[], rfl, hgegA, Nx2.out, Nat.le_refl _, by decide, rfl, rfl⟩⟩)
          replace HM := Lib.hid (row_keep HM.out Tx2.out (fun _ _ h => h))
          clear hx2 Nx2 Tx2 hgA
          refine wpAnyH_ready (rs := [3, 10]) (by kernel_rfl) (by simp) ?_
          refine AllReadyH.cons lot3 (fun K hK => ?gA9) (AllReadyH.cons lot10 (fun K hK => ?gB9) AllReadyH.nil)
          case' gA9 =>
            refine step_append_lies _ rfl (.tmp 73) (.tmp 75) 26 rfl BB 52 i0 _ 1 24 Tryd.underlying26 hi hz0 hz1 hz2 rfl (by decide) _ 0 [] rfl HA.out ad n ncap vals rfl (by rw [hvl, Nat.mul_one]) (HNW.out _ (Fx2.out)) HVO.out hnpos (by unfold maxLen; omega) (by omega) (by have := (Fx2.out).size; omega) _ rfl ?_
            intro g3 cap3 x3 hown hgrow hat hlt
            rw [Nat.zero_add, List.nil_append] at hown
            have Fx3 := Lib.hid ((Fx2.out).grown hgrow (fun k hk => .inr (by have h2 : gA = k := Option.some.inj hk; omega)))
            have Tx3 := Lib.hid ((Fr.refl (fun k => k = gA) (x2)).grown hgrow (fun k hk => .inl (by have h2 : gA = k := Option.some.inj hk; exact h2.symm)))
            have HO := Lib.hid hown
            replace HM := Lib.hid (row_keep HM.out Tx3.out (fun k hk e => rows_apart HM.out HA.out (by decide) k hk (by rw [show k = gA from e]; rfl)))
            refine hK.out _ _ (HSX.out _ Fx3.out) (fun hHeld => ?_)
            clear hK K
            try simp only [Act.put, List.setIfInBounds_toArray, List.set_cons_zero, List.set_cons_succ]
            try simp only [Nat.zero_add]
            clear hown hgrow hat hlt Tx3 HA
            refine wpAnyH_ready (rs := [10]) (by kernel_rfl) (by simp) ?_
            refine AllReadyH.cons lot10 (fun K hK => ?_) AllReadyH.nil
            go_simp
            refine hK.out _ _ (HSX.out _ ((Fx3.out).alloc (.cells #[.slice (some ⟨gm, 0, none⟩) i i] 52))) (fun hHeld => ?_)
            clear hK K
            try simp only [Act.put, List.setIfInBounds_toArray, List.set_cons_zero, List.set_cons_succ]
            obtain ⟨x4, hx4⟩ : ∃ y, (x3).alloc (.cells #[.slice (some ⟨gm, 0, none⟩) i i] 52) = y := ⟨_, rfl⟩
            have Fx4 := Lib.hid ((Fx3.out).alloc (.cells #[.slice (some ⟨gm, 0, none⟩) i i] 52))
            have Nx4 := Lib.hid (alloc_new (x3) (.cells #[.slice (some ⟨gm, 0, none⟩) i i] 52))
            have Tx4 := Lib.hid ((Fr.refl none_ (x3)).alloc (.cells #[.slice (some ⟨gm, 0, none⟩) i i] 52))
            obtain ⟨gb, hgb⟩ : ∃ y, (x3).heap.size = y := ⟨_, rfl⟩
            have hgegb : BB ≤ gb := by have := (Fx3.out).size; omega
            rw [hx4] at Fx4 Nx4 Tx4 ⊢
            try rw [hx4] at hHeld
            rw [hgb] at Nx4 ⊢
            have HB := Lib.hid Nx4.out
            replace HO := Lib.hid (row_keep HO.out Tx4.out (fun _ _ h => h))
            replace HM := Lib.hid (row_keep HM.out Tx4.out (fun _ _ h => h))
            clear hx4 Nx4 Tx4 hgb
          case' gB9 =>
            go_simp
            refine hK.out _ _ (HSX.out _ ((Fx2.out).alloc (.cells #[.slice (some ⟨gm, 0, none⟩) i i] 52))) (fun hHeld => ?_)
            clear hK K
            try simp only [Act.put, List.setIfInBounds_toArray, List.set_cons_zero, List.set_cons_succ]
            obtain ⟨x3, hx3⟩ : ∃ y, (x2).alloc (.cells #[.slice (some ⟨gm, 0, none⟩) i i] 52) = y := ⟨_, rfl⟩
            have Fx3 := Lib.hid ((Fx2.out).alloc (.cells #[.slice (some ⟨gm, 0, none⟩) i i] 52))
            have Nx3 := Lib.hid (alloc_new (x2) (.cells #[.slice (some ⟨gm, 0, none⟩) i i] 52))
            have Tx3 := Lib.hid ((Fr.refl none_ (x2)).alloc (.cells #[.slice (some ⟨gm, 0, none⟩) i i] 52))
            obtain ⟨gb, hgb⟩ : ∃ y, (x2).heap.size = y := ⟨_, rfl⟩
            have hgegb : BB ≤ gb := by have := (Fx2.out).size; omega
            have hAB : gb ≠ gA := by have := (HA.out.lt gA rfl).2; omega
            rw [hx3] at Fx3 Nx3 Tx3 ⊢
            try rw [hx3] at hHeld
            rw [hgb] at Nx3 ⊢
            have HB := Lib.hid Nx3.out
            replace HA := Lib.hid (row_keep HA.out Tx3.out (fun _ _ h => h))
            replace HM := Lib.hid (row_keep HM.out Tx3.out (fun _ _ h => h))
            clear hx3 Nx3 Tx3 hgb
            refine wpAnyH_ready (rs := [3]) (by kernel_rfl) (by simp) ?_
            refine AllReadyH.cons lot3 (fun K hK => ?_) AllReadyH.nil
            refine step_append_lies _ rfl (.tmp 73) (.tmp 75) 26 rfl BB 52 i0 _ 1 24 Tryd.underlying26 hi hz0 hz1 hz2 rfl (by decide) _ 0 [] rfl HA.out ad n ncap vals rfl (by rw [hvl, Nat.mul_one]) (HNW.out _ (Fx3.out)) HVO.out hnpos (by unfold maxLen; omega) (by omega) (by have := (Fx3.out).size; omega) _ rfl ?_
            intro g3 cap3 x4 hown hgrow hat hlt
            rw [Nat.zero_add, List.nil_append] at hown
            have Fx4 := Lib.hid ((Fx3.out).grown hgrow (fun k hk => .inr (by have h2 : gA = k := Option.some.inj hk; omega)))
            have Tx4 := Lib.hid ((Fr.refl (fun k => k = gA) (x3)).grown hgrow (fun k hk => .inl (by have h2 : gA = k := Option.some.inj hk; exact h2.symm)))
            have HO := Lib.hid hown
            replace HM := Lib.hid (row_keep HM.out Tx4.out (fun k hk e => rows_apart HM.out HA.out (by decide) k hk (by rw [show k = gA from e]; rfl)))
            replace HB := Lib.hid (Tx4.out.at_ HB.out hAB)
            refine hK.out _ _ (HSX.out _ Fx4.out) (fun hHeld => ?_)
            clear hK K
            try simp only [Act.put, List.setIfInBounds_toArray, List.set_cons_zero, List.set_cons_succ]
            try simp only [Nat.zero_add]
            clear hown hgrow hat hlt Tx4 HA
        case' gB8 =>
          go_simp
          refine hK.out _ _ (HSX.out _ ((Fx1.out).alloc (.cells #[.slice (some ⟨gm, 0, none⟩) i i] 52))) (fun hHeld => ?_)
          clear hK K
          try simp only [Act.put, List.setIfInBounds_toArray, List.set_cons_zero, List.set_cons_succ]
          obtain ⟨x2, hx2⟩ : ∃ y, (x1).alloc (.cells #[.slice (some ⟨gm, 0, none⟩) i i] 52) = y := ⟨_, rfl⟩
          have Fx2 := Lib.hid ((Fx1.out).alloc (.cells #[.slice (some ⟨gm, 0, none⟩) i i] 52))
          have Nx2 := Lib.hid (alloc_new (x1) (.cells #[.slice (some ⟨gm, 0, none⟩) i i] 52))
          have Tx2 := Lib.hid ((Fr.refl none_ (x1)).alloc (.cells #[.slice (some ⟨gm, 0, none⟩) i i] 52))
          obtain ⟨gb, hgb⟩ : ∃ y, (x1).heap.size = y := ⟨_, rfl⟩
          have hgegb : BB ≤ gb := by have := (Fx1.out).size; omega
          rw [hx2] at Fx2 Nx2 Tx2 ⊢
          try rw [hx2] at hHeld
          rw [hgb] at Nx2 ⊢
          have HB := Lib.hid Nx2.out
          replace HM := Lib.hid (row_keep HM.out Tx2.out (fun _ _ h => h))
          clear hx2 Nx2 Tx2 hgb
          refine wpAnyH_ready (rs := [0]) (by kernel_rfl) (by simp) ?_
          refine AllReadyH.cons lot0 (fun K hK => ?_) AllReadyH.nil
          go_simp
          refine hK.out _ _ (HSX.out _ ((Fx2.out).alloc (.cells #[] 52))) (fun hHeld => ?_)
          clear hK K
          try simp only [Act.put, List.setIfInBounds_toArray, List.set_cons_zero, List.set_cons_succ]
          obtain ⟨x3, hx3⟩ : ∃ y, (x2).alloc (.cells #[] 52) = y := ⟨_, rfl⟩
          have Fx3 := Lib.hid ((Fx2.out).alloc (.cells #[] 52))
          have Nx3 := Lib.hid (alloc_new (x2) (.cells #[] 52))
          have Tx3 := Lib.hid ((Fr.refl none_ (x2)).alloc (.cells #[] 52))
          obtain ⟨gA, hgA⟩ : ∃ y, (x2).heap.size = y := ⟨_, rfl⟩
          have hgegA : BB ≤ gA := by have := (Fx2.out).size; omega
          have hAB : gb ≠ gA := by have := lt_of_block HB.out; omega
          rw [hx3] at Fx3 Nx3 Tx3 ⊢
          try rw [hx3] at hHeld
          rw [hgA] at Nx3 ⊢
          have HA := Lib.hid (show x3.ownsRow BB 52 1 (.slice (some ⟨gA, 0, none⟩) 0 0) 0 [] from ⟨rfl, .inr ⟨gA, 0, #[], rfl, hgegA, Nx3.out, Nat.le_refl _, by decide, rfl, rfl⟩⟩)
          replace HM := Lib.hid (row_keep HM.out Tx3.out (fun _ _ h => h))
          replace HB := Lib.hid (Tx3.out.at_ HB.out (fun h => h))
          clear hx3 Nx3 Tx3 hgA
          refine wpAnyH_ready (rs := [3]) (by kernel_rfl) (by simp) ?_
          refine AllReadyH.cons lot3 (fun K hK => ?_) AllReadyH.nil
          refine step_append_lies _ rfl (.tmp 73) (.tmp 75) 26 rfl BB 52 i0 _ 1 24 Tryd.underlying26 hi hz0 hz1 hz2 rfl (by decide) _ 0 [] rfl HA.out ad n ncap vals rfl (by rw [hvl, Nat.mul_one]) (HNW.out _ (Fx3.out)) HVO.out hnpos (by unfold maxLen; omega) (by omega) (by have := (Fx3.out).size; omega) _ rfl ?_
          intro g3 cap3 x4 hown hgrow hat hlt
          rw [Nat.zero_add, List.nil_append] at hown
          have Fx4 := Lib.hid ((Fx3.out).grown hgrow (fun k hk => .inr (by have h2 : gA = k := Option.some.inj hk; omega)))
          have Tx4 := Lib.hid ((Fr.refl (fun k => k = gA) (x3)).grown hgrow (fun k hk => .inl (by have h2 : gA = k := Option.some.inj hk; exact h2.symm)))
          have HO := Lib.hid hown
          replace HM := Lib.hid (row_keep HM.out Tx4.out (fun k hk e => rows_apart HM.out HA.out (by decide) k hk (by rw [show k = gA from e]; rfl)))
          replace HB := Lib.hid (Tx4.out.at_ HB.out hAB)
          refine hK.out _ _ (HSX.out _ Fx4.out) (fun hHeld => ?_)
          clear hK K
          try simp only [Act.put, List.setIfInBounds_toArray, List.set_cons_zero, List.set_cons_succ]
          try simp only [Nat.zero_add]
          clear hown hgrow hat hlt Tx4 HA
      all_goals
        refine wpAnyH_ready (rs := [11]) (by kernel_rfl) (by simp) ?_
        refine AllReadyH.cons lot11 (fun K hK => ?_) AllReadyH.nil
        refine step_append_lies _ rfl (.tmp 76) (.tmp 83) 26 rfl BB 52 i0 _ 1 24 Tryd.underlying26 hi hz0 hz1 hz2 rfl (by decide) _ n vals rfl HO.out ⟨gb, 0, none⟩ 1 1 [.slice (some ⟨gm, 0, none⟩) i i] rfl rfl (getElem_block HB.out) (by simp [Value.oneCell']) (by decide) (by unfold maxLen; omega) (by omega) (by have := Fx4.out.size; omega) _ rfl ?_
        intro g4 cap4 y1 hown hgrow hat hlt
        have Fy := Lib.hid (Fx4.out.grown hgrow (fun k hk => .inr (by have := (HO.out.lt k hk).1; omega)))
        have Ty := Lib.hid ((Fr.refl (fun k => (Value.slice (some ⟨g3, 0, none⟩) n cap3).ownBlock = some k) x4).grown hgrow (fun k hk => .inl hk))
        have HO2 := Lib.hid hown
        have HM2 := Lib.hid (row_keep HM.out Ty.out (fun k hk e => rows_apart HM.out HO.out (by decide) k hk e))
        have LY := Lib.hid (HLB.out _ Fy.out)
        have c256 : y1.cell? ⟨cb, 256, none⟩ = some (.slice (some ad) n ncap) := cell_of_block LY.out (by simpa using H256.out)
        have f256 : y1.frozen? ⟨cb, 256, none⟩ = false := free_of_block LY.out
        refine hK.out _ _ (HSX.out _ Fy.out) (fun hHeld => ?_)
        clear hK K hown hgrow hat hlt Ty HO HM HB
        try simp only [Act.put, List.setIfInBounds_toArray, List.set_cons_zero, List.set_cons_succ]
        refine wpAnyH_take (i := 12) (v := ?_) lot12 (by kernel_rfl) (by kernel_rfl) (by kernel_rfl) (fun _ _ _ h => h) (Or.inl ⟨by rfl, ?_⟩) (by assumption) ?_
        rotate_left
        · (intro wv hSw; (try dsimp only at hSw); go_simp) <;> with_reducible rfl
        try simp only [Act.put, List.setIfInBounds_toArray, List.set_cons_zero, List.set_cons_succ]
        refine wpAnyH_ready (rs := [13]) (by kernel_rfl) (by simp) ?_
        refine AllReadyH.cons lot13 (fun K hK => ?_) AllReadyH.nil
        go_simp
        have hsz := heap_setCell y1 LY.out 256 (.slice (some ⟨g4, 0, none⟩) (n + 1) cap4)
        rw [HCN.out, set_256 Q hq] at hsz
        have KY := Lib.hid ((Fr.refl (fun k => k = cb) y1).setCell (p := ⟨cb, 256, none⟩) (.inl rfl) (.slice (some ⟨g4, 0, none⟩) (n + 1) cap4))
        have FYW := Lib.hid ((F9.out.tr Fy.out).fresh KY.out (fun k hk => by have := HCB.out; have h2 : k = cb := hk; omega))
        have HBOX := Lib.hid (KY.out.at_ (Fy.out.at_ B9.out (fun h => h)) (fun e => by have e : w.heap.size = cb := e; have := HCB.out; omega))
        refine hK.out _ _ ⟨cell_of_block HBOX.out (by simpa using H256.out), cell_move FYW.out HC1.out⟩ (fun hHeld => ?_)
        clear hK K
        try simp only [Act.put, List.setIfInBounds_toArray, List.set_cons_zero, List.set_cons_succ]
        refine wpAnyH_done (by kernel_rfl) ?_ _
        have HSZ := Lib.hid hsz
        have HO3 := Lib.hid (row_keep HO2.out KY.out (fun k hk e => by
          have e : k = cb := e
          subst e
          exact row_off HO2.out LY.out (by decide) hk))
        have HM3 := Lib.hid (row_keep HM2.out KY.out (fun k hk e => by
          have e : k = cb := e
          subst e
          exact row_off HM2.out LY.out (by decide) hk))
        obtain ⟨y2, hy2'⟩ : ∃ y, y1.setCell ⟨cb, 256, none⟩ (.slice (some ⟨g4, 0, none⟩) (n + 1) cap4) = y := ⟨_, rfl⟩
        rw [hy2'] at HSZ HO3 HM3 FYW HBOX ⊢
        exact key _ _ _ _ _ _ _ _ FYW HBOX HSZ HO3 HM3
end Go.Proofs.YtglflmkkecephaaDoor
