/-
  MunchWins: plain.
  MunchCuts: plain.
  The reference of layer 1: Has, Bit, Of, List, Meet.
  The reference of layer 6: to, tagged; Of of layer 5.
  A table of who is told apart, filled in place; how it lies.
  Apart of the reference: the walk.
  The reference of layer 5: Go, Run.
-/
import Derived.Test.YtnenbihmokolpaaGreatDoorUC
import Derived.Test.YtnenbihmokolpaaGreatDoorMD
import Derived.Test.YtnenbihmokolpaaGreatDoorMA
namespace Go.Proofs.YtnenbihmokolpaaGreatDoor set_option linter.unusedVariables false set_option linter.unusedSimpArgs false
open Go.RowKit

end Go.Proofs.YtnenbihmokolpaaGreatDoor

namespace Go.Proofs.YtnenbihmokolpaaGreatDoor set_option linter.unusedVariables false set_option linter.unusedSimpArgs false
open Go.RowKit

theorem pick_neg {D : Dfa} {bs : List Nat} {at_ : Int} {may : Nat} {ps : List (Int × Int)} (h : ¬ 0 ≤ (pickM D bs at_ may ps).1) : (pickM D bs at_ may ps).1 = -1 := by
  unfold pickM pickOf at h ⊢
  split
  · rename_i h1
    rw [if_pos h1] at h
    exact absurd (by show (0 : Int) ≤ ((_ : Nat) : Int); omega) h
  · rfl
/-- From a place on what is left is cut on. -/
def CutAt (D : Dfa) (bs : List Nat) (may : Nat) (ps : List (Int × Int)) (pre : List (Nat × Int)) (at_ : Int) : Prop :=
  0 ≤ at_ ∧ at_ ≤ bs.length ∧ endM pre = at_ ∧ ∃ f : Nat, (bs.length : Int) - at_ < f ∧ allM D bs may ps = pre ++ allFrom D bs may ps f at_
theorem CutAt.start (D : Dfa) (bs : List Nat) (may : Nat) (ps : List (Int × Int)) : CutAt D bs may ps [] 0 :=
  ⟨Int.le_refl _, by omega, rfl, bs.length + 1, by omega, rfl⟩
theorem CutAt.next {D : Dfa} {bs : List Nat} {may : Nat} {ps : List (Int × Int)} {pre : List (Nat × Int)} {at_ : Int} (h : CutAt D bs may ps pre at_) {x : Nat × Int} (hx : (allM D bs may ps)[pre.length]? = some x) :
    0 ≤ (pickM D bs at_ may ps).1 ∧ x = (bitM (pickM D bs at_ may ps).1, (pickM D bs at_ may ps).2) ∧ at_ < (pickM D bs at_ may ps).2 ∧ CutAt D bs may ps (pre ++ [x]) (pickM D bs at_ may ps).2 := by
  obtain ⟨h1, h2, h3, f, hf, h4⟩ := h
  rw [h4, List.getElem?_append_right (Nat.le_refl _), Nat.sub_self] at hx
  obtain ⟨f', rfl⟩ : ∃ f', f = f' + 1 := ⟨f - 1, by omega⟩
  rw [allFrom] at hx h4
  by_cases hn : 0 ≤ (pickM D bs at_ may ps).1
  · rw [if_pos hn] at hx h4
    have hx' : (bitM (pickM D bs at_ may ps).1, (pickM D bs at_ may ps).2) = x := by simpa using hx
    obtain ⟨q1, q2, q3, q4⟩ := pick_pos hn
    refine ⟨hn, hx'.symm, q2, by omega, q3, ?_, f', by omega, ?_⟩
    · rw [endM_snoc, ← hx']
    · rw [h4, hx', List.append_assoc]; rfl
  · rw [if_neg hn] at hx
    simp at hx
theorem CutAt.done {D : Dfa} {bs : List Nat} {may : Nat} {ps : List (Int × Int)} {pre : List (Nat × Int)} {at_ : Int} (h : CutAt D bs may ps pre at_) (hx : (allM D bs may ps).length ≤ pre.length) :
    (pickM D bs at_ may ps).1 = -1 ∧ endM (allM D bs may ps) = at_ ∧ allM D bs may ps = pre := by
  obtain ⟨h1, h2, h3, f, hf, h4⟩ := h
  have he : allFrom D bs may ps f at_ = [] := by
    have := congrArg List.length h4
    rw [List.length_append] at this
    exact List.eq_nil_of_length_eq_zero (by omega)
  rw [he, List.append_nil] at h4
  refine ⟨pick_neg fun hn => ?_, by rw [h4]; exact h3, h4⟩
  obtain ⟨f', rfl⟩ : ∃ f', f = f' + 1 := ⟨f - 1, by omega⟩
  rw [allFrom, if_pos hn] at he
  cases he
end Go.Proofs.YtnenbihmokolpaaGreatDoor

namespace Go.Proofs.YtnenbihmokolpaaGreatDoor set_option linter.unusedVariables false set_option linter.unusedSimpArgs false
open Go.RowKit

end Go.Proofs.YtnenbihmokolpaaGreatDoor

namespace Go.Proofs.YtnenbihmokolpaaGreatDoor set_option linter.unusedVariables false set_option linter.unusedSimpArgs false
open Go.RowKit

theorem refD_info : (Tryz.prog.info? 38).map (·.size) = some 258 := by kernel_rfl
theorem zeroR_list : Tryz.zeroCells38 = Tryz.zeroCells26 := by kernel_rfl
theorem to_row {D : Dfa} {n k : Nat} (hv : DV D n k) {i c : Nat} (hi : i < n) (hc : c < k) : ∃ r, D.next[i]? = some r ∧ r.length = k ∧ ∃ t : Int, r[c]? = some t ∧ toD D (plQ n i) c = t ∧ -1 ≤ t ∧ t < n := by
  have hil : i < D.next.length := by rw [hv.hn]; exact hi
  obtain ⟨h1, h2⟩ := hv.row _ (List.getElem_mem hil)
  refine ⟨D.next[i], List.getElem?_eq_getElem hil, h1, ?_⟩
  have hcl : c < (D.next[i]).length := by rw [h1]; exact hc
  refine ⟨(D.next[i])[c], List.getElem?_eq_getElem hcl, ?_, h2 _ (List.getElem_mem hcl)⟩
  rw [plQ, if_pos hi, to_at]
  simp [List.getD, List.getElem?_eq_getElem hil, List.getElem?_eq_getElem hcl]

set_option maxRecDepth 100000 in
set_option maxHeartbeats 4000000 in
theorem to_any (D : Dfa) (n k : Nat) (v : Value) (i c : Nat) (w : World) (h : DfaIn w v D) (hv : DV D n k) (hn : n ≤ 10000) (hi : i ≤ n) (hc : c < k) :
    Calls Tryz.prog 40 #[v, .int .i64 i, .int .i64 c] w fun e w' => e = .returned (.int .i64 (toP D n i c)) ∧ Fr none_ w w' := by
  obtain ⟨C, na, ta, ncap, tcap, rfl, hz, h256, h257, hrow, htag⟩ := h.all
  rw [hv.hn] at h256
  have HR := Lib.hid hrow
  have B0 := Lib.hid (alloc_new w (.cells C.toArray 38))
  have F0 := Lib.hid ((Fr.refl none_ w).alloc (.cells C.toArray 38))
  have f1 : (w.alloc (.cells C.toArray 38)).cell? ⟨w.heap.size, 256, none⟩ = some (.slice na n ncap) := cell_of_block B0.out (by simpa using h256)
  have hi0 : (0 : Int) ≤ (i : Int) := by omega
  have hc0 : (0 : Int) ≤ (c : Int) := by omega
  clear h hrow htag h256 h257
  by_cases hlt : i < n
  · have hil : ¬ (n : Int) ≤ (i : Int) := by omega
    have hil2 : (i : Int) < (n : Int) := by omega
    obtain ⟨r, hr, hrk, t, ht, hto, ht1, ht2⟩ := to_row hv hlt hc
    have HTO := Lib.hid hto
    obtain ⟨ad, rv, rfl, hc1, ra, rcap, rfl, hrc⟩ := HR.out i r hr
    obtain ⟨xd, rfl, hcx⟩ := hrc c t ht
    rw [hrk] at hc1
    have f2 := F0.out.cell hc1 (fun h => h)
    have f3 := F0.out.cell hcx (fun h => h)
    have hck : (c : Int) < (k : Int) := by omega
    clear hrc hc1 hcx hr ht hto
    by_cases h0 : t < 0
    · have HT := Lib.hid (show toP D n i c = n by rw [toP, HTO.out, if_pos h0])
      go_enter Tryz.func40, Tryz.ntmps40
      go_wp2_with fail
      go_ret
      exact ⟨by rw [HT.out]; rfl, F0.out⟩
    · have HT := Lib.hid (show toP D n i c = t.toNat by rw [toP, HTO.out, if_neg h0])
      go_enter Tryz.func40, Tryz.ntmps40
      go_wp2_with fail
      go_ret
      exact ⟨by rw [HT.out, Int.toNat_of_nonneg (by omega)]; rfl, F0.out⟩
  · obtain rfl : i = n := by omega
    have hil : (i : Int) ≤ (i : Int) := by omega
    have HT := Lib.hid (show toP D i i c = i by
      have hq : plQ i i = -1 := if_neg (by omega)
      rw [toP, hq, to_neg D (by decide), if_pos (by decide)])
    go_enter Tryz.func40, Tryz.ntmps40
    go_wp2_with fail
    go_ret
    exact ⟨by rw [HT.out]; rfl, F0.out⟩

set_option maxRecDepth 100000 in
set_option maxHeartbeats 4000000 in
theorem tagged_any (D : Dfa) (n k : Nat) (v : Value) (w : World) (h : DfaIn w v D) (hv : DV D n k) (hn : n ≤ 10000) :
    Calls Tryz.prog 76 #[v] w fun e w' => ∃ u, e = .returned u ∧ w'.ownsRow w.heap.size 28 1 u (n + 1) (setsV (D.tags ++ [0])) ∧ Fr none_ w w' := by
  obtain ⟨C, na, ta, ncap, tcap, rfl, hz, h256, h257, hrow, htag⟩ := h.all
  have hpos := hv.pos
  have htl := hv.ht
  rw [htl] at h257
  obtain ⟨td, rfl, htc⟩ : ∃ ad, ta = some ad ∧ ∀ (j : Nat) (u : Value), (setsV D.tags)[j]? = some u → w.cell? (ad.add j) = some u := by
    obtain ⟨ad, e0, _⟩ := htag 0 _ (List.getElem?_eq_getElem (show 0 < D.tags.length by omega))
    refine ⟨ad, e0, fun j u hu => ?_⟩
    rw [setsV, List.getElem?_map] at hu
    cases hz : D.tags[j]? with
    | none => rw [hz] at hu; simp at hu
    | some z =>
      rw [hz] at hu
      obtain ⟨ad2, e, h2⟩ := htag j z hz
      rw [e0] at e
      injection e with e
      subst e
      rw [h2]
      simpa using hu
  have B0 := Lib.hid (alloc_new w (.cells C.toArray 38))
  have F0 := Lib.hid ((Fr.refl none_ w).alloc (.cells C.toArray 38))
  have f1 : (w.alloc (.cells C.toArray 38)).cell? ⟨w.heap.size, 257, none⟩ = some (.slice (some td) n tcap) := cell_of_block B0.out (by simpa using h257)
  have HNT := Lib.hid (show ∀ (j : Nat) (u : Value), (setsV D.tags)[j]? = some u → (w.alloc (.cells C.toArray 38)).cell? (td.add j) = some u from fun j u hu => F0.out.cell (htc j u hu) (fun h => h))
  have hsl : (setsV D.tags).length = n := by rw [setsV, List.length_map]; exact htl
  have HSO := Lib.hid (show ∀ u ∈ setsV D.tags, u.oneCell' = true from fun u hu => by
    simp only [setsV, List.mem_map] at hu
    obtain ⟨m, _, rfl⟩ := hu
    rfl)
  obtain ⟨j0, hj, hy0, hy1, hy2⟩ := info_parts set_info
  obtain ⟨B, hB⟩ : ∃ B, w.heap.size = B := ⟨_, rfl⟩
  have hBw : B ≤ w.heap.size := by omega
  have HOW := Lib.hid (show (w.alloc (.cells C.toArray 38)).ownsRow B 28 1 (.slice none 0 0) 0 [] from World.ownsRow_nil _ _ _ _)
  have HBB := Lib.hid hB
  clear h hrow htag h256 h257 htc hB
  go_enter Tryz.func76, Tryz.ntmps76
  go_wp2_with (at_builtin; refine wpList_append_lies _ rfl (.tmp 4) (.tmp 6) 24 rfl B 28 j0 _ 1 8 Tryz.underlying24 hj hy0 hy1 hy2 rfl (by decide) _ 0 [] rfl HOW.out td n tcap (setsV D.tags) rfl (by rw [hsl, Nat.mul_one]) HNT.out HSO.out hpos (by unfold maxLen; omega) (by omega) (by simp; omega) _ rfl ?_)
  intro g5 cap5 y3 hown hgrow hat hlt
  try simp only [Nat.zero_add, List.nil_append] at hown
  have F3 := Lib.hid (F0.out.grown hgrow (fun k hk => by simp [Value.ownBlock] at hk))
  have HO4 := Lib.hid hown
  have hB3 : B ≤ y3.heap.size := by have := F3.out.size; omega
  clear f1 HNT HSO hown hgrow hat hlt
  go_wp2_with (at_builtin; refine wpList_append_lies _ rfl (.tmp 8) (.tmp 9) 24 rfl B 28 j0 _ 1 8 Tryz.underlying24 hj hy0 hy1 hy2 rfl (by decide) _ n (setsV D.tags) rfl (HO4.out.alloc _) ⟨y3.heap.size, 0, none⟩ 1 1 [.int .u64 0] rfl rfl (getElem_block (alloc_new _ _)) (by simp [Value.oneCell']) (by decide) (by unfold maxLen; omega) (by omega) (by first | omega | (simp; omega)) (y3.heap.size + 1) (by simp) ?_)
  intro g6 cap6 y4 hown hgrow hat hlt
  have F4 := Lib.hid ((F3.out.alloc (.cells #[.int .u64 0] 28)).grown hgrow (fun k hk => .inr (by have := (HO4.out.lt k hk).1; have := HBB.out; omega)))
  have HO5 := Lib.hid hown
  clear hown hgrow hat hlt
  go_wp2_with fail
  go_ret
  exact ⟨_, rfl, by rw [HBB.out]; simpa [setsV] using HO5.out, F4.out⟩

set_option maxRecDepth 100000 in
set_option maxHeartbeats 4000000 in
theorem ofref_any (D : Dfa) (v : Value) (w : World) (h : DfaIn w v D) :
    Calls Tryz.prog 9 #[v] w fun e w' => e = .returned v ∧ Fr none_ w w' := by
  obtain ⟨C, na, ta, ncap, tcap, rfl, hz, hCQ, h256, h257, hrow, htag⟩ := h.whole
  have hone : C.toArray.all (·.oneCell') = true := by
    obtain ⟨E, e, _, h3⟩ := h.cells
    have e2 : C = E := by injection e with e; injection e
    rw [e2]; exact h3
  have hq : (intsV D.cls).length = 256 := by rw [intsV_length, h.len]
  obtain ⟨Q, hQ⟩ : ∃ Q, intsV D.cls = Q := ⟨_, rfl⟩
  rw [hQ] at hq hCQ
  have HCQ := Lib.hid hCQ
  have B0 := Lib.hid (((Fr.refl none_ (w.alloc (.cells C.toArray 26))).alloc (.cells Tryz.zeroCells38 38)).at_ (alloc_new w (.cells C.toArray 26)) (fun h => h))
  have F0 := Lib.hid (((Fr.refl none_ w).alloc (.cells C.toArray 26)).alloc (.cells Tryz.zeroCells38 38))
  have hb1 := alloc_new (w.alloc (.cells C.toArray 26)) (.cells Tryz.zeroCells38 38)
  rw [show (w.alloc (.cells C.toArray 26)).heap.size = w.heap.size + 1 by simp] at hb1
  have B1 := Lib.hid hb1
  have f1 : ((w.alloc (.cells C.toArray 26)).alloc (.cells Tryz.zeroCells38 38)).cell? ⟨w.heap.size, 256, none⟩ = some (.slice na D.next.length ncap) := cell_of_block B0.out (by simpa using h256)
  have f2 : ((w.alloc (.cells C.toArray 26)).alloc (.cells Tryz.zeroCells38 38)).cell? ⟨w.heap.size, 257, none⟩ = some (.slice ta D.tags.length tcap) := cell_of_block B0.out (by simpa using h257)
  have HRG := Lib.hid (show ((w.alloc (.cells C.toArray 26)).alloc (.cells Tryz.zeroCells38 38)).rangeAt w.heap.size 0 Q from range_pre (D := [.slice na D.next.length ncap, .slice ta D.tags.length tcap]) (by rw [← HCQ.out]; exact range_of B0.out))
  have hf := fold_class Q hq
  rw [← zeroR_list] at hf
  clear h hrow htag h256 h257 hCQ hb1 hQ
  go_enter Tryz.func9, Tryz.ntmps9
  have hone2 : (Q ++ [Value.slice na D.next.length ncap, Value.slice ta D.tags.length tcap]).toArray.all (·.oneCell') = true := by rw [← HCQ.out]; exact hone
  have hz2 : (Q ++ [Value.slice na D.next.length ncap, Value.slice ta D.tags.length tcap]).length = 258 := by simp [hq]
  go_wp2_with (first
    | (refine wpList_load_mid rfl 22 (.tmp 3) rfl w.heap.size 0 rfl Q _ HRG.out Tryz.underlying22 rfl ?_ ?_; (rw [hq]; exact arr_info))
    | (refine wpList_store_row rfl 38 (.tmp 2) (.tmp 9) rfl (w.heap.size + 1) 38 Tryz.zeroCells38 (Q ++ [Value.slice na D.next.length ncap, Value.slice ta D.tags.length tcap]).toArray rfl rfl B1.out ?_ ?_ hone2 ?_; (rw [List.size_toArray, hz2]; exact refD_info); (rw [zeroR_list, zeroD_size, List.size_toArray, hz2])))
  have hb := setRow_heap ((w.alloc (.cells C.toArray 26)).alloc (.cells Tryz.zeroCells38 38)) (w.heap.size + 1) _ (Q ++ [Value.slice na D.next.length ncap, Value.slice ta D.tags.length tcap]).toArray _ _ B1.out
  refine bodyPost_ret (results_cell_row rfl _ _ (w.heap.size + 1) _ _ _ _ rfl hb Tryz.underlying38 rfl (by rw [List.size_toArray, hz2]; exact refD_info)) rfl ?_
  exact ⟨by rw [HCQ.out], Fr.setRow F0.out (.inr (by omega)) _⟩
end Go.Proofs.YtnenbihmokolpaaGreatDoor

namespace Go.Proofs.YtnenbihmokolpaaGreatDoor set_option linter.unusedVariables false set_option linter.unusedSimpArgs false
open Go.RowKit

def atF (F : List (List Bool)) (i j : Nat) : Bool := (F.getD i []).getD j false
def setF (F : List (List Bool)) (i j : Nat) (b : Bool) : List (List Bool) := F.set i ((F.getD i []).set j b)
structure DimF (F : List (List Bool)) (m : Nat) : Prop where
  len : F.length = m
  row : ∀ r ∈ F, r.length = m
theorem DimF.rowAt {F : List (List Bool)} {m : Nat} (h : DimF F m) {i : Nat} (hi : i < m) : F[i]? = some (F.getD i []) ∧ (F.getD i []).length = m := by
  have hl : i < F.length := by rw [h.len]; exact hi
  have e : F.getD i [] = F[i] := by simp [List.getD, List.getElem?_eq_getElem hl]
  rw [e]
  exact ⟨List.getElem?_eq_getElem hl, h.row _ (List.getElem_mem hl)⟩
theorem DimF.set {F : List (List Bool)} {m : Nat} (h : DimF F m) {i : Nat} (hi : i < m) (j : Nat) (b : Bool) : DimF (setF F i j b) m := by
  refine ⟨by rw [setF, List.length_set, h.len], fun r hr => ?_⟩
  rcases List.mem_or_eq_of_mem_set hr with h1 | h1
  · exact h.row r h1
  · rw [h1, List.length_set]; exact (h.rowAt hi).2
theorem at_set {F : List (List Bool)} {m : Nat} (h : DimF F m) {i j : Nat} (hi : i < m) (hj : j < m) (b : Bool) (i' j' : Nat) : atF (setF F i j b) i' j' = if i' = i ∧ j' = j then b else atF F i' j' := by
  unfold atF setF
  rw [set_getD _ _ _ _ _ (by rw [h.len]; exact hi)]
  by_cases e : i' = i
  · rw [if_pos e, set_getD _ _ _ _ _ (by rw [(h.rowAt hi).2]; exact hj)]
    by_cases e2 : j' = j
    · rw [if_pos e2, if_pos ⟨e, e2⟩]
    · rw [if_neg e2, if_neg (fun q => e2 q.2), e]
  · rw [if_neg e, if_neg (fun q => e q.1)]

section
variable {D : Dfa} {n k l : Nat}
/-- What is known when round l has come to a place. -/
def UpA (D : Dfa) (n k l i0 j0 : Nat) (F : List (List Bool)) : Prop := ∀ i j, i ≤ n → j ≤ n → (if i < i0 ∨ (i = i0 ∧ j < j0) then ApL D n k (l + 1) i j else ApL D n k l i j) → atF F i j = true
/-- What is told apart is apart. -/
def SoF (D : Dfa) (n : Nat) (F : List (List Bool)) : Prop := ∀ i j, i ≤ n → j ≤ n → atF F i j = true → ¬ EqD D (plQ n i) D (plQ n j)
structure UpF (D : Dfa) (n k l i0 j0 : Nat) (F : List (List Bool)) : Prop where
  up : UpA D n k l i0 j0 F
  so : SoF D n F
theorem atF_rep (m i j : Nat) : atF (List.replicate m (List.replicate m false)) i j = false := by
  unfold atF
  by_cases hi : i < m
  · by_cases hj : j < m
    · simp [List.getD, hi, hj]
    · simp [List.getD, hi, hj]
  · simp [List.getD, hi]
theorem UpF.zero (F : List (List Bool)) (hf : ∀ i j, atF F i j = false) : UpF D n k 0 0 0 F := ⟨fun i j _ _ h => by
  rw [if_neg (by omega)] at h
  exact h.elim, fun i j _ _ h => by rw [hf] at h; cases h⟩
theorem UpF.low {i0 j0 : Nat} {F : List (List Bool)} (h : UpF D n k l i0 j0 F) {i j : Nat} (hi : i ≤ n) (hj : j ≤ n) (ha : ApL D n k l i j) : atF F i j = true :=
  h.up i j hi hj (by split <;> first | exact ha.mono | exact ha)
theorem UpF.next_row {i : Nat} {F : List (List Bool)} (h : UpF D n k l i (n + 1) F) : UpF D n k l (i + 1) 0 F := ⟨fun a b ha hb hx => by
  refine h.up a b ha hb ?_
  by_cases e : a < i + 1 ∨ (a = i + 1 ∧ b < 0)
  · rw [if_pos e] at hx; rw [if_pos (by omega)]; exact hx
  · rw [if_neg e] at hx; rw [if_neg (by omega)]; exact hx, h.so⟩
theorem UpF.next_round {F : List (List Bool)} (h : UpF D n k l (n + 1) 0 F) : UpF D n k (l + 1) 0 0 F := ⟨fun a b ha hb hx => by
  rw [if_neg (by omega)] at hx
  exact h.up a b ha hb (by rw [if_pos (by omega)]; exact hx), h.so⟩
theorem UpA.mono {i0 j0 : Nat} {F G : List (List Bool)} (h : UpA D n k l i0 j0 F) (hg : ∀ i j, i ≤ n → j ≤ n → atF F i j = true → atF G i j = true) : UpA D n k l i0 j0 G := fun i j hi hj hx => hg i j hi hj (h i j hi hj hx)
/-- At a place, behind c classes. -/
structure CellF (D : Dfa) (n k l i0 j0 c : Nat) (F : List (List Bool)) : Prop where
  up : UpF D n k l i0 j0 F
  known : atF F i0 j0 = true ∨ (tagP D n i0 = tagP D n j0 ∧ ∀ c', c' < c → atF F (toP D n i0 c') (toP D n j0 c') = false)
theorem UpF.put {i j : Nat} {F : List (List Bool)} (h : UpF D n k l i j F) (hd : DimF F (n + 1)) (hi : i ≤ n) (hj : j ≤ n) (hne : ¬ EqD D (plQ n i) D (plQ n j)) : UpF D n k l i j (setF F i j true) :=
  ⟨h.up.mono fun a b _ _ q => by rw [at_set hd (by omega) (by omega)]; split <;> first | rfl | exact q, fun a b ha hb q => by
    rw [at_set hd (by omega) (by omega)] at q
    by_cases e : a = i ∧ b = j
    · rw [e.1, e.2]; exact hne
    · rw [if_neg e] at q; exact h.so a b ha hb q⟩
theorem CellF.start_true {i j : Nat} {F : List (List Bool)} (h : UpF D n k l i j F) (hd : DimF F (n + 1)) (hi : i ≤ n) (hj : j ≤ n) (ht : tagP D n i ≠ tagP D n j) : CellF D n k l i j 0 (setF F i j true) :=
  ⟨h.put hd hi hj (fun e => ht e.tag), .inl (by rw [at_set hd (by omega) (by omega), if_pos ⟨rfl, rfl⟩])⟩
theorem CellF.start_eq {i j : Nat} {F : List (List Bool)} (h : UpF D n k l i j F) (ht : tagP D n i = tagP D n j) : CellF D n k l i j 0 F :=
  ⟨h, .inr ⟨ht, fun c hc => absurd hc (by omega)⟩⟩
theorem CellF.step {i j c : Nat} {F : List (List Bool)} (h : CellF D n k l i j c F) (hv : DV D n k) (hd : DimF F (n + 1)) (hi : i ≤ n) (hj : j ≤ n) (hf : atF F i j = false) : CellF D n k l i j (c + 1) (setF F i j (atF F (toP D n i c) (toP D n j c))) := by
  obtain ⟨ht, hk⟩ : tagP D n i = tagP D n j ∧ ∀ c', c' < c → atF F (toP D n i c') (toP D n j c') = false := h.known.resolve_left (by rw [hf]; decide)
  cases hb : atF F (toP D n i c) (toP D n j c) with
  | true =>
    refine ⟨h.up.put hd hi hj (fun e => ?_), .inl (by rw [at_set hd (by omega) (by omega), if_pos ⟨rfl, rfl⟩])⟩
    have h1 := h.up.so _ _ (toP_le hv i c) (toP_le hv j c) hb
    rw [plQ_toP hv, plQ_toP hv] at h1
    exact h1 (e.step c)
  | false =>
    have same : ∀ a b, atF (setF F i j false) a b = atF F a b := fun a b => by
      rw [at_set hd (by omega) (by omega)]
      split
      · rename_i e
        rw [e.1, e.2, hf]
      · rfl
    refine ⟨⟨h.up.up.mono fun a b _ _ q => by rw [same]; exact q, fun a b ha hb2 q => h.up.so a b ha hb2 (by rw [same] at q; exact q)⟩, .inr ⟨ht, fun c' hc' => ?_⟩⟩
    rw [same]
    by_cases e : c' = c
    · rw [e]; exact hb
    · exact hk c' (by omega)
theorem CellF.done {i j c : Nat} {F : List (List Bool)} (hv : DV D n k) (h : CellF D n k l i j c F) (hc : atF F i j = true ∨ k ≤ c) : UpF D n k l i (j + 1) F := by
  refine ⟨?_, h.up.so⟩
  intro a b ha hb hx
  by_cases e : a = i ∧ b = j
  · obtain ⟨rfl, rfl⟩ := e
    rw [if_pos (by omega)] at hx
    rcases h.known with q | ⟨q1, q2⟩
    · exact q
    · rcases hc with q | q
      · exact q
      · rcases hx with hx | ⟨c', h1, h2⟩
        · exact (hx q1).elim
        · have h3 := h.up.low (toP_le hv a c') (toP_le hv b c') h2
          rw [q2 c' (by omega)] at h3
          simp at h3
  · refine h.up.up a b ha hb ?_
    by_cases e2 : a < i ∨ (a = i ∧ b < j)
    · rw [if_pos e2]; rw [if_pos (by omega)] at hx; exact hx
    · rw [if_neg e2]; rw [if_neg (by omega)] at hx; exact hx
end

/-- How it lies. -/
structure FarIn (w : World) (B : Nat) (v : Value) (m : Nat) (R : List Nat) (F : List (List Bool)) : Prop where
  own : w.ownsRow B 102 1 v R.length (R.map fun (b : Nat) => Value.slice (some ⟨b, 0, none⟩) m m)
  len : F.length = R.length
  nodup : R.Nodup
  row : ∀ (i b : Nat) (L : List Bool), R[i]? = some b → F[i]? = some L → w.heap[b]? = some (.cells (boolsV L).toArray 4 (0, 0))
  high : ∀ b ∈ R, B ≤ b
  dim : ∀ r ∈ F, r.length = m
section
variable {w w' : World} {B m : Nat} {v : Value} {R : List Nat} {F : List (List Bool)}
theorem FarIn.nil (w : World) (B m : Nat) : FarIn w B (.slice none 0 0) m [] [] :=
  ⟨World.ownsRow_nil _ _ _ _, rfl, List.nodup_nil, fun i b L h _ => by simp at h, fun b h => by simp at h, fun r h => by simp at h⟩
theorem FarIn.move (h : FarIn w B v m R F) (hf : Fr none_ w w') : FarIn w' B v m R F :=
  ⟨row_keep h.own hf (fun _ _ h => h), h.len, h.nodup, fun i b L h1 h2 => hf.at_ (h.row i b L h1 h2) (fun h => h), h.high, h.dim⟩
theorem FarIn.at_ (h : FarIn w B v m R F) {i : Nat} (hi : i < R.length) : ∃ b, R[i]? = some b ∧ B ≤ b ∧ w.heap[b]? = some (.cells (boolsV (F.getD i [])).toArray 4 (0, 0)) ∧ (F.getD i []).length = m := by
  have hl : i < F.length := by rw [h.len]; exact hi
  have e : F.getD i [] = F[i] := by simp [List.getD, List.getElem?_eq_getElem hl]
  rw [e]
  exact ⟨R[i], List.getElem?_eq_getElem hi, h.high _ (List.getElem_mem hi), h.row i _ _ (List.getElem?_eq_getElem hi) (List.getElem?_eq_getElem hl), h.dim _ (List.getElem_mem hl)⟩
theorem FarIn.put (h : FarIn w B v m R F) {i b : Nat} (hb : R[i]? = some b) (j : Nat) (x : Bool) : FarIn (w.setCell ⟨b, j, none⟩ (.bool x)) B v m R (setF F i j x) := by
  have hi := (List.getElem?_eq_some_iff.1 hb).1
  obtain ⟨b', h1, h2, h3, h4⟩ := h.at_ hi
  rw [hb] at h1
  injection h1 with h1
  subst h1
  refine ⟨ownsRow_same h.own (fun k hk => Below.heap_setCell w ⟨b, j, none⟩ _ k (fun e => ?_)), by rw [setF, List.length_set]; exact h.len, h.nodup, fun i' c L q1 q2 => ?_, h.high, fun r hr => ?_⟩
  · have e : k = b := e
    subst e
    exact row_off h.own h3 (by decide) hk
  · by_cases e : i' = i
    · subst e
      rw [hb] at q1
      injection q1 with q1
      subst q1
      rw [setF, List.getElem?_set_self (by rw [h.len]; exact hi)] at q2
      injection q2 with q2
      rw [heap_setCell w h3, boolsV_set, q2]
    · have hcb : c ≠ b := fun ec => by
        subst ec
        have hi' := (List.getElem?_eq_some_iff.1 q1).1
        rw [List.getElem?_eq_getElem hi'] at q1
        rw [List.getElem?_eq_getElem hi] at hb
        exact e (by
          have := h.nodup.idxOf_getElem i' hi'
          have h5 := h.nodup.idxOf_getElem i hi
          injection q1 with q1
          injection hb with hb
          rw [q1] at this
          rw [hb] at h5
          omega)
      rw [setF, List.getElem?_set_ne (fun q => e q.symm)] at q2
      rw [Below.heap_setCell w ⟨b, j, none⟩ _ c hcb]
      exact h.row i' c L q1 q2
  · rcases List.mem_or_eq_of_mem_set hr with h5 | h5
    · exact h.dim r h5
    · rw [h5, List.length_set]; exact h4
end
end Go.Proofs.YtnenbihmokolpaaGreatDoor

namespace Go.Proofs.YtnenbihmokolpaaGreatDoor set_option linter.unusedVariables false set_option linter.unusedSimpArgs false
open Go.RowKit

structure ApSt (D : Dfa) (n : Nat) (wa w : World) (B : Nat) (v : Value) (R : List Nat) (tv : Value) (F : List (List Bool)) : Prop where
  far : FarIn w B v (n + 1) R F
  tags : w.ownsRow B 28 1 tv (n + 1) (setsV (D.tags ++ [0]))
  len : R.length = n + 1
  fr : Fr none_ wa w
  base : wa.heap.size ≤ B
section
variable {D : Dfa} {n : Nat} {wa w w' : World} {B : Nat} {v tv : Value} {R : List Nat} {F : List (List Bool)}
theorem ApSt.dim (h : ApSt D n wa w B v R tv F) : DimF F (n + 1) := ⟨by rw [h.far.len, h.len], h.far.dim⟩
theorem ApSt.move (h : ApSt D n wa w B v R tv F) (hf : Fr none_ w w') : ApSt D n wa w' B v R tv F := ⟨h.far.move hf, row_keep h.tags hf (fun _ _ h => h), h.len, h.fr.tr hf, h.base⟩
theorem ApSt.blk (h : ApSt D n wa w B v R tv F) {i b : Nat} (hb : R[i]? = some b) : w.heap[b]? = some (.cells (boolsV (F.getD i [])).toArray 4 (0, 0)) ∧ (F.getD i []).length = n + 1 ∧ B ≤ b := by
  obtain ⟨b', h1, h2, h3, h4⟩ := h.far.at_ (List.getElem?_eq_some_iff.1 hb).1
  rw [hb] at h1
  injection h1 with h1
  subst h1
  exact ⟨h3, h4, h2⟩
theorem ApSt.put (h : ApSt D n wa w B v R tv F) {i b : Nat} (hb : R[i]? = some b) (j : Nat) (x : Bool) : ApSt D n wa (w.setCell ⟨b, j, none⟩ (.bool x)) B v R tv (setF F i j x) :=
  ⟨h.far.put hb j x, ownsRow_same h.tags (fun k hk => Below.heap_setCell w ⟨b, j, none⟩ _ k (fun e => by
    have e : k = b := e
    subst e
    exact row_off h.tags (h.blk hb).1 (by decide) hk)), h.len, h.fr.setCell (p := ⟨b, j, none⟩) (.inr (by have := (h.blk hb).2.2; have := h.base; show _ ≤ b; omega)) _, h.base⟩
theorem ApSt.hdr {g cap : Nat} (h : ApSt D n wa w B (.slice (some ⟨g, 0, none⟩) (n + 1) cap) R tv F) {i b : Nat} (hb : R[i]? = some b) : w.cell? ⟨g, i, none⟩ = some (.slice (some ⟨b, 0, none⟩) (n + 1) (n + 1)) := by
  have h1 := h.far.own
  rw [h.len] at h1
  obtain ⟨g', e, hc⟩ := row_at0 h1 (i := i) (x := .slice (some ⟨b, 0, none⟩) (n + 1) (n + 1)) (by rw [List.getElem?_map, hb]; rfl)
  obtain rfl : g = g' := by injection e with e; injection e
  exact hc
theorem ApSt.cell (h : ApSt D n wa w B v R tv F) {i b j : Nat} (hb : R[i]? = some b) (hj : j < n + 1) : w.cell? ⟨b, j, none⟩ = some (.bool (atF F i j)) :=
  cell_of_block (h.blk hb).1 (boolsV_at (by rw [(h.blk hb).2.1]; exact hj))
theorem ApSt.free (h : ApSt D n wa w B v R tv F) {i b : Nat} (hb : R[i]? = some b) (j : Nat) : w.frozen? ⟨b, j, none⟩ = false := free_of_block (h.blk hb).1
end
theorem tag_at_p {D : Dfa} {n k : Nat} (hv : DV D n k) {i : Nat} (hi : i ≤ n) : (setsV (D.tags ++ [0]))[i]? = some (.int .u64 (tagP D n i : Nat)) := by
  rw [setsV, List.getElem?_map, tagP, plQ]
  by_cases h : i < n
  · rw [if_pos h, tag_at_nat, List.getElem?_append_left (by rw [hv.ht]; exact h)]
    simp [List.getD, List.getElem?_eq_getElem (show i < D.tags.length by rw [hv.ht]; exact h)]
  · obtain rfl : i = n := by omega
    rw [if_neg h, List.getElem?_append_right (by rw [hv.ht]; exact Nat.le_refl _), hv.ht, Nat.sub_self]
    rfl
theorem FarIn.push {w wm w5 : World} {B m b g2 cap2 : Nat} {v : Value} {R : List Nat} {F : List (List Bool)} (h : FarIn w B v m R F) (hm : Fr none_ w wm) (hb : w.heap.size ≤ b) (hB : B ≤ w.heap.size) (hrow : wm.heap[b]? = some (.cells (boolsV (List.replicate m false)).toArray 4 (0, 0)))
    (hg : (wm.alloc (.cells #[.slice (some ⟨b, 0, none⟩) m m] 102)).grownBy w5 v.ownBlock) (hown : w5.ownsRow B 102 1 (.slice (some ⟨g2, 0, none⟩) (R.length + 1) cap2) (R.length + 1) ((R.map fun (b : Nat) => Value.slice (some ⟨b, 0, none⟩) m m) ++ [.slice (some ⟨b, 0, none⟩) m m])) :
    FarIn w5 B (.slice (some ⟨g2, 0, none⟩) (R.length + 1) cap2) m (R ++ [b]) (F ++ [List.replicate m false]) := by
  have hh := h.move hm
  have f5 : Fr (fun k => v.ownBlock = some k) wm w5 := ((Fr.refl _ wm).alloc _).grown hg (fun k hk => .inl hk)
  have keep : ∀ {c : Nat} {cs : Array Value}, wm.heap[c]? = some (.cells cs 4 (0, 0)) → w5.heap[c]? = some (.cells cs 4 (0, 0)) := fun hc => f5.at_ hc (row_off hh.own hc (by decide))
  refine ⟨by rw [List.length_append, List.map_append]; exact hown, by rw [List.length_append, List.length_append, h.len]; rfl, ?_, fun i c L h1 h2 => ?_, fun c hc => ?_, fun r hr => ?_⟩
  · refine List.nodup_append.2 ⟨h.nodup, by simp, fun x hx y hy e => ?_⟩
    obtain rfl : y = b := by simpa using hy
    subst e
    obtain ⟨i, hi, rfl⟩ := List.getElem_of_mem hx
    obtain ⟨c, q1, _, q3, _⟩ := h.at_ hi
    rw [List.getElem?_eq_getElem hi] at q1
    injection q1 with q1
    subst q1
    have := lt_of_block q3
    omega
  · by_cases hi : i < R.length
    · rw [List.getElem?_append_left hi] at h1
      rw [List.getElem?_append_left (by rw [h.len]; exact hi)] at h2
      exact keep (hh.row i c L h1 h2)
    · have hl := (List.getElem?_eq_some_iff.1 h1).1
      simp at hl
      obtain rfl : i = R.length := by omega
      rw [List.getElem?_append_right (Nat.le_refl _), Nat.sub_self] at h1
      rw [List.getElem?_append_right (by rw [h.len]; exact Nat.le_refl _), h.len, Nat.sub_self] at h2
      have e1 : b = c := by simpa using h1
      have e2 : List.replicate m false = L := by simpa using h2
      subst e1
      subst e2
      exact keep hrow
  · rcases List.mem_append.1 hc with h1 | h1
    · exact h.high c h1
    · obtain rfl : c = b := by simpa using h1
      omega
  · rcases List.mem_append.1 hr with h1 | h1
    · exact h.dim r h1
    · obtain rfl : r = List.replicate m false := by simpa using h1
      exact List.length_replicate
def ApEnd (D : Dfa) (n k : Nat) (w' : World) (u : Value) : Prop := ∃ B g cap R F wa tv, u = .slice (some ⟨g, 0, none⟩) (n + 1) cap ∧ ApSt D n wa w' B (.slice (some ⟨g, 0, none⟩) (n + 1) cap) R tv F ∧ UpF D n k (n + 2) 0 0 F
theorem boolR_info : (Tryz.prog.info? 102).map (fun i => (i.zero, i.size, i.bytes)) = some (some (.slice none 0 0), 1, 24) := by kernel_rfl
set_option maxRecDepth 100000 in
set_option maxHeartbeats 8000000 in
theorem apart_any (D : Dfa) (n k : Nat) (v : Value) (w : World) (h : DfaIn w v D) (hv : DV D n k) (hn : n ≤ 10000) (hk : k ≤ 1000) :
    Calls Tryz.prog 39 #[v] w fun e w' => ∃ u, e = .returned u ∧ ApEnd D n k w' u ∧ Fr none_ w w' := by
  obtain ⟨C, na, ta, ncap, tcap, rfl, hz, h256, h257, hrow, htag⟩ := h.all
  rw [hv.hn] at h256
  have HD0 := Lib.hid h
  have H256 := Lib.hid h256
  have hpos := hv.pos
  have hkpos : 0 < k := by
    have := h.len
    have h1 := hv.cls (D.cls.getD 0 0) (getD_mem (by omega) 0)
    omega
  obtain ⟨r0, hr0⟩ : ∃ r, D.next[0]? = some r := ⟨_, List.getElem?_eq_getElem (by rw [hv.hn]; exact hpos)⟩
  have hrk : r0.length = k := (hv.row r0 (List.mem_of_getElem? hr0)).1
  obtain ⟨ad, rv, rfl, hc1, ra, rcap, rfl, _⟩ := hrow 0 r0 hr0
  rw [hrk, Addr.add_zero'] at hc1
  have HC1 := Lib.hid hc1
  have HV := Lib.hid hv
  have HB0 := Lib.hid (alloc_new w (.cells C.toArray 38))
  have F0 := Lib.hid ((Fr.refl none_ w).alloc (.cells C.toArray 38))
  have f1 : (w.alloc (.cells C.toArray 38)).cell? ⟨w.heap.size, 256, none⟩ = some (.slice (some ad) n ncap) := cell_of_block HB0.out (by simpa using h256)
  clear h hrow htag h256 h257 hc1 hr0 hrk
  go_enter Tryz.func39, Tryz.ntmps39
  go_wp2_with fail
  obtain ⟨wa, hwa⟩ : ∃ x, w.alloc (.cells C.toArray 38) = x := ⟨_, rfl⟩
  rw [hwa] at HB0 F0 ⊢
  clear f1
  have HD := Lib.hid (HD0.out.move F0.out)
  obtain ⟨BB, hBB⟩ : ∃ x, wa.heap.size = x := ⟨_, rfl⟩
  have HBB := Lib.hid hBB
  clear hwa hBB
  have HF0 := Lib.hid (FarIn.nil wa BB (n + 1))
  go_loopw [4, 5] (fun x4 x5 wr => ∃ i : Nat, i ≤ n + 1 ∧ x5 = .int .i64 i ∧ Aside (∃ R, FarIn wr BB x4 (n + 1) R (List.replicate i (List.replicate (n + 1) false)) ∧ R.length = i ∧ Fr none_ wa wr)) (fun _ x5 _ => n + 1 - (intOf x5).toNat)
  case atStart => exact ⟨0, Nat.zero_le _, rfl, ⟨[], HF0.out, rfl, Fr.refl _ _⟩⟩
  case round =>
    obtain ⟨i, hi', rfl, h'⟩ := hrel
    obtain ⟨R, hfar, hrl, hfr⟩ := h'.out
    have HFAR := Lib.hid hfar
    have HRL := Lib.hid hrl
    have HFR := Lib.hid hfr
    have hbw : BB ≤ wr.heap.size := by have := hfr.size; have := HBB.out; omega
    obtain ⟨xa, xcap, hxv, hxc⟩ := ownsRow_slice hfar.own
    rw [hrl] at hxv hxc
    subst hxv
    clear h' hfar hrl hfr HF0
    have hi0 : (0 : Int) ≤ (i : Int) := by omega
    by_cases hlt : i ≤ n
    case pos =>
      have hil : (i : Int) ≤ (n : Int) := by omega
      obtain ⟨i0, hi, hz0, hz1, hz2⟩ := info_parts bool_info
      go_wp2_with (refine wpList_make_full _ rfl (.tmp 21) (.tmp 21) 102 rfl 0 4 i0 _ 1 Tryz.underlying102 hi hz0 hz1 .i64 .i64 _ _ (n + 1) rfl rfl rfl rfl (by rw [hz2]; omega) (by unfold maxLen; omega) (Nat.zero_le _) ?_)
      intro w2 hmk hgrow
      rw [toList_madeCells_one] at hmk
      have F2 := Lib.hid ((Fr.refl none_ wr).grown hgrow (fun k h => by cases h))
      have hb2 := row_full hmk
      have HB2 := Lib.hid (show w2.heap[wr.heap.size]? = some (.cells (boolsV (List.replicate (n + 1) false)).toArray 4 (0, 0)) by rw [hb2]; simp [boolsV])
      obtain ⟨b, hb⟩ : ∃ b, wr.heap.size = b := ⟨_, rfl⟩
      have hbb : wr.heap.size ≤ b := by omega
      rw [hb] at HB2 ⊢
      clear hmk hgrow hb2 hb
      have HOW := Lib.hid (show w2.ownsRow BB 102 1 (.slice xa i xcap) i (R.map fun (b : Nat) => Value.slice (some ⟨b, 0, none⟩) (n + 1) (n + 1)) by have h1 := (HFAR.out.move F2.out).own; rw [HRL.out] at h1; exact h1)
      have hbw2 : BB ≤ w2.heap.size := by have := F2.out.size; omega
      obtain ⟨j0, hj, hy0, hy1, hy2⟩ := info_parts boolR_info
      go_wp2_with (at_builtin; refine wpList_append_lies _ rfl (.tmp 19) (.tmp 23) 98 rfl BB 102 j0 _ 1 24 Tryz.underlying98 hj hy0 hy1 hy2 rfl (by decide) _ i (R.map fun (b : Nat) => Value.slice (some ⟨b, 0, none⟩) (n + 1) (n + 1)) rfl (HOW.out.alloc _) ⟨w2.heap.size, 0, none⟩ 1 1 [.slice (some ⟨b, 0, none⟩) (n + 1) (n + 1)] rfl rfl (getElem_block (alloc_new _ _)) (by simp [Value.oneCell']) (by decide) (by unfold maxLen; omega) (by omega) (by first | omega | (simp; omega)) (w2.heap.size + 1) (by simp) ?_)
      intro g2 cap2 w9 hown9 hgrow9 hat9 hlt9
      have HNEW := Lib.hid (show FarIn w9 BB (.slice (some ⟨g2, 0, none⟩) (i + 1) cap2) (n + 1) (R ++ [b]) (List.replicate (i + 1) (List.replicate (n + 1) false)) by
        have h1 := FarIn.push (g2 := g2) (cap2 := cap2) HFAR.out F2.out hbb hbw HB2.out hgrow9 (by rw [HRL.out]; exact hown9)
        rw [HRL.out] at h1
        rw [show List.replicate (i + 1) (List.replicate (n + 1) false) = List.replicate i (List.replicate (n + 1) false) ++ [List.replicate (n + 1) false] from List.replicate_succ']
        exact h1)
      have HFN := Lib.hid (((HFR.out.tr F2.out).alloc (.cells #[.slice (some ⟨b, 0, none⟩) (n + 1) (n + 1)] 102)).grown hgrow9 (fun k hk => .inr (by have := (HOW.out.lt k hk).1; have := HBB.out; omega)))
      have HRN := Lib.hid (show (R ++ [b]).length = i + 1 by rw [List.length_append, HRL.out]; rfl)
      clear hown9 hgrow9 hat9 hlt9
      go_wp2_with fail
      go_roundw
      case rel => exact ⟨i + 1, by omega, by go_num, ⟨_, HNEW.out, HRN.out, HFN.out⟩⟩
      case measure => simp [intOf]; omega
    case neg =>
      obtain rfl : i = n + 1 := by omega
      have hil : ¬ ((n + 1 : Nat) : Int) ≤ (n : Int) := by omega
      have BR := Lib.hid (HFR.out.at_ HB0.out (fun h => h))
      go_wp2_with (refine wpList_load_row rfl 38 (.tmp 1) rfl w.heap.size 38 C _ rfl BR.out Tryz.underlying38 rfl (by rw [hz]; exact refD_info) ?_)
      refine (tagged_any D n k _ _ (HD.out.move HFR.out) HV.out (by omega)).mono ?_
      rintro e w3 ⟨tv, rfl, htv, F3⟩
      have HS0 := Lib.hid (show ApSt D n wa w3 BB (.slice xa (n + 1) xcap) R tv (List.replicate (n + 1) (List.replicate (n + 1) false)) from
        ⟨HFAR.out.move F3, ownsRow_base htv hbw, HRL.out, HFR.out.tr F3, by rw [HBB.out]; exact Nat.le_refl _⟩)
      obtain ⟨ta2, tcap2, htv2, _⟩ := ownsRow_slice htv
      subst htv2
      obtain ⟨tg, rfl, _⟩ := row_at0 htv (tag_at_p HV.out (Nat.zero_le _))
      obtain ⟨g, hg, _⟩ := row_at0 (show w3.ownsRow BB 102 1 (.slice xa (n + 1) xcap) (n + 1) _ by have h1 := HS0.out.far.own; rw [HRL.out] at h1; exact h1) (i := 0) (x := ((R.map fun (b : Nat) => Value.slice (some ⟨b, 0, none⟩) (n + 1) (n + 1))[0]'(by rw [List.length_map, HRL.out]; omega))) (List.getElem?_eq_getElem _)
      subst hg
      have HU0 := Lib.hid (UpF.zero (D := D) (n := n) (k := k) (List.replicate (n + 1) (List.replicate (n + 1) false)) (atF_rep (n + 1)))
      clear htv F3 BR HFAR HFR
      go_wp2_with fail
      go_loopw [7] (fun x7 wr => ∃ l : Nat, l ≤ n + 2 ∧ x7 = .int .i64 l ∧ Aside (∃ F, ApSt D n wa wr BB (Value.slice (some ⟨g, 0, none⟩) (n + 1) xcap) R (Value.slice (some ⟨tg, 0, none⟩) (n + 1) tcap2) F ∧ UpF D n k l 0 0 F)) (fun x7 _ => n + 2 - (intOf x7).toNat)
      case atStart => exact ⟨0, Nat.zero_le _, rfl, ⟨_, HS0.out, HU0.out⟩⟩
      case round =>
        obtain ⟨l, hl', rfl, h'⟩ := hrel
        obtain ⟨F, hst, hup⟩ := h'.out
        have HST := Lib.hid hst
        have HUP := Lib.hid hup
        clear h' hst hup HS0 HU0
        by_cases hll : l ≤ n + 1
        case neg =>
          obtain rfl : l = n + 2 := by omega
          have hlI : ¬ ((n + 2 : Nat) : Int) ≤ (n : Int) + 1 := by omega
          go_wp2_with fail
          go_ret
          exact ⟨_, rfl, ⟨_, _, _, _, _, _, _, rfl, HST.out, HUP.out⟩, F0.out.tr HST.out.fr⟩
        case pos =>
          have hlI : (l : Int) ≤ (n : Int) + 1 := by omega
          go_wp2_with fail
          go_loopw [8] (fun x8 wr => ∃ i : Nat, i ≤ n + 1 ∧ x8 = .int .i64 i ∧ Aside (∃ F, ApSt D n wa wr BB (Value.slice (some ⟨g, 0, none⟩) (n + 1) xcap) R (Value.slice (some ⟨tg, 0, none⟩) (n + 1) tcap2) F ∧ UpF D n k l i 0 F)) (fun x8 _ => n + 1 - (intOf x8).toNat)
          case atStart => exact ⟨0, Nat.zero_le _, rfl, ⟨_, HST.out, HUP.out⟩⟩
          case round =>
            obtain ⟨i, hi', rfl, h'⟩ := hrel
            obtain ⟨F, hst, hup⟩ := h'.out
            replace HST := Lib.hid hst
            replace HUP := Lib.hid hup
            clear h' hst hup
            by_cases hin : i ≤ n
            case neg =>
              obtain rfl : i = n + 1 := by omega
              have hiI : ¬ ((n + 1 : Nat) : Int) ≤ (n : Int) := by omega
              go_wp2_with fail
              go_roundw
              case rel => exact ⟨l + 1, by omega, by go_num, ⟨_, HST.out, HUP.out.next_round⟩⟩
              case measure => simp [intOf]; omega
            case pos =>
              have hiI : (i : Int) ≤ (n : Int) := by omega
              have hi0 : (0 : Int) ≤ (i : Int) := by omega
              have hi1 : (i : Int) < (n : Int) + 1 := by omega
              obtain ⟨bi, hbi⟩ : ∃ b, R[i]? = some b := ⟨_, List.getElem?_eq_getElem (by rw [HRL.out]; omega)⟩
              go_wp2_with fail
              go_loopw [9] (fun x9 wr => ∃ j : Nat, j ≤ n + 1 ∧ x9 = .int .i64 j ∧ Aside (∃ F, ApSt D n wa wr BB (Value.slice (some ⟨g, 0, none⟩) (n + 1) xcap) R (Value.slice (some ⟨tg, 0, none⟩) (n + 1) tcap2) F ∧ UpF D n k l i j F)) (fun x9 _ => n + 1 - (intOf x9).toNat)
              case atStart => exact ⟨0, Nat.zero_le _, rfl, ⟨_, HST.out, HUP.out⟩⟩
              case round =>
                obtain ⟨j, hj', rfl, h'⟩ := hrel
                obtain ⟨F, hst, hup⟩ := h'.out
                replace HST := Lib.hid hst
                replace HUP := Lib.hid hup
                clear h' hst hup
                by_cases hjn : j ≤ n
                case neg =>
                  obtain rfl : j = n + 1 := by omega
                  have hjI : ¬ ((n + 1 : Nat) : Int) ≤ (n : Int) := by omega
                  go_wp2_with fail
                  go_roundw
                  case rel => exact ⟨i + 1, by omega, by go_num, ⟨_, HST.out, HUP.out.next_row⟩⟩
                  case measure => simp [intOf]; omega
                case pos =>
                  have hjI : (j : Int) ≤ (n : Int) := by omega
                  have hj0 : (0 : Int) ≤ (j : Int) := by omega
                  have hj1 : (j : Int) < (n : Int) + 1 := by omega
                  have t1 : wr.cell? ⟨tg, i, none⟩ = some (.int .u64 (tagP D n i : Nat)) := by
                    obtain ⟨q, e, h1⟩ := row_at0 HST.out.tags (tag_at_p HV.out hin)
                    obtain rfl : tg = q := by injection e with e; injection e
                    exact h1
                  have t2 : wr.cell? ⟨tg, j, none⟩ = some (.int .u64 (tagP D n j : Nat)) := by
                    obtain ⟨q, e, h1⟩ := row_at0 HST.out.tags (tag_at_p HV.out hjn)
                    obtain rfl : tg = q := by injection e with e; injection e
                    exact h1
                  obtain ⟨T1, hT1⟩ : ∃ x, tagP D n i = x := ⟨_, rfl⟩
                  obtain ⟨T2, hT2⟩ : ∃ x, tagP D n j = x := ⟨_, rfl⟩
                  rw [hT1] at t1
                  rw [hT2] at t2
                  have HT1 := Lib.hid hT1
                  have HT2 := Lib.hid hT2
                  clear hT1 hT2
                  by_cases hte : T1 = T2
                  case pos =>
                    subst hte
                    have htI : ((T1 : Int) != (T1 : Int)) = false := by simp
                    have HCS := Lib.hid (CellF.start_eq HUP.out (show tagP D n i = tagP D n j by rw [HT1.out, HT2.out]))
                    go_wp2_with fail
                    go_quiet (fail)
                    have HSTS := Lib.hid (HST.out.move ((Fr.refl none_ wr).drewN nq))
                    obtain ⟨wb, hwb⟩ : ∃ y, wr.drewN nq = y := ⟨_, rfl⟩
                    rw [hwb] at HSTS ⊢
                    clear hwb t1 t2 HST
                    go_wp2_with fail
                    go_loopw [10] (fun x10 wr => ∃ c : Nat, c ≤ k ∧ x10 = .int .i64 c ∧ Aside (∃ F, ApSt D n wa wr BB (Value.slice (some ⟨g, 0, none⟩) (n + 1) xcap) R (Value.slice (some ⟨tg, 0, none⟩) (n + 1) tcap2) F ∧ CellF D n k l i j c F)) (fun x10 _ => k - (intOf x10).toNat)
                    case atStart => exact ⟨0, Nat.zero_le _, rfl, ⟨_, HSTS.out, HCS.out⟩⟩
                    case round =>
                      obtain ⟨c, hc, rfl, h'⟩ := hrel
                      obtain ⟨F, hst, hcf⟩ := h'.out
                      have HST := Lib.hid hst
                      have HCF := Lib.hid hcf
                      have HDM := Lib.hid hst.dim
                      clear h' hst hcf HSTS HCS
                      have hc0 : (0 : Int) ≤ (c : Int) := by omega
                      have g1 : wr.cell? ⟨w.heap.size, 256, none⟩ = some (.slice (some ad) n ncap) := cell_of_block (HST.out.fr.at_ HB0.out (fun h => h)) (by simpa using H256.out)
                      have g2 : wr.cell? ad = some (.slice ra k rcap) := cell_move (F0.out.tr HST.out.fr) HC1.out
                      have g3 : wr.cell? ⟨g, i, none⟩ = some (.slice (some ⟨bi, 0, none⟩) (n + 1) (n + 1)) := HST.out.hdr hbi
                      have g4 : wr.cell? ⟨bi, j, none⟩ = some (.bool (atF F i j)) := HST.out.cell hbi (by omega)
                      by_cases hck : c < k
                      case neg =>
                        have hckI : ¬ (c : Int) < (k : Int) := by omega
                        have HUP := Lib.hid (HCF.out.done HV.out (.inr (by omega)))
                        go_wp2_with fail
                        go_roundw
                        case rel => exact ⟨j + 1, by omega, by go_num, ⟨_, HST.out, HUP.out⟩⟩
                        case measure => simp [intOf]; omega
                      case pos =>
                        have hckI : (c : Int) < (k : Int) := by omega
                        cases hfij : atF F i j with
                        | true =>
                          rw [hfij] at g4
                          have HUP := Lib.hid (HCF.out.done HV.out (.inl hfij))
                          clear hfij
                          go_wp2_with fail
                          go_roundw
                          case rel => exact ⟨j + 1, by omega, by go_num, ⟨_, HST.out, HUP.out⟩⟩
                          case measure => simp [intOf]; omega
                        | false =>
                          rw [hfij] at g4
                          obtain ⟨x, hx⟩ : ∃ x, toP D n i c = x := ⟨_, rfl⟩
                          obtain ⟨y, hy⟩ : ∃ y, toP D n j c = y := ⟨_, rfl⟩
                          have hxn : x ≤ n := by rw [← hx]; exact toP_le HV.out i c
                          have hyn : y ≤ n := by rw [← hy]; exact toP_le HV.out j c
                          have HX := Lib.hid hx
                          have HY := Lib.hid hy
                          obtain ⟨bx, hbx⟩ : ∃ b, R[x]? = some b := ⟨_, List.getElem?_eq_getElem (by rw [HRL.out]; omega)⟩
                          have hx0 : (0 : Int) ≤ (x : Int) := by omega
                          have hx1 : (x : Int) < (n : Int) + 1 := by omega
                          have hy0 : (0 : Int) ≤ (y : Int) := by omega
                          have hy1 : (y : Int) < (n : Int) + 1 := by omega
                          clear hx hy
                          have HSP := Lib.hid (show ∀ (wx : World) (G : List (List Bool)), ApSt D n wa wx BB (Value.slice (some ⟨g, 0, none⟩) (n + 1) xcap) R (Value.slice (some ⟨tg, 0, none⟩) (n + 1) tcap2) G → (wx.rangeAt w.heap.size 0 C ∧ wx.cell? ⟨g, i, none⟩ = some (.slice (some ⟨bi, 0, none⟩) (n + 1) (n + 1)) ∧ wx.cell? ⟨g, x, none⟩ = some (.slice (some ⟨bx, 0, none⟩) (n + 1) (n + 1))) from fun wx G hs =>
                            ⟨range_of (hs.fr.at_ HB0.out (fun h => h)), hs.hdr hbi, hs.hdr hbx⟩)
                          have HSX := Lib.hid (show ∀ (wx : World), Fr none_ wr wx → (wx.rangeAt w.heap.size 0 C ∧ wx.cell? ⟨g, i, none⟩ = some (.slice (some ⟨bi, 0, none⟩) (n + 1) (n + 1)) ∧ wx.cell? ⟨g, x, none⟩ = some (.slice (some ⟨bx, 0, none⟩) (n + 1) (n + 1))) from fun wx hf => HSP.out _ _ (HST.out.move hf))
                          go_wp2_with fail
                          clear g1 g2 g3 g4
                          refine wp_region_held_drew (S := fun wx => wx.rangeAt w.heap.size 0 C ∧ wx.cell? ⟨g, i, none⟩ = some (.slice (some ⟨bi, 0, none⟩) (n + 1) (n + 1)) ∧ wx.cell? ⟨g, x, none⟩ = some (.slice (some ⟨bx, 0, none⟩) (n + 1) (n + 1))) (by kernel_rfl) (HSX.out _ (Fr.refl none_ wr).drew) (fun hHeld => ?_)
                          try simp only [Act.put, List.setIfInBounds_toArray, List.set_cons_zero, List.set_cons_succ]
                          refine wpAnyH_take (i := 0) (v := ?_) lot0 (by kernel_rfl) (by kernel_rfl) (by kernel_rfl) (fun _ _ _ h => h) (Or.inl ⟨by rfl, ?_⟩) (by assumption) ?_
                          rotate_left
                          · (intro wv hSw; (try dsimp only at hSw); obtain ⟨s1, s2, s3⟩ := hSw; go_simp) <;> with_reducible rfl
                          try simp only [Act.put, List.setIfInBounds_toArray, List.set_cons_zero, List.set_cons_succ]
                          refine wpAnyH_take (i := 1) (v := ?_) lot1 (by kernel_rfl) (by kernel_rfl) (by kernel_rfl) (fun _ _ _ h => h) (Or.inl ⟨by rfl, ?_⟩) (by assumption) ?_
                          rotate_left
                          · (intro wv hSw; (try dsimp only at hSw); obtain ⟨s1, s2, s3⟩ := hSw; go_simp) <;> with_reducible rfl
                          try simp only [Act.put, List.setIfInBounds_toArray, List.set_cons_zero, List.set_cons_succ]
                          refine wpAnyH_take (i := 2) (v := ?_) lot2 (by kernel_rfl) (by kernel_rfl) (by kernel_rfl) (fun _ _ _ h => h) (Or.inl ⟨by rfl, ?_⟩) (by assumption) ?_
                          rotate_left
                          · (intro wv hSw; (try dsimp only at hSw); obtain ⟨s1, s2, s3⟩ := hSw; go_simp) <;> with_reducible rfl
                          try simp only [Act.put, List.setIfInBounds_toArray, List.set_cons_zero, List.set_cons_succ]
                          refine wpAnyH_take (i := 3) (v := ?_) lot3 (by kernel_rfl) (by kernel_rfl) (by kernel_rfl) (fun _ _ _ h => h) (Or.inl ⟨by rfl, ?_⟩) (by assumption) ?_
                          rotate_left
                          · (intro wv hSw; (try dsimp only at hSw); obtain ⟨s1, s2, s3⟩ := hSw; go_simp) <;> with_reducible rfl
                          try simp only [Act.put, List.setIfInBounds_toArray, List.set_cons_zero, List.set_cons_succ]
                          refine wpAnyH_take (i := 4) (v := ?_) lot4 (by kernel_rfl) (by kernel_rfl) (by kernel_rfl) (fun _ _ _ h => h) (Or.inl ⟨by rfl, ?_⟩) (by assumption) ?_
                          rotate_left
                          · (intro wv hSw; (try dsimp only at hSw); obtain ⟨s1, s2, s3⟩ := hSw; go_simp) <;> with_reducible rfl
                          try simp only [Act.put, List.setIfInBounds_toArray, List.set_cons_zero, List.set_cons_succ]
                          refine wpAnyH_take (i := 5) (v := ?_) lot5 (by kernel_rfl) (by kernel_rfl) (by kernel_rfl) (fun _ _ _ h => h) (Or.inl ⟨by rfl, ?_⟩) (by assumption) ?_
                          rotate_left
                          · (intro wv hSw; (try dsimp only at hSw); obtain ⟨s1, s2, s3⟩ := hSw; go_simp) <;> with_reducible rfl
                          try simp only [Act.put, List.setIfInBounds_toArray, List.set_cons_zero, List.set_cons_succ]
                          refine wpAnyH_take (i := 6) lot6 (by kernel_rfl) (by kernel_rfl) (by kernel_rfl) (fun _ _ _ h => h) (yieldsIf_load_mid (by rfl) _ _ rfl _ _ rfl C _ (fun _ h => h.1) Tryz.underlying38 rfl (by rw [hz]; exact refD_info)) (by assumption) ?_
                          try simp only [Act.put, List.setIfInBounds_toArray, List.set_cons_zero, List.set_cons_succ]
                          refine wpAnyH_take (i := 7) (v := ?_) lot7 (by kernel_rfl) (by kernel_rfl) (by kernel_rfl) (fun _ _ _ h => h) (Or.inl ⟨by rfl, ?_⟩) (by assumption) ?_
                          rotate_left
                          · (intro wv hSw; (try dsimp only at hSw); obtain ⟨s1, s2, s3⟩ := hSw; go_simp) <;> with_reducible rfl
                          try simp only [Act.put, List.setIfInBounds_toArray, List.set_cons_zero, List.set_cons_succ]
                          refine wpAnyH_take (i := 8) (v := ?_) lot8 (by kernel_rfl) (by kernel_rfl) (by kernel_rfl) (fun _ _ _ h => h) (Or.inl ⟨by rfl, ?_⟩) (by assumption) ?_
                          rotate_left
                          · (intro wv hSw; (try dsimp only at hSw); obtain ⟨s1, s2, s3⟩ := hSw; go_simp) <;> with_reducible rfl
                          try simp only [Act.put, List.setIfInBounds_toArray, List.set_cons_zero, List.set_cons_succ]
                          refine wpAnyH_take (i := 12) lot12 (by kernel_rfl) (by kernel_rfl) (by kernel_rfl) (fun _ _ _ h => h) (yieldsIf_load_mid (by rfl) _ _ rfl _ _ rfl C _ (fun _ h => h.1) Tryz.underlying38 rfl (by rw [hz]; exact refD_info)) (by assumption) ?_
                          try simp only [Act.put, List.setIfInBounds_toArray, List.set_cons_zero, List.set_cons_succ]
                          refine wpAnyH_take (i := 13) (v := ?_) lot13 (by kernel_rfl) (by kernel_rfl) (by kernel_rfl) (fun _ _ _ h => h) (Or.inl ⟨by rfl, ?_⟩) (by assumption) ?_
                          rotate_left
                          · (intro wv hSw; (try dsimp only at hSw); obtain ⟨s1, s2, s3⟩ := hSw; go_simp) <;> with_reducible rfl
                          try simp only [Act.put, List.setIfInBounds_toArray, List.set_cons_zero, List.set_cons_succ]
                          refine wpAnyH_take (i := 14) (v := ?_) lot14 (by kernel_rfl) (by kernel_rfl) (by kernel_rfl) (fun _ _ _ h => h) (Or.inl ⟨by rfl, ?_⟩) (by assumption) ?_
                          rotate_left
                          · (intro wv hSw; (try dsimp only at hSw); obtain ⟨s1, s2, s3⟩ := hSw; go_simp) <;> with_reducible rfl
                          try simp only [Act.put, List.setIfInBounds_toArray, List.set_cons_zero, List.set_cons_succ]
                          refine wpAnyH_ready (rs := [9]) (by kernel_rfl) (by simp) ?_
                          refine AllReadyH.cons lot9 (fun K hK => ?_) AllReadyH.nil
                          go_simp
                          go_at_call 40
                          refine (to_any D n k _ i c _ (HD.out.move (HST.out.fr.drew)) HV.out (by omega) (by omega) hck).mono ?_
                          rintro e wx1 ⟨rfl, Fx1⟩
                          rw [HX.out]
                          have G1 := Lib.hid (((Fr.refl none_ wr).drew).tr Fx1)
                          clear Fx1
                          refine hK.out _ _ (HSX.out _ G1.out) (fun hHeld => ?_)
                          clear hK K
                          try simp only [Act.put, List.setIfInBounds_toArray, List.set_cons_zero, List.set_cons_succ]
                          refine wpAnyH_take (i := 10) (v := ?_) lot10 (by kernel_rfl) (by kernel_rfl) (by kernel_rfl) (fun _ _ _ h => h) (Or.inl ⟨by rfl, ?_⟩) (by assumption) ?_
                          rotate_left
                          · (intro wv hSw; (try dsimp only at hSw); obtain ⟨s1, s2, s3⟩ := hSw; go_simp) <;> with_reducible rfl
                          try simp only [Act.put, List.setIfInBounds_toArray, List.set_cons_zero, List.set_cons_succ]
                          refine wpAnyH_take (i := 11) (v := ?_) lot11 (by kernel_rfl) (by kernel_rfl) (by kernel_rfl) (fun _ _ _ h => h) (Or.inl ⟨by rfl, ?_⟩) (by assumption) ?_
                          rotate_left
                          · (intro wv hSw; (try dsimp only at hSw); obtain ⟨s1, s2, s3⟩ := hSw; go_simp) <;> with_reducible rfl
                          try simp only [Act.put, List.setIfInBounds_toArray, List.set_cons_zero, List.set_cons_succ]
                          refine wpAnyH_ready (rs := [15]) (by kernel_rfl) (by simp) ?_
                          refine AllReadyH.cons lot15 (fun K hK => ?_) AllReadyH.nil
                          go_simp
                          go_at_call 40
                          refine (to_any D n k _ j c _ (HD.out.move (HST.out.fr.tr G1.out)) HV.out (by omega) (by omega) hck).mono ?_
                          rintro e wx2 ⟨rfl, Fx2⟩
                          rw [HY.out]
                          have G2 := Lib.hid (G1.out.tr Fx2)
                          clear Fx2 G1
                          refine hK.out _ _ (HSX.out _ G2.out) (fun hHeld => ?_)
                          clear hK K
                          try simp only [Act.put, List.setIfInBounds_toArray, List.set_cons_zero, List.set_cons_succ]
                          refine wpAnyH_take (i := 16) (v := ?_) lot16 (by kernel_rfl) (by kernel_rfl) (by kernel_rfl) (fun _ _ _ h => h) (Or.inl ⟨by rfl, ?_⟩) (by assumption) ?_
                          rotate_left
                          · (intro wv hSw; (try dsimp only at hSw); obtain ⟨s1, s2, s3⟩ := hSw; go_simp) <;> with_reducible rfl
                          try simp only [Act.put, List.setIfInBounds_toArray, List.set_cons_zero, List.set_cons_succ]
                          have HST2 := Lib.hid (HST.out.move G2.out)
                          have c17 : wx2.cell? ⟨bx, y, none⟩ = some (.bool (atF F x y)) := HST2.out.cell hbx (by omega)
                          have c19 : wx2.cell? ⟨bi, j, none⟩ = some (.bool (atF F i j)) := HST2.out.cell hbi (by omega)
                          have f19 : wx2.frozen? ⟨bi, j, none⟩ = false := HST2.out.free hbi j
                          refine wpAnyH_ready (rs := [17]) (by kernel_rfl) (by simp) ?_
                          refine AllReadyH.cons lot17 (fun K hK => ?_) AllReadyH.nil
                          go_simp
                          refine hK.out _ _ (HSX.out _ G2.out) (fun hHeld => ?_)
                          clear hK K c17
                          try simp only [Act.put, List.setIfInBounds_toArray, List.set_cons_zero, List.set_cons_succ]
                          refine wpAnyH_take (i := 18) (v := ?_) lot18 (by kernel_rfl) (by kernel_rfl) (by kernel_rfl) (fun _ _ _ h => h) (Or.inl ⟨by rfl, ?_⟩) (by assumption) ?_
                          rotate_left
                          · (intro wv hSw; (try dsimp only at hSw); obtain ⟨s1, s2, s3⟩ := hSw; go_simp) <;> with_reducible rfl
                          try simp only [Act.put, List.setIfInBounds_toArray, List.set_cons_zero, List.set_cons_succ]
                          refine wpAnyH_ready (rs := [19]) (by kernel_rfl) (by simp) ?_
                          refine AllReadyH.cons lot19 (fun K hK => ?_) AllReadyH.nil
                          go_simp
                          have HPUT := Lib.hid (HST2.out.put hbi j (atF F x y))
                          refine hK.out _ _ (HSP.out _ _ HPUT.out) (fun hHeld => ?_)
                          clear hK K
                          try simp only [Act.put, List.setIfInBounds_toArray, List.set_cons_zero, List.set_cons_succ]
                          refine wpAnyH_done (by kernel_rfl) ?_ _
                          have HCN := Lib.hid (HCF.out.step HV.out HDM.out (by omega) (by omega) hfij)
                          rw [HX.out, HY.out] at HCN
                          clear c19 f19 HST2 G2
                          go_wp2_with fail
                          go_roundw
                          case rel => exact ⟨c + 1, by omega, by go_num, ⟨_, HPUT.out, HCN.out⟩⟩
                          case measure => simp [intOf]; omega
                  case neg =>
                    have htI : ((T1 : Int) != (T2 : Int)) = true := by simp; omega
                    have HCS := Lib.hid (CellF.start_true HUP.out HST.out.dim hin hjn (show tagP D n i ≠ tagP D n j by rw [HT1.out, HT2.out]; exact hte))
                    go_wp2_with fail
                    go_quiet (fail)
                    have HSTD := Lib.hid (HST.out.move ((Fr.refl none_ wr).drewN nq))
                    obtain ⟨wb, hwb⟩ : ∃ y, wr.drewN nq = y := ⟨_, rfl⟩
                    rw [hwb] at HSTD ⊢
                    clear hwb t1 t2 HST
                    have k3 : wb.cell? ⟨g, i, none⟩ = some (.slice (some ⟨bi, 0, none⟩) (n + 1) (n + 1)) := HSTD.out.hdr hbi
                    have k4 : wb.cell? ⟨bi, j, none⟩ = some (.bool (atF F i j)) := HSTD.out.cell hbi (by omega)
                    have k5 : wb.frozen? ⟨bi, j, none⟩ = false := HSTD.out.free hbi j
                    have HSTS := Lib.hid (HSTD.out.put hbi j true)
                    go_wp2_with fail
                    obtain ⟨wc, hwc⟩ : ∃ y, wb.setCell ⟨bi, j, none⟩ (.bool true) = y := ⟨_, rfl⟩
                    rw [hwc] at HSTS ⊢
                    clear hwc k3 k4 k5 HSTD
                    go_loopw [10] (fun x10 wr => ∃ c : Nat, c ≤ k ∧ x10 = .int .i64 c ∧ Aside (∃ F, ApSt D n wa wr BB (Value.slice (some ⟨g, 0, none⟩) (n + 1) xcap) R (Value.slice (some ⟨tg, 0, none⟩) (n + 1) tcap2) F ∧ CellF D n k l i j c F)) (fun x10 _ => k - (intOf x10).toNat)
                    case atStart => exact ⟨0, Nat.zero_le _, rfl, ⟨_, HSTS.out, HCS.out⟩⟩
                    case round =>
                      obtain ⟨c, hc, rfl, h'⟩ := hrel
                      obtain ⟨F, hst, hcf⟩ := h'.out
                      have HST := Lib.hid hst
                      have HCF := Lib.hid hcf
                      have HDM := Lib.hid hst.dim
                      clear h' hst hcf HSTS HCS
                      have hc0 : (0 : Int) ≤ (c : Int) := by omega
                      have g1 : wr.cell? ⟨w.heap.size, 256, none⟩ = some (.slice (some ad) n ncap) := cell_of_block (HST.out.fr.at_ HB0.out (fun h => h)) (by simpa using H256.out)
                      have g2 : wr.cell? ad = some (.slice ra k rcap) := cell_move (F0.out.tr HST.out.fr) HC1.out
                      have g3 : wr.cell? ⟨g, i, none⟩ = some (.slice (some ⟨bi, 0, none⟩) (n + 1) (n + 1)) := HST.out.hdr hbi
                      have g4 : wr.cell? ⟨bi, j, none⟩ = some (.bool (atF F i j)) := HST.out.cell hbi (by omega)
                      by_cases hck : c < k
                      case neg =>
                        have hckI : ¬ (c : Int) < (k : Int) := by omega
                        have HUP := Lib.hid (HCF.out.done HV.out (.inr (by omega)))
                        go_wp2_with fail
                        go_roundw
                        case rel => exact ⟨j + 1, by omega, by go_num, ⟨_, HST.out, HUP.out⟩⟩
                        case measure => simp [intOf]; omega
                      case pos =>
                        have hckI : (c : Int) < (k : Int) := by omega
                        cases hfij : atF F i j with
                        | true =>
                          rw [hfij] at g4
                          have HUP := Lib.hid (HCF.out.done HV.out (.inl hfij))
                          clear hfij
                          go_wp2_with fail
                          go_roundw
                          case rel => exact ⟨j + 1, by omega, by go_num, ⟨_, HST.out, HUP.out⟩⟩
                          case measure => simp [intOf]; omega
                        | false =>
                          rw [hfij] at g4
                          obtain ⟨x, hx⟩ : ∃ x, toP D n i c = x := ⟨_, rfl⟩
                          obtain ⟨y, hy⟩ : ∃ y, toP D n j c = y := ⟨_, rfl⟩
                          have hxn : x ≤ n := by rw [← hx]; exact toP_le HV.out i c
                          have hyn : y ≤ n := by rw [← hy]; exact toP_le HV.out j c
                          have HX := Lib.hid hx
                          have HY := Lib.hid hy
                          obtain ⟨bx, hbx⟩ : ∃ b, R[x]? = some b := ⟨_, List.getElem?_eq_getElem (by rw [HRL.out]; omega)⟩
                          have hx0 : (0 : Int) ≤ (x : Int) := by omega
                          have hx1 : (x : Int) < (n : Int) + 1 := by omega
                          have hy0 : (0 : Int) ≤ (y : Int) := by omega
                          have hy1 : (y : Int) < (n : Int) + 1 := by omega
                          clear hx hy
                          have HSP := Lib.hid (show ∀ (wx : World) (G : List (List Bool)), ApSt D n wa wx BB (Value.slice (some ⟨g, 0, none⟩) (n + 1) xcap) R (Value.slice (some ⟨tg, 0, none⟩) (n + 1) tcap2) G → (wx.rangeAt w.heap.size 0 C ∧ wx.cell? ⟨g, i, none⟩ = some (.slice (some ⟨bi, 0, none⟩) (n + 1) (n + 1)) ∧ wx.cell? ⟨g, x, none⟩ = some (.slice (some ⟨bx, 0, none⟩) (n + 1) (n + 1))) from fun wx G hs =>
                            ⟨range_of (hs.fr.at_ HB0.out (fun h => h)), hs.hdr hbi, hs.hdr hbx⟩)
                          have HSX := Lib.hid (show ∀ (wx : World), Fr none_ wr wx → (wx.rangeAt w.heap.size 0 C ∧ wx.cell? ⟨g, i, none⟩ = some (.slice (some ⟨bi, 0, none⟩) (n + 1) (n + 1)) ∧ wx.cell? ⟨g, x, none⟩ = some (.slice (some ⟨bx, 0, none⟩) (n + 1) (n + 1))) from fun wx hf => HSP.out _ _ (HST.out.move hf))
                          go_wp2_with fail
                          clear g1 g2 g3 g4
                          refine wp_region_held_drew (S := fun wx => wx.rangeAt w.heap.size 0 C ∧ wx.cell? ⟨g, i, none⟩ = some (.slice (some ⟨bi, 0, none⟩) (n + 1) (n + 1)) ∧ wx.cell? ⟨g, x, none⟩ = some (.slice (some ⟨bx, 0, none⟩) (n + 1) (n + 1))) (by kernel_rfl) (HSX.out _ (Fr.refl none_ wr).drew) (fun hHeld => ?_)
                          try simp only [Act.put, List.setIfInBounds_toArray, List.set_cons_zero, List.set_cons_succ]
                          refine wpAnyH_take (i := 0) (v := ?_) lot0 (by kernel_rfl) (by kernel_rfl) (by kernel_rfl) (fun _ _ _ h => h) (Or.inl ⟨by rfl, ?_⟩) (by assumption) ?_
                          rotate_left
                          · (intro wv hSw; (try dsimp only at hSw); obtain ⟨s1, s2, s3⟩ := hSw; go_simp) <;> with_reducible rfl
                          try simp only [Act.put, List.setIfInBounds_toArray, List.set_cons_zero, List.set_cons_succ]
                          refine wpAnyH_take (i := 1) (v := ?_) lot1 (by kernel_rfl) (by kernel_rfl) (by kernel_rfl) (fun _ _ _ h => h) (Or.inl ⟨by rfl, ?_⟩) (by assumption) ?_
                          rotate_left
                          · (intro wv hSw; (try dsimp only at hSw); obtain ⟨s1, s2, s3⟩ := hSw; go_simp) <;> with_reducible rfl
                          try simp only [Act.put, List.setIfInBounds_toArray, List.set_cons_zero, List.set_cons_succ]
                          refine wpAnyH_take (i := 2) (v := ?_) lot2 (by kernel_rfl) (by kernel_rfl) (by kernel_rfl) (fun _ _ _ h => h) (Or.inl ⟨by rfl, ?_⟩) (by assumption) ?_
                          rotate_left
                          · (intro wv hSw; (try dsimp only at hSw); obtain ⟨s1, s2, s3⟩ := hSw; go_simp) <;> with_reducible rfl
                          try simp only [Act.put, List.setIfInBounds_toArray, List.set_cons_zero, List.set_cons_succ]
                          refine wpAnyH_take (i := 3) (v := ?_) lot3 (by kernel_rfl) (by kernel_rfl) (by kernel_rfl) (fun _ _ _ h => h) (Or.inl ⟨by rfl, ?_⟩) (by assumption) ?_
                          rotate_left
                          · (intro wv hSw; (try dsimp only at hSw); obtain ⟨s1, s2, s3⟩ := hSw; go_simp) <;> with_reducible rfl
                          try simp only [Act.put, List.setIfInBounds_toArray, List.set_cons_zero, List.set_cons_succ]
                          refine wpAnyH_take (i := 4) (v := ?_) lot4 (by kernel_rfl) (by kernel_rfl) (by kernel_rfl) (fun _ _ _ h => h) (Or.inl ⟨by rfl, ?_⟩) (by assumption) ?_
                          rotate_left
                          · (intro wv hSw; (try dsimp only at hSw); obtain ⟨s1, s2, s3⟩ := hSw; go_simp) <;> with_reducible rfl
                          try simp only [Act.put, List.setIfInBounds_toArray, List.set_cons_zero, List.set_cons_succ]
                          refine wpAnyH_take (i := 5) (v := ?_) lot5 (by kernel_rfl) (by kernel_rfl) (by kernel_rfl) (fun _ _ _ h => h) (Or.inl ⟨by rfl, ?_⟩) (by assumption) ?_
                          rotate_left
                          · (intro wv hSw; (try dsimp only at hSw); obtain ⟨s1, s2, s3⟩ := hSw; go_simp) <;> with_reducible rfl
                          try simp only [Act.put, List.setIfInBounds_toArray, List.set_cons_zero, List.set_cons_succ]
                          refine wpAnyH_take (i := 6) lot6 (by kernel_rfl) (by kernel_rfl) (by kernel_rfl) (fun _ _ _ h => h) (yieldsIf_load_mid (by rfl) _ _ rfl _ _ rfl C _ (fun _ h => h.1) Tryz.underlying38 rfl (by rw [hz]; exact refD_info)) (by assumption) ?_
                          try simp only [Act.put, List.setIfInBounds_toArray, List.set_cons_zero, List.set_cons_succ]
                          refine wpAnyH_take (i := 7) (v := ?_) lot7 (by kernel_rfl) (by kernel_rfl) (by kernel_rfl) (fun _ _ _ h => h) (Or.inl ⟨by rfl, ?_⟩) (by assumption) ?_
                          rotate_left
                          · (intro wv hSw; (try dsimp only at hSw); obtain ⟨s1, s2, s3⟩ := hSw; go_simp) <;> with_reducible rfl
                          try simp only [Act.put, List.setIfInBounds_toArray, List.set_cons_zero, List.set_cons_succ]
                          refine wpAnyH_take (i := 8) (v := ?_) lot8 (by kernel_rfl) (by kernel_rfl) (by kernel_rfl) (fun _ _ _ h => h) (Or.inl ⟨by rfl, ?_⟩) (by assumption) ?_
                          rotate_left
                          · (intro wv hSw; (try dsimp only at hSw); obtain ⟨s1, s2, s3⟩ := hSw; go_simp) <;> with_reducible rfl
                          try simp only [Act.put, List.setIfInBounds_toArray, List.set_cons_zero, List.set_cons_succ]
                          refine wpAnyH_take (i := 12) lot12 (by kernel_rfl) (by kernel_rfl) (by kernel_rfl) (fun _ _ _ h => h) (yieldsIf_load_mid (by rfl) _ _ rfl _ _ rfl C _ (fun _ h => h.1) Tryz.underlying38 rfl (by rw [hz]; exact refD_info)) (by assumption) ?_
                          try simp only [Act.put, List.setIfInBounds_toArray, List.set_cons_zero, List.set_cons_succ]
                          refine wpAnyH_take (i := 13) (v := ?_) lot13 (by kernel_rfl) (by kernel_rfl) (by kernel_rfl) (fun _ _ _ h => h) (Or.inl ⟨by rfl, ?_⟩) (by assumption) ?_
                          rotate_left
                          · (intro wv hSw; (try dsimp only at hSw); obtain ⟨s1, s2, s3⟩ := hSw; go_simp) <;> with_reducible rfl
                          try simp only [Act.put, List.setIfInBounds_toArray, List.set_cons_zero, List.set_cons_succ]
                          refine wpAnyH_take (i := 14) (v := ?_) lot14 (by kernel_rfl) (by kernel_rfl) (by kernel_rfl) (fun _ _ _ h => h) (Or.inl ⟨by rfl, ?_⟩) (by assumption) ?_
                          rotate_left
                          · (intro wv hSw; (try dsimp only at hSw); obtain ⟨s1, s2, s3⟩ := hSw; go_simp) <;> with_reducible rfl
                          try simp only [Act.put, List.setIfInBounds_toArray, List.set_cons_zero, List.set_cons_succ]
                          refine wpAnyH_ready (rs := [9]) (by kernel_rfl) (by simp) ?_
                          refine AllReadyH.cons lot9 (fun K hK => ?_) AllReadyH.nil
                          go_simp
                          go_at_call 40
                          refine (to_any D n k _ i c _ (HD.out.move (HST.out.fr.drew)) HV.out (by omega) (by omega) hck).mono ?_
                          rintro e wx1 ⟨rfl, Fx1⟩
                          rw [HX.out]
                          have G1 := Lib.hid (((Fr.refl none_ wr).drew).tr Fx1)
                          clear Fx1
                          refine hK.out _ _ (HSX.out _ G1.out) (fun hHeld => ?_)
                          clear hK K
                          try simp only [Act.put, List.setIfInBounds_toArray, List.set_cons_zero, List.set_cons_succ]
                          refine wpAnyH_take (i := 10) (v := ?_) lot10 (by kernel_rfl) (by kernel_rfl) (by kernel_rfl) (fun _ _ _ h => h) (Or.inl ⟨by rfl, ?_⟩) (by assumption) ?_
                          rotate_left
                          · (intro wv hSw; (try dsimp only at hSw); obtain ⟨s1, s2, s3⟩ := hSw; go_simp) <;> with_reducible rfl
                          try simp only [Act.put, List.setIfInBounds_toArray, List.set_cons_zero, List.set_cons_succ]
                          refine wpAnyH_take (i := 11) (v := ?_) lot11 (by kernel_rfl) (by kernel_rfl) (by kernel_rfl) (fun _ _ _ h => h) (Or.inl ⟨by rfl, ?_⟩) (by assumption) ?_
                          rotate_left
                          · (intro wv hSw; (try dsimp only at hSw); obtain ⟨s1, s2, s3⟩ := hSw; go_simp) <;> with_reducible rfl
                          try simp only [Act.put, List.setIfInBounds_toArray, List.set_cons_zero, List.set_cons_succ]
                          refine wpAnyH_ready (rs := [15]) (by kernel_rfl) (by simp) ?_
                          refine AllReadyH.cons lot15 (fun K hK => ?_) AllReadyH.nil
                          go_simp
                          go_at_call 40
                          refine (to_any D n k _ j c _ (HD.out.move (HST.out.fr.tr G1.out)) HV.out (by omega) (by omega) hck).mono ?_
                          rintro e wx2 ⟨rfl, Fx2⟩
                          rw [HY.out]
                          have G2 := Lib.hid (G1.out.tr Fx2)
                          clear Fx2 G1
                          refine hK.out _ _ (HSX.out _ G2.out) (fun hHeld => ?_)
                          clear hK K
                          try simp only [Act.put, List.setIfInBounds_toArray, List.set_cons_zero, List.set_cons_succ]
                          refine wpAnyH_take (i := 16) (v := ?_) lot16 (by kernel_rfl) (by kernel_rfl) (by kernel_rfl) (fun _ _ _ h => h) (Or.inl ⟨by rfl, ?_⟩) (by assumption) ?_
                          rotate_left
                          · (intro wv hSw; (try dsimp only at hSw); obtain ⟨s1, s2, s3⟩ := hSw; go_simp) <;> with_reducible rfl
                          try simp only [Act.put, List.setIfInBounds_toArray, List.set_cons_zero, List.set_cons_succ]
                          have HST2 := Lib.hid (HST.out.move G2.out)
                          have c17 : wx2.cell? ⟨bx, y, none⟩ = some (.bool (atF F x y)) := HST2.out.cell hbx (by omega)
                          have c19 : wx2.cell? ⟨bi, j, none⟩ = some (.bool (atF F i j)) := HST2.out.cell hbi (by omega)
                          have f19 : wx2.frozen? ⟨bi, j, none⟩ = false := HST2.out.free hbi j
                          refine wpAnyH_ready (rs := [17]) (by kernel_rfl) (by simp) ?_
                          refine AllReadyH.cons lot17 (fun K hK => ?_) AllReadyH.nil
                          go_simp
                          refine hK.out _ _ (HSX.out _ G2.out) (fun hHeld => ?_)
                          clear hK K c17
                          try simp only [Act.put, List.setIfInBounds_toArray, List.set_cons_zero, List.set_cons_succ]
                          refine wpAnyH_take (i := 18) (v := ?_) lot18 (by kernel_rfl) (by kernel_rfl) (by kernel_rfl) (fun _ _ _ h => h) (Or.inl ⟨by rfl, ?_⟩) (by assumption) ?_
                          rotate_left
                          · (intro wv hSw; (try dsimp only at hSw); obtain ⟨s1, s2, s3⟩ := hSw; go_simp) <;> with_reducible rfl
                          try simp only [Act.put, List.setIfInBounds_toArray, List.set_cons_zero, List.set_cons_succ]
                          refine wpAnyH_ready (rs := [19]) (by kernel_rfl) (by simp) ?_
                          refine AllReadyH.cons lot19 (fun K hK => ?_) AllReadyH.nil
                          go_simp
                          have HPUT := Lib.hid (HST2.out.put hbi j (atF F x y))
                          refine hK.out _ _ (HSP.out _ _ HPUT.out) (fun hHeld => ?_)
                          clear hK K
                          try simp only [Act.put, List.setIfInBounds_toArray, List.set_cons_zero, List.set_cons_succ]
                          refine wpAnyH_done (by kernel_rfl) ?_ _
                          have HCN := Lib.hid (HCF.out.step HV.out HDM.out (by omega) (by omega) hfij)
                          rw [HX.out, HY.out] at HCN
                          clear c19 f19 HST2 G2
                          go_wp2_with fail
                          go_roundw
                          case rel => exact ⟨c + 1, by omega, by go_num, ⟨_, HPUT.out, HCN.out⟩⟩
                          case measure => simp [intOf]; omega
end Go.Proofs.YtnenbihmokolpaaGreatDoor

namespace Go.Proofs.YtnenbihmokolpaaGreatDoor set_option linter.unusedVariables false set_option linter.unusedSimpArgs false
open Go.RowKit

set_option maxRecDepth 100000 in
set_option maxHeartbeats 4000000 in
theorem refgo_any (D : Dfa) (v : Value) (at_ : Int) (b : Nat) (w : World) (h : DfaIn w v D) (hb : b < 256) :
    Calls Tryz.prog 45 #[v, .int .i64 at_, .int .u8 b] w fun e w' => e = .returned (.int .i64 (goM D at_ b)) ∧ Fr none_ w w' := by
  obtain ⟨nv, tv, rfl, hn, ht⟩ := h.ex
  obtain ⟨na, ncap, rfl, hrow⟩ := hn
  have HL := h.len
  obtain ⟨h256, h257⟩ := dfaC_at HL (.slice na D.next.length ncap) tv
  have hcb := dfaC_cls HL (.slice na D.next.length ncap) tv hb
  obtain ⟨C, hC⟩ : ∃ C, dfaC D.cls (.slice na D.next.length ncap) tv = C := ⟨_, rfl⟩
  rw [hC] at h256 h257 hcb ⊢
  obtain ⟨c, hc⟩ : ∃ c, D.cls.getD b 0 = c := ⟨_, rfl⟩
  rw [hc] at hcb
  have hbi : (b : Int) < 256 := by omega
  have hG : goM D at_ b = if at_ < 0 ∨ (D.next.length : Int) ≤ at_ ∨ c < 0 ∨ ((D.next.getD at_.toNat []).length : Int) ≤ c then -1 else
      if (D.next.getD at_.toNat []).getD c.toNat 0 < 0 ∨ (D.next.length : Int) ≤ (D.next.getD at_.toNat []).getD c.toNat 0 then -1 else (D.next.getD at_.toNat []).getD c.toNat 0 := by
    unfold goM; rw [hc]
  have HG := Lib.hid hG
  have HR := Lib.hid hrow
  clear hG hrow hC hc ht h
  have NB := alloc_new w (.cells C.toArray 38)
  have f1 : (w.alloc (.cells C.toArray 38)).cell? ⟨w.heap.size, b, none⟩ = some (.int .i64 c) := by
    rw [Lib.cell_of_heap NB]; simpa using hcb
  have f2 : (w.alloc (.cells C.toArray 38)).cell? ⟨w.heap.size, 256, none⟩ = some (.slice na D.next.length ncap) := by
    rw [Lib.cell_of_heap NB]; simpa using h256
  have HF := Lib.hid ((Fr.refl none_ w).alloc (.cells C.toArray 38))
  clear NB hcb h256 h257
  obtain ⟨N, hN⟩ : ∃ N, D.next.length = N := ⟨_, rfl⟩
  have HN := Lib.hid hN
  rw [hN] at HG f2
  clear hN
  by_cases h1 : at_ < 0
  · have HV := Lib.hid (show goM D at_ b = -1 by rw [HG.out, if_pos (.inl h1)])
    go_enter Tryz.func45, Tryz.ntmps45
    go_wp2_with fail
    go_ret
    exact ⟨by rw [HV.out]; rfl, HF.out⟩
  obtain ⟨i, rfl⟩ := Int.eq_ofNat_of_zero_le (show 0 ≤ at_ by omega)
  have hi0 : (0 : Int) ≤ (i : Int) := by omega
  by_cases h2 : N ≤ i
  · have HV := Lib.hid (show goM D i b = -1 by rw [HG.out, if_pos (.inr (.inl (by omega)))])
    have h2' : (N : Int) ≤ (i : Int) := by omega
    clear h1
    go_enter Tryz.func45, Tryz.ntmps45
    go_wp2_with fail
    go_ret
    exact ⟨by rw [HV.out]; rfl, HF.out⟩
  have h2' : (i : Int) < (N : Int) := by omega
  by_cases h3 : c < 0
  · have HV := Lib.hid (show goM D i b = -1 by rw [HG.out, if_pos (.inr (.inr (.inl h3)))])
    clear h1 h2
    have b1 : decide (c < 0) = true := by simp <;> omega
    go_enter Tryz.func45, Tryz.ntmps45
    go_wp2_with fail
    go_quiet (fail)
    go_wp2_with fail
    go_ret
    exact ⟨by rw [HV.out]; rfl, HF.out.drewN _⟩
  obtain ⟨k, rfl⟩ := Int.eq_ofNat_of_zero_le (show 0 ≤ c by omega)
  have hk0 : (0 : Int) ≤ (k : Int) := by omega
  obtain ⟨row, hrow⟩ : ∃ row, D.next[i]? = some row := ⟨_, List.getElem?_eq_getElem (by rw [HN.out]; omega)⟩
  have hget : D.next.getD i [] = row := by simp [List.getD, hrow]
  obtain ⟨ad, rv, rfl, hcell, ra, rcap, rfl, hr⟩ := HR.out i row hrow
  have f3 := cell_move HF.out hcell
  have hG2 := HG.out
  simp only [Int.toNat_natCast, hget] at hG2
  obtain ⟨M, hM⟩ : ∃ M, row.length = M := ⟨_, rfl⟩
  have HM := Lib.hid hM
  rw [hM] at hG2 f3
  have HG2 := Lib.hid hG2
  have HR2 := Lib.hid hr
  clear h1 h2 h3 hget hcell hG2 hr hM
  by_cases h4 : M ≤ k
  · have HV := Lib.hid (show goM D i b = -1 by rw [HG2.out, if_pos (.inr (.inr (.inr (by omega))))])
    have h4' : (M : Int) ≤ (k : Int) := by omega
    have b1 : decide ((k : Int) < 0) = false := by simp <;> omega
    have b2 : decide ((M : Int) ≤ (k : Int)) = true := by simp <;> omega
    go_enter Tryz.func45, Tryz.ntmps45
    go_wp2_with fail
    go_quiet (fail)
    go_wp2_with fail
    go_ret
    exact ⟨by rw [HV.out]; rfl, HF.out.drewN _⟩
  have h4' : (k : Int) < (M : Int) := by omega
  obtain ⟨to, hto⟩ : ∃ to, row[k]? = some to := ⟨_, List.getElem?_eq_getElem (by rw [HM.out]; omega)⟩
  have hget2 : row.getD k 0 = to := by simp [List.getD, hto]
  obtain ⟨rad, rfl, hcell2⟩ := HR2.out k to hto
  have f4 := cell_move HF.out hcell2
  have hG3 := HG2.out
  rw [if_neg (by omega)] at hG3
  rw [hget2] at hG3
  have HG3 := Lib.hid hG3
  clear h4 hcell2 hG3 hget2 hto
  by_cases h5 : to < 0
  · have HV := Lib.hid (show goM D i b = -1 by rw [HG3.out, if_pos (.inl h5)])
    have b1 : decide ((k : Int) < 0) = false := by simp <;> omega
    have b2 : decide (M ≤ k) = false := by simp <;> omega
    have b3 : decide (to < 0) = true := by simp <;> omega
    go_enter Tryz.func45, Tryz.ntmps45
    go_wp2_with fail
    go_quiet (fail)
    go_wp2_with fail
    go_ret
    exact ⟨by rw [HV.out]; rfl, HF.out.drewN _⟩
  have h5' : 0 ≤ to := by omega
  by_cases h6 : (N : Int) ≤ to
  · have HV := Lib.hid (show goM D i b = -1 by rw [HG3.out, if_pos (.inr h6)])
    clear h5
    have b1 : decide ((k : Int) < 0) = false := by simp <;> omega
    have b2 : decide (M ≤ k) = false := by simp <;> omega
    have b3 : decide (to < 0) = false := by simp <;> omega
    have b4 : decide ((N : Int) ≤ to) = true := by simp <;> omega
    go_enter Tryz.func45, Tryz.ntmps45
    go_wp2_with fail
    go_quiet (fail)
    go_wp2_with fail
    go_ret
    exact ⟨by rw [HV.out]; rfl, HF.out.drewN _⟩
  have HV := Lib.hid (show goM D i b = to by rw [HG3.out, if_neg (by omega)])
  have h6' : to < (N : Int) := by omega
  clear h5 h6
  have b1 : decide ((k : Int) < 0) = false := by simp <;> omega
  have b2 : decide (M ≤ k) = false := by simp <;> omega
  have b3 : decide (to < 0) = false := by simp <;> omega
  have b4 : decide ((N : Int) ≤ to) = false := by simp <;> omega
  go_enter Tryz.func45, Tryz.ntmps45
  go_wp2_with fail
  go_quiet (fail)
  go_wp2_with fail
  go_ret
  exact ⟨by rw [HV.out]; rfl, HF.out.drewN _⟩
set_option maxRecDepth 100000 in
set_option maxHeartbeats 4000000 in
theorem refrun_any (D : Dfa) (v : Value) (s : ByteArray) (w : World) (h : DfaIn w v D) (hs : s.size < 4611686018427387904) :
    Calls Tryz.prog 19 #[v, .string s] w fun e w' => e = .returned (.int .u64 (runD D (bytesN s))) ∧ Fr none_ w w' := by
  have HD := Lib.hid h
  obtain ⟨nv, tv, rfl, hn, ht⟩ := h.ex
  obtain ⟨na, ncap, rfl, _⟩ := hn
  obtain ⟨ta, tcap, rfl, htag⟩ := ht
  have HT := Lib.hid htag
  obtain ⟨h256, h257⟩ := dfaC_at h.len (.slice na D.next.length ncap) (.slice ta D.tags.length tcap)
  have HC := Lib.hid (dfaC_length D.cls (.slice na D.next.length ncap) (.slice ta D.tags.length tcap) h.len)
  obtain ⟨C, hC⟩ : ∃ C, dfaC D.cls (.slice na D.next.length ncap) (.slice ta D.tags.length tcap) = C := ⟨_, rfl⟩
  rw [hC] at h256 h257 HC HD ⊢
  clear hC h htag
  have NB := Lib.hid (alloc_new w (.cells C.toArray 38))
  have H256 := Lib.hid h256
  have H257 := Lib.hid h257
  have HF := Lib.hid ((Fr.refl none_ w).alloc (.cells C.toArray 38))
  clear h256 h257
  go_enter Tryz.func19, Tryz.ntmps19
  go_wp2_with fail
  go_loopw [5, 6] (fun x5 x9 wr => ∃ i : Nat, i ≤ s.size ∧ x9 = .int .i64 i ∧ x5 = .int .i64 (atD D 0 ((bytesN s).take i)) ∧ Aside (Fr none_ (w.alloc (.cells C.toArray 38)) wr)) (fun _ x9 _ => s.size - (intOf x9).toNat)
  case atStart => exact ⟨0, Nat.zero_le _, rfl, rfl, Fr.refl _ _⟩
  case round =>
    obtain ⟨i, hi', rfl, rfl, hF'⟩ := hrel
    have HFr := Lib.hid hF'.out
    clear hF'
    obtain ⟨at_, hat⟩ : ∃ a, atD D 0 ((bytesN s).take i) = a := ⟨_, rfl⟩
    have HAT := Lib.hid hat
    rw [hat]
    clear hat
    by_cases hlt : i < s.size
    · have hil : (i : Int) < (s.size : Int) := by omega
      have hi0 : (0 : Int) ≤ (i : Int) := by omega
      have HS := Lib.hid (show atD D 0 ((bytesN s).take (i + 1)) = goM D at_ (byteAt s i) by
        rw [bytesN_take s i hlt, atD_snoc, HAT.out])
      have hbl := byteAt_lt s i
      have hbe := byteAt_eq s i hlt
      have HBE := Lib.hid hbe
      clear hbe
      go_wp2_with fail
      refine wp_region_held_drew (S := fun w' => w'.rangeAt w.heap.size 0 C) (by kernel_rfl) (range_of (HFr.out.drew.at_ NB.out (fun h => h))) (fun hHeld => ?_)
      refine wpAnyH_take (i := 0) lot0 (by kernel_rfl) (by kernel_rfl) (by kernel_rfl) (fun _ _ _ h => h) (yieldsIf_load_mid (by rfl) _ _ rfl _ _ rfl C _ (fun _ h => h) Tryz.underlying38 rfl (by rw [HC.out]; exact refD_info)) (by assumption) ?_
      try simp only [Act.put, List.setIfInBounds_toArray, List.set_cons_zero, List.set_cons_succ]
      refine wpAnyH_take (i := 1) (v := ?_) lot1 (by kernel_rfl) (by kernel_rfl) (by kernel_rfl) (fun _ _ _ h => h) (Or.inl ⟨by rfl, ?_⟩) (by assumption) ?_
      rotate_left
      · (intro w hSw; (try dsimp only at hSw); go_simp) <;> with_reducible rfl
      try simp only [Act.put, List.setIfInBounds_toArray, List.set_cons_zero, List.set_cons_succ]
      refine wpAnyH_take (i := 2) (v := ?_) lot2 (by kernel_rfl) (by kernel_rfl) (by kernel_rfl) (fun _ _ _ h => h) (Or.inl ⟨by rfl, ?_⟩) (by assumption) ?_
      rotate_left
      · (intro w hSw; (try dsimp only at hSw); go_simp) <;> with_reducible rfl
      try simp only [Act.put, List.setIfInBounds_toArray, List.set_cons_zero, List.set_cons_succ]
      refine wpAnyH_take (i := 3) (v := ?_) lot3 (by kernel_rfl) (by kernel_rfl) (by kernel_rfl) (fun _ _ _ h => h) (Or.inl ⟨by rfl, ?_⟩) (by assumption) ?_
      rotate_left
      · (intro w hSw; (try dsimp only at hSw); go_simp) <;> with_reducible rfl
      try simp only [Act.put, List.setIfInBounds_toArray, List.set_cons_zero, List.set_cons_succ]
      refine wpAnyH_take (i := 4) (v := ?_) lot4 (by kernel_rfl) (by kernel_rfl) (by kernel_rfl) (fun _ _ _ h => h) (Or.inl ⟨by rfl, ?_⟩) (by assumption) ?_
      rotate_left
      · (intro w hSw; (try dsimp only at hSw); go_simp) <;> with_reducible rfl
      try simp only [Act.put, List.setIfInBounds_toArray, List.set_cons_zero, List.set_cons_succ]
      refine wpAnyH_ready (rs := [5]) (by kernel_rfl) (by simp) ?_
      refine AllReadyH.cons lot5 (fun K hK => ?_) AllReadyH.nil
      go_simp
      go_at_call 45
      rw [HBE.out]
      refine (refgo_any D _ at_ (byteAt s i) _ (HD.out.move (HF.out.tr HFr.out.drew)) hbl).mono ?_
      rintro e wx ⟨rfl, Fx⟩
      have Gx := Lib.hid ((HFr.out.drew).tr Fx)
      clear Fx
      refine hK.out _ _ (range_of (Gx.out.at_ NB.out (fun h => h))) (fun hHeld => ?_)
      clear hK K
      try simp only [Act.put, List.setIfInBounds_toArray, List.set_cons_zero, List.set_cons_succ]
      refine wpAnyH_take (i := 6) (v := ?_) lot6 (by kernel_rfl) (by kernel_rfl) (by kernel_rfl) (fun _ _ _ h => h) (Or.inl ⟨by rfl, ?_⟩) (by assumption) ?_
      rotate_left
      · (intro w hSw; (try dsimp only at hSw); go_simp) <;> with_reducible rfl
      try simp only [Act.put, List.setIfInBounds_toArray, List.set_cons_zero, List.set_cons_succ]
      refine wpAnyH_done (by kernel_rfl) ?_ _
      go_wp2_with fail
      go_roundw
      case rel => exact ⟨i + 1, by omega, by go_num, by rw [HS.out], Gx.out⟩
      case measure => simp [intOf]; omega
    · obtain rfl : i = s.size := by omega
      have htk : (bytesN s).take s.size = bytesN s := List.take_of_length_le (by rw [bytesN_length]; exact Nat.le_refl _)
      have HAT2 := HAT.out
      rw [htk] at HAT2
      have HR := Lib.hid (show runD D (bytesN s) = tagD D at_ by rw [runD, HAT2])
      clear HAT2 htk
      have NBr := HFr.out.at_ NB.out (fun h => h)
      have f1 : wr.cell? ⟨w.heap.size, 256, none⟩ = some (.slice na D.next.length ncap) := by rw [Lib.cell_of_heap NBr]; simpa using H256.out
      have f2 : wr.cell? ⟨w.heap.size, 257, none⟩ = some (.slice ta D.tags.length tcap) := by rw [Lib.cell_of_heap NBr]; simpa using H257.out
      have HW := Lib.hid (HF.out.tr HFr.out)
      obtain ⟨N, hN⟩ : ∃ N, D.next.length = N := ⟨_, rfl⟩
      obtain ⟨M, hM⟩ : ∃ M, D.tags.length = M := ⟨_, rfl⟩
      have HTD := Lib.hid (show tagD D at_ = if at_ < 0 ∨ (Nat.min M N : Int) ≤ at_ then 0 else D.tags.getD at_.toNat 0 by rw [tagD, hN, hM])
      have HM := Lib.hid hM
      rw [hN] at f1
      rw [hM] at f2
      clear NBr hN hM
      by_cases h1 : at_ < 0
      · have HV := Lib.hid (show tagD D at_ = 0 by rw [HTD.out, if_pos (.inl h1)])
        go_wp2_with fail
        go_ret
        exact ⟨by rw [HR.out, HV.out]; rfl, HW.out⟩
      obtain ⟨k, rfl⟩ := Int.eq_ofNat_of_zero_le (show 0 ≤ at_ by omega)
      have hk0 : ¬ (k : Int) < 0 := by omega
      by_cases h2 : M ≤ k
      · have hmin : Nat.min M N ≤ M := Nat.min_le_left _ _
        have h2' : (M : Int) ≤ (k : Int) := by omega
        have HV := Lib.hid (show tagD D k = 0 by rw [HTD.out, if_pos (.inr (by omega))])
        clear hmin h1
        go_wp2_with fail
        go_ret
        exact ⟨by rw [HR.out, HV.out]; rfl, HW.out⟩
      have h2' : (k : Int) < (M : Int) := by omega
      by_cases h3 : N ≤ k
      · have hmin : Nat.min M N ≤ N := Nat.min_le_right _ _
        have h3' : (N : Int) ≤ (k : Int) := by omega
        have HV := Lib.hid (show tagD D k = 0 by rw [HTD.out, if_pos (.inr (by omega))])
        clear hmin h1
        go_wp2_with fail
        go_ret
        exact ⟨by rw [HR.out, HV.out]; rfl, HW.out⟩
      have h3' : (k : Int) < (N : Int) := by omega
      obtain ⟨z, hz⟩ : ∃ z, D.tags[k]? = some z := ⟨_, List.getElem?_eq_getElem (by rw [HM.out]; omega)⟩
      have hmin : k < Nat.min M N := Nat.lt_min.2 ⟨by omega, by omega⟩
      have HV := Lib.hid (show tagD D k = z by rw [HTD.out, if_neg (by omega)]; simp [List.getD, hz])
      obtain ⟨ad, rfl, hc⟩ := HT.out k z hz
      have f3 := cell_move HW.out hc
      clear hmin h1 hc hz
      go_wp2_with fail
      go_ret
      exact ⟨by rw [HR.out, HV.out]; rfl, HW.out⟩
end Go.Proofs.YtnenbihmokolpaaGreatDoor
