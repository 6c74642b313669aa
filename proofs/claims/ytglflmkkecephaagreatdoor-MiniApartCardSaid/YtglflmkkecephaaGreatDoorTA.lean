/-
  The reference of layer 6: to, tagged; Of of layer 5.
  A table of who is told apart, filled in place; how it lies.
  Apart of the reference: the walk.
  MiniApart: the walk.
  MiniApart: for every input.
-/
import Derived.Test.YtglflmkkecephaaGreatDoorMD
import Derived.Test.YtglflmkkecephaaGreatDoorMA
namespace Go.Proofs.YtglflmkkecephaaGreatDoor
open Go.RowKit

theorem refD_info : (Tryz.prog.info? 34).map (·.size) = some 258 := by kernel_rfl
theorem zeroR_list : Tryz.zeroCells34 = Tryz.zeroCells26 := by kernel_rfl
theorem to_row {D : Dfa} {n k : Nat} (hv : DV D n k) {i c : Nat} (hi : i < n) (hc : c < k) : ∃ r, D.next[i]? = some r ∧ r.length = k ∧ ∃ t : Int, r[c]? = some t ∧ toD D (plQ n i) c = t ∧ -1 ≤ t ∧ t < n := by
  have hil : i < D.next.length := by rw [hv.hn]; exact hi
  obtain ⟨h1, h2⟩ := hv.row _ (List.getElem_mem hil)
  refine ⟨D.next[i], List.getElem?_eq_getElem hil, h1, ?_⟩
  have hcl : c < (D.next[i]).length := by rw [h1]; exact hc
  refine ⟨(D.next[i])[c], List.getElem?_eq_getElem hcl, ?_, h2 _ (List.getElem_mem hcl)⟩
  rw [plQ, if_pos hi, to_at]
  simp [List.getD, List.getElem?_eq_getElem hil, List.getElem?_eq_getElem hcl]

set_option maxRecDepth 100000 in
set_option maxHeartbeats 4000000 in
theorem to_any (D : Dfa) (n k : Nat) (v : Value) (i c : Nat) (w : World) (h : DfaIn w v D) (hv : DV D n k) (hn : n ≤ 10000) (hi : i ≤ n) (hc : c < k) :
    Calls Tryz.prog 38 #[v, .int .i64 i, .int .i64 c] w fun e w' => e = .returned (.int .i64 (toP D n i c)) ∧ Fr none_ w w' := by
  obtain ⟨C, na, ta, ncap, tcap, rfl, hz, h256, h257, hrow, htag⟩ := h.all
  rw [hv.hn] at h256
  have HR := Lib.hid hrow
  have B0 := Lib.hid (alloc_new w (.cells C.toArray 34))
  have F0 := Lib.hid ((Fr.refl none_ w).alloc (.cells C.toArray 34))
  have f1 : (w.alloc (.cells C.toArray 34)).cell? ⟨w.heap.size, 256, none⟩ = some (.slice na n ncap) := cell_of_block B0.out (by simpa using h256)
  have hi0 : (0 : Int) ≤ (i : Int) := by omega
  have hc0 : (0 : Int) ≤ (c : Int) := by omega
  clear h hrow htag h256 h257
  by_cases hlt : i < n
  · have hil : ¬ (n : Int) ≤ (i : Int) := by omega
    have hil2 : (i : Int) < (n : Int) := by omega
    obtain ⟨r, hr, hrk, t, ht, hto, ht1, ht2⟩ := to_row hv hlt hc
    have HTO := Lib.hid hto
    obtain ⟨ad, rv, rfl, hc1, ra, rcap, rfl, hrc⟩ := HR.out i r hr
    obtain ⟨xd, rfl, hcx⟩ := hrc c t ht
    rw [hrk] at hc1
    have f2 := F0.out.cell hc1 (fun h => h)
    have f3 := F0.out.cell hcx (fun h => h)
    have hck : (c : Int) < (k : Int) := by omega
    clear hrc hc1 hcx hr ht hto
    by_cases h0 : t < 0
    · have HT := Lib.hid (show toP D n i c = n by rw [toP, HTO.out, if_pos h0])
      go_enter Tryz.func38, Tryz.ntmps38
      go_wp2_with fail
      go_ret
      exact ⟨by rw [HT.out]; rfl, F0.out⟩
    · have HT := Lib.hid (show toP D n i c = t.toNat by rw [toP, HTO.out, if_neg h0])
      go_enter Tryz.func38, Tryz.ntmps38
      go_wp2_with fail
      go_ret
      exact ⟨by rw [HT.out, Int.toNat_of_nonneg (by omega)]; rfl, F0.out⟩
  · obtain rfl : i = n := by omega
    have hil : (i : Int) ≤ (i : Int) := by omega
    have HT := Lib.hid (show toP D i i c = i by
      have hq : plQ i i = -1 := if_neg (by omega)
      rw [toP, hq, to_neg D (by decide), if_pos (by decide)])
    go_enter Tryz.func38, Tryz.ntmps38
    go_wp2_with fail
    go_ret
    exact ⟨by rw [HT.out]; rfl, F0.out⟩

set_option maxRecDepth 100000 in
set_option maxHeartbeats 4000000 in
theorem tagged_any (D : Dfa) (n k : Nat) (v : Value) (w : World) (h : DfaIn w v D) (hv : DV D n k) (hn : n ≤ 10000) :
    Calls Tryz.prog 37 #[v] w fun e w' => ∃ u, e = .returned u ∧ w'.ownsRow w.heap.size 39 1 u (n + 1) (setsV (D.tags ++ [0])) ∧ Fr none_ w w' := by
  obtain ⟨C, na, ta, ncap, tcap, rfl, hz, h256, h257, hrow, htag⟩ := h.all
  have hpos := hv.pos
  have htl := hv.ht
  rw [htl] at h257
  obtain ⟨td, rfl, htc⟩ : ∃ ad, ta = some ad ∧ ∀ (j : Nat) (u : Value), (setsV D.tags)[j]? = some u → w.cell? (ad.add j) = some u := by
    obtain ⟨ad, e0, _⟩ := htag 0 _ (List.getElem?_eq_getElem (show 0 < D.tags.length by omega))
    refine ⟨ad, e0, fun j u hu => ?_⟩
    rw [setsV, List.getElem?_map] at hu
    cases hz : D.tags[j]? with
    | none => rw [hz] at hu; simp at hu
    | some z =>
      rw [hz] at hu
      obtain ⟨ad2, e, h2⟩ := htag j z hz
      rw [e0] at e
      injection e with e
      subst e
      rw [h2]
      simpa using hu
  have B0 := Lib.hid (alloc_new w (.cells C.toArray 34))
  have F0 := Lib.hid ((Fr.refl none_ w).alloc (.cells C.toArray 34))
  have f1 : (w.alloc (.cells C.toArray 34)).cell? ⟨w.heap.size, 257, none⟩ = some (.slice (some td) n tcap) := cell_of_block B0.out (by simpa using h257)
  have HNT := Lib.hid (show ∀ (j : Nat) (u : Value), (setsV D.tags)[j]? = some u → (w.alloc (.cells C.toArray 34)).cell? (td.add j) = some u from fun j u hu => F0.out.cell (htc j u hu) (fun h => h))
  have hsl : (setsV D.tags).length = n := by rw [setsV, List.length_map]; exact htl
  have HSO := Lib.hid (show ∀ u ∈ setsV D.tags, u.oneCell' = true from fun u hu => by
    simp only [setsV, List.mem_map] at hu
    obtain ⟨m, _, rfl⟩ := hu
    rfl)
  obtain ⟨j0, hj, hy0, hy1, hy2⟩ := info_parts set_info
  obtain ⟨B, hB⟩ : ∃ B, w.heap.size = B := ⟨_, rfl⟩
  have hBw : B ≤ w.heap.size := by omega
  have HOW := Lib.hid (show (w.alloc (.cells C.toArray 34)).ownsRow B 39 1 (.slice none 0 0) 0 [] from World.ownsRow_nil _ _ _ _)
  have HBB := Lib.hid hB
  clear h hrow htag h256 h257 htc hB
  go_enter Tryz.func37, Tryz.ntmps37
  go_wp2_with (at_builtin; refine wpList_append_lies _ rfl (.tmp 4) (.tmp 6) 24 rfl B 39 j0 _ 1 8 Tryz.underlying24 hj hy0 hy1 hy2 rfl (by decide) _ 0 [] rfl HOW.out td n tcap (setsV D.tags) rfl (by rw [hsl, Nat.mul_one]) HNT.out HSO.out hpos (by unfold maxLen; omega) (by omega) (by simp; omega) _ rfl ?_)
  intro g5 cap5 y3 hown hgrow hat hlt
  try simp only [Nat.zero_add, List.nil_append] at hown
  have F3 := Lib.hid (F0.out.grown hgrow (fun k hk => by simp [Value.ownBlock] at hk))
  have HO4 := Lib.hid hown
  have hB3 : B ≤ y3.heap.size := by have := F3.out.size; omega
  clear f1 HNT HSO hown hgrow hat hlt
  go_wp2_with (at_builtin; refine wpList_append_lies _ rfl (.tmp 8) (.tmp 9) 24 rfl B 39 j0 _ 1 8 Tryz.underlying24 hj hy0 hy1 hy2 rfl (by decide) _ n (setsV D.tags) rfl (HO4.out.alloc _) ⟨y3.heap.size, 0, none⟩ 1 1 [.int .u64 0] rfl rfl (getElem_block (alloc_new _ _)) (by simp [Value.oneCell']) (by decide) (by unfold maxLen; omega) (by omega) (by first | omega | (simp; omega)) (y3.heap.size + 1) (by simp) ?_)
  intro g6 cap6 y4 hown hgrow hat hlt
  have F4 := Lib.hid ((F3.out.alloc (.cells #[.int .u64 0] 39)).grown hgrow (fun k hk => .inr (by have := (HO4.out.lt k hk).1; have := HBB.out; omega)))
  have HO5 := Lib.hid hown
  clear hown hgrow hat hlt
  go_wp2_with fail
  go_ret
  exact ⟨_, rfl, by rw [HBB.out]; simpa [setsV] using HO5.out, F4.out⟩

set_option maxRecDepth 100000 in
set_option maxHeartbeats 4000000 in
theorem ofref_any (D : Dfa) (v : Value) (w : World) (h : DfaIn w v D) :
    Calls Tryz.prog 13 #[v] w fun e w' => e = .returned v ∧ Fr none_ w w' := by
  obtain ⟨C, na, ta, ncap, tcap, rfl, hz, hCQ, h256, h257, hrow, htag⟩ := h.whole
  have hone : C.toArray.all (·.oneCell') = true := by
    obtain ⟨E, e, _, h3⟩ := h.cells
    have e2 : C = E := by injection e with e; injection e
    rw [e2]; exact h3
  have hq : (intsV D.cls).length = 256 := by rw [intsV_length, h.len]
  obtain ⟨Q, hQ⟩ : ∃ Q, intsV D.cls = Q := ⟨_, rfl⟩
  rw [hQ] at hq hCQ
  have HCQ := Lib.hid hCQ
  have B0 := Lib.hid (((Fr.refl none_ (w.alloc (.cells C.toArray 26))).alloc (.cells Tryz.zeroCells34 34)).at_ (alloc_new w (.cells C.toArray 26)) (fun h => h))
  have F0 := Lib.hid (((Fr.refl none_ w).alloc (.cells C.toArray 26)).alloc (.cells Tryz.zeroCells34 34))
  have hb1 := alloc_new (w.alloc (.cells C.toArray 26)) (.cells Tryz.zeroCells34 34)
  rw [show (w.alloc (.cells C.toArray 26)).heap.size = w.heap.size + 1 by simp] at hb1
  have B1 := Lib.hid hb1
  have f1 : ((w.alloc (.cells C.toArray 26)).alloc (.cells Tryz.zeroCells34 34)).cell? ⟨w.heap.size, 256, none⟩ = some (.slice na D.next.length ncap) := cell_of_block B0.out (by simpa using h256)
  have f2 : ((w.alloc (.cells C.toArray 26)).alloc (.cells Tryz.zeroCells34 34)).cell? ⟨w.heap.size, 257, none⟩ = some (.slice ta D.tags.length tcap) := cell_of_block B0.out (by simpa using h257)
  have HRG := Lib.hid (show ((w.alloc (.cells C.toArray 26)).alloc (.cells Tryz.zeroCells34 34)).rangeAt w.heap.size 0 Q from range_pre (D := [.slice na D.next.length ncap, .slice ta D.tags.length tcap]) (by rw [← HCQ.out]; exact range_of B0.out))
  have hf := fold_class Q hq
  rw [← zeroR_list] at hf
  clear h hrow htag h256 h257 hCQ hb1 hQ
  go_enter Tryz.func13, Tryz.ntmps13
  have hone2 : (Q ++ [Value.slice na D.next.length ncap, Value.slice ta D.tags.length tcap]).toArray.all (·.oneCell') = true := by rw [← HCQ.out]; exact hone
  have hz2 : (Q ++ [Value.slice na D.next.length ncap, Value.slice ta D.tags.length tcap]).length = 258 := by simp [hq]
  go_wp2_with (first
    | (refine wpList_load_mid rfl 22 (.tmp 3) rfl w.heap.size 0 rfl Q _ HRG.out Tryz.underlying22 rfl ?_ ?_; (rw [hq]; exact arr_info))
    | (refine wpList_store_row rfl 34 (.tmp 2) (.tmp 9) rfl (w.heap.size + 1) 34 Tryz.zeroCells34 (Q ++ [Value.slice na D.next.length ncap, Value.slice ta D.tags.length tcap]).toArray rfl rfl B1.out ?_ ?_ hone2 ?_; (rw [List.size_toArray, hz2]; exact refD_info); (rw [zeroR_list, zeroD_size, List.size_toArray, hz2])))
  have hb := setRow_heap ((w.alloc (.cells C.toArray 26)).alloc (.cells Tryz.zeroCells34 34)) (w.heap.size + 1) _ (Q ++ [Value.slice na D.next.length ncap, Value.slice ta D.tags.length tcap]).toArray _ _ B1.out
  refine bodyPost_ret (results_cell_row rfl _ _ (w.heap.size + 1) _ _ _ _ rfl hb Tryz.underlying34 rfl (by rw [List.size_toArray, hz2]; exact refD_info)) rfl ?_
  exact ⟨by rw [HCQ.out], Fr.setRow F0.out (.inr (by omega)) _⟩
end Go.Proofs.YtglflmkkecephaaGreatDoor

namespace Go.Proofs.YtglflmkkecephaaGreatDoor
open Go.RowKit

def atF (F : List (List Bool)) (i j : Nat) : Bool := (F.getD i []).getD j false
def setF (F : List (List Bool)) (i j : Nat) (b : Bool) : List (List Bool) := F.set i ((F.getD i []).set j b)
structure DimF (F : List (List Bool)) (m : Nat) : Prop where
  len : F.length = m
  row : ∀ r ∈ F, r.length = m
theorem DimF.rowAt {F : List (List Bool)} {m : Nat} (h : DimF F m) {i : Nat} (hi : i < m) : F[i]? = some (F.getD i []) ∧ (F.getD i []).length = m := by
  have hl : i < F.length := by rw [h.len]; exact hi
  have e : F.getD i [] = F[i] := by simp [List.getD, List.getElem?_eq_getElem hl]
  rw [e]
  exact ⟨List.getElem?_eq_getElem hl, h.row _ (List.getElem_mem hl)⟩
theorem DimF.set {F : List (List Bool)} {m : Nat} (h : DimF F m) {i : Nat} (hi : i < m) (j : Nat) (b : Bool) : DimF (setF F i j b) m := by
  refine ⟨by rw [setF, List.length_set, h.len], fun r hr => ?_⟩
  rcases List.mem_or_eq_of_mem_set hr with h1 | h1
  · exact h.row r h1
  · rw [h1, List.length_set]; exact (h.rowAt hi).2
theorem at_set {F : List (List Bool)} {m : Nat} (h : DimF F m) {i j : Nat} (hi : i < m) (hj : j < m) (b : Bool) (i' j' : Nat) : atF (setF F i j b) i' j' = if i' = i ∧ j' = j then b else atF F i' j' := by
  unfold atF setF
  rw [set_getD _ _ _ _ _ (by rw [h.len]; exact hi)]
  by_cases e : i' = i
  · rw [if_pos e, set_getD _ _ _ _ _ (by rw [(h.rowAt hi).2]; exact hj)]
    by_cases e2 : j' = j
    · rw [if_pos e2, if_pos ⟨e, e2⟩]
    · rw [if_neg e2, if_neg (fun q => e2 q.2), e]
  · rw [if_neg e, if_neg (fun q => e q.1)]

section
variable {D : Dfa} {n k l : Nat}
/-- What is known when round l has come to a place. -/
def UpF (D : Dfa) (n k l i0 j0 : Nat) (F : List (List Bool)) : Prop := ∀ i j, i ≤ n → j ≤ n → (if i < i0 ∨ (i = i0 ∧ j < j0) then ApL D n k (l + 1) i j else ApL D n k l i j) → atF F i j = true
theorem UpF.zero (F : List (List Bool)) : UpF D n k 0 0 0 F := fun i j _ _ h => by
  rw [if_neg (by omega)] at h
  exact h.elim
theorem UpF.low {i0 j0 : Nat} {F : List (List Bool)} (h : UpF D n k l i0 j0 F) {i j : Nat} (hi : i ≤ n) (hj : j ≤ n) (ha : ApL D n k l i j) : atF F i j = true :=
  h i j hi hj (by split <;> first | exact ha.mono | exact ha)
theorem UpF.next_row {i : Nat} {F : List (List Bool)} (h : UpF D n k l i (n + 1) F) : UpF D n k l (i + 1) 0 F := fun a b ha hb hx => by
  refine h a b ha hb ?_
  by_cases e : a < i + 1 ∨ (a = i + 1 ∧ b < 0)
  · rw [if_pos e] at hx; rw [if_pos (by omega)]; exact hx
  · rw [if_neg e] at hx; rw [if_neg (by omega)]; exact hx
theorem UpF.next_round {F : List (List Bool)} (h : UpF D n k l (n + 1) 0 F) : UpF D n k (l + 1) 0 0 F := fun a b ha hb hx => by
  rw [if_neg (by omega)] at hx
  exact h a b ha hb (by rw [if_pos (by omega)]; exact hx)
theorem UpF.mono {i0 j0 : Nat} {F G : List (List Bool)} (h : UpF D n k l i0 j0 F) (hg : ∀ i j, i ≤ n → j ≤ n → atF F i j = true → atF G i j = true) : UpF D n k l i0 j0 G := fun i j hi hj hx => hg i j hi hj (h i j hi hj hx)
/-- At a place, behind c classes. -/
structure CellF (D : Dfa) (n k l i0 j0 c : Nat) (F : List (List Bool)) : Prop where
  up : UpF D n k l i0 j0 F
  known : atF F i0 j0 = true ∨ (tagP D n i0 = tagP D n j0 ∧ ∀ c', c' < c → atF F (toP D n i0 c') (toP D n j0 c') = false)
theorem CellF.start_true {i j : Nat} {F : List (List Bool)} (h : UpF D n k l i j F) (hd : DimF F (n + 1)) (hi : i ≤ n) (hj : j ≤ n) : CellF D n k l i j 0 (setF F i j true) :=
  ⟨h.mono fun a b _ _ q => by rw [at_set hd (by omega) (by omega)]; split <;> first | rfl | exact q, .inl (by rw [at_set hd (by omega) (by omega), if_pos ⟨rfl, rfl⟩])⟩
theorem CellF.start_eq {i j : Nat} {F : List (List Bool)} (h : UpF D n k l i j F) (ht : tagP D n i = tagP D n j) : CellF D n k l i j 0 F :=
  ⟨h, .inr ⟨ht, fun c hc => absurd hc (by omega)⟩⟩
theorem CellF.step {i j c : Nat} {F : List (List Bool)} (h : CellF D n k l i j c F) (hd : DimF F (n + 1)) (hi : i ≤ n) (hj : j ≤ n) (hf : atF F i j = false) : CellF D n k l i j (c + 1) (setF F i j (atF F (toP D n i c) (toP D n j c))) := by
  obtain ⟨ht, hk⟩ : tagP D n i = tagP D n j ∧ ∀ c', c' < c → atF F (toP D n i c') (toP D n j c') = false := h.known.resolve_left (by rw [hf]; decide)
  cases hb : atF F (toP D n i c) (toP D n j c) with
  | true => exact ⟨(CellF.start_true h.up hd hi hj).up, .inl (by rw [at_set hd (by omega) (by omega), if_pos ⟨rfl, rfl⟩])⟩
  | false =>
    have same : ∀ a b, atF (setF F i j false) a b = atF F a b := fun a b => by
      rw [at_set hd (by omega) (by omega)]
      split
      · rename_i e
        rw [e.1, e.2, hf]
      · rfl
    refine ⟨h.up.mono fun a b _ _ q => by rw [same]; exact q, .inr ⟨ht, fun c' hc' => ?_⟩⟩
    rw [same]
    by_cases e : c' = c
    · rw [e]; exact hb
    · exact hk c' (by omega)
theorem CellF.done {i j c : Nat} {F : List (List Bool)} (hv : DV D n k) (h : CellF D n k l i j c F) (hc : atF F i j = true ∨ k ≤ c) : UpF D n k l i (j + 1) F := by
  intro a b ha hb hx
  by_cases e : a = i ∧ b = j
  · obtain ⟨rfl, rfl⟩ := e
    rw [if_pos (by omega)] at hx
    rcases h.known with q | ⟨q1, q2⟩
    · exact q
    · rcases hc with q | q
      · exact q
      · rcases hx with hx | ⟨c', h1, h2⟩
        · exact (hx q1).elim
        · have h3 := h.up.low (toP_le hv a c') (toP_le hv b c') h2
          rw [q2 c' (by omega)] at h3
          simp at h3
  · refine h.up a b ha hb ?_
    by_cases e2 : a < i ∨ (a = i ∧ b < j)
    · rw [if_pos e2]; rw [if_pos (by omega)] at hx; exact hx
    · rw [if_neg e2]; rw [if_neg (by omega)] at hx; exact hx
end

/-- How it lies. -/
structure FarIn (w : World) (B : Nat) (v : Value) (m : Nat) (R : List Nat) (F : List (List Bool)) : Prop where
  own : w.ownsRow B 37 1 v R.length (R.map fun (b : Nat) => Value.slice (some ⟨b, 0, none⟩) m m)
  len : F.length = R.length
  nodup : R.Nodup
  row : ∀ (i b : Nat) (L : List Bool), R[i]? = some b → F[i]? = some L → w.heap[b]? = some (.cells (boolsV L).toArray 4 (0, 0))
  high : ∀ b ∈ R, B ≤ b
  dim : ∀ r ∈ F, r.length = m
section
variable {w w' : World} {B m : Nat} {v : Value} {R : List Nat} {F : List (List Bool)}
theorem FarIn.nil (w : World) (B m : Nat) : FarIn w B (.slice none 0 0) m [] [] :=
  ⟨World.ownsRow_nil _ _ _ _, rfl, List.nodup_nil, fun i b L h _ => by simp at h, fun b h => by simp at h, fun r h => by simp at h⟩
theorem FarIn.move (h : FarIn w B v m R F) (hf : Fr none_ w w') : FarIn w' B v m R F :=
  ⟨row_keep h.own hf (fun _ _ h => h), h.len, h.nodup, fun i b L h1 h2 => hf.at_ (h.row i b L h1 h2) (fun h => h), h.high, h.dim⟩
theorem FarIn.at_ (h : FarIn w B v m R F) {i : Nat} (hi : i < R.length) : ∃ b, R[i]? = some b ∧ B ≤ b ∧ w.heap[b]? = some (.cells (boolsV (F.getD i [])).toArray 4 (0, 0)) ∧ (F.getD i []).length = m := by
  have hl : i < F.length := by rw [h.len]; exact hi
  have e : F.getD i [] = F[i] := by simp [List.getD, List.getElem?_eq_getElem hl]
  rw [e]
  exact ⟨R[i], List.getElem?_eq_getElem hi, h.high _ (List.getElem_mem hi), h.row i _ _ (List.getElem?_eq_getElem hi) (List.getElem?_eq_getElem hl), h.dim _ (List.getElem_mem hl)⟩
theorem FarIn.put (h : FarIn w B v m R F) {i b : Nat} (hb : R[i]? = some b) (j : Nat) (x : Bool) : FarIn (w.setCell ⟨b, j, none⟩ (.bool x)) B v m R (setF F i j x) := by
  have hi := (List.getElem?_eq_some_iff.1 hb).1
  obtain ⟨b', h1, h2, h3, h4⟩ := h.at_ hi
  rw [hb] at h1
  injection h1 with h1
  subst h1
  refine ⟨ownsRow_same h.own (fun k hk => Below.heap_setCell w ⟨b, j, none⟩ _ k (fun e => ?_)), by rw [setF, List.length_set]; exact h.len, h.nodup, fun i' c L q1 q2 => ?_, h.high, fun r hr => ?_⟩
  · have e : k = b := e
    subst e
    exact row_off h.own h3 (by decide) hk
  · by_cases e : i' = i
    · subst e
      rw [hb] at q1
      injection q1 with q1
      subst q1
      rw [setF, List.getElem?_set_self (by rw [h.len]; exact hi)] at q2
      injection q2 with q2
      rw [heap_setCell w h3, boolsV_set, q2]
    · have hcb : c ≠ b := fun ec => by
        subst ec
        have hi' := (List.getElem?_eq_some_iff.1 q1).1
        rw [List.getElem?_eq_getElem hi'] at q1
        rw [List.getElem?_eq_getElem hi] at hb
        exact e (by
          have := h.nodup.idxOf_getElem i' hi'
          have h5 := h.nodup.idxOf_getElem i hi
          injection q1 with q1
          injection hb with hb
          rw [q1] at this
          rw [hb] at h5
          omega)
      rw [setF, List.getElem?_set_ne (fun q => e q.symm)] at q2
      rw [Below.heap_setCell w ⟨b, j, none⟩ _ c hcb]
      exact h.row i' c L q1 q2
  · rcases List.mem_or_eq_of_mem_set hr with h5 | h5
    · exact h.dim r h5
    · rw [h5, List.length_set]; exact h4
end
end Go.Proofs.YtglflmkkecephaaGreatDoor

namespace Go.Proofs.YtglflmkkecephaaGreatDoor
open Go.RowKit

structure ApSt (D : Dfa) (n : Nat) (wa w : World) (B : Nat) (v : Value) (R : List Nat) (tv : Value) (F : List (List Bool)) : Prop where
  far : FarIn w B v (n + 1) R F
  tags : w.ownsRow B 39 1 tv (n + 1) (setsV (D.tags ++ [0]))
  len : R.length = n + 1
  fr : Fr none_ wa w
  base : wa.heap.size ≤ B
section
variable {D : Dfa} {n : Nat} {wa w w' : World} {B : Nat} {v tv : Value} {R : List Nat} {F : List (List Bool)}
theorem ApSt.dim (h : ApSt D n wa w B v R tv F) : DimF F (n + 1) := ⟨by rw [h.far.len, h.len], h.far.dim⟩
theorem ApSt.move (h : ApSt D n wa w B v R tv F) (hf : Fr none_ w w') : ApSt D n wa w' B v R tv F := ⟨h.far.move hf, row_keep h.tags hf (fun _ _ h => h), h.len, h.fr.tr hf, h.base⟩
theorem ApSt.blk (h : ApSt D n wa w B v R tv F) {i b : Nat} (hb : R[i]? = some b) : w.heap[b]? = some (.cells (boolsV (F.getD i [])).toArray 4 (0, 0)) ∧ (F.getD i []).length = n + 1 ∧ B ≤ b := by
  obtain ⟨b', h1, h2, h3, h4⟩ := h.far.at_ (List.getElem?_eq_some_iff.1 hb).1
  rw [hb] at h1
  injection h1 with h1
  subst h1
  exact ⟨h3, h4, h2⟩
theorem ApSt.put (h : ApSt D n wa w B v R tv F) {i b : Nat} (hb : R[i]? = some b) (j : Nat) (x : Bool) : ApSt D n wa (w.setCell ⟨b, j, none⟩ (.bool x)) B v R tv (setF F i j x) :=
  ⟨h.far.put hb j x, ownsRow_same h.tags (fun k hk => Below.heap_setCell w ⟨b, j, none⟩ _ k (fun e => by
    have e : k = b := e
    subst e
    exact row_off h.tags (h.blk hb).1 (by decide) hk)), h.len, h.fr.setCell (p := ⟨b, j, none⟩) (.inr (by have := (h.blk hb).2.2; have := h.base; show _ ≤ b; omega)) _, h.base⟩
theorem ApSt.hdr {g cap : Nat} (h : ApSt D n wa w B (.slice (some ⟨g, 0, none⟩) (n + 1) cap) R tv F) {i b : Nat} (hb : R[i]? = some b) : w.cell? ⟨g, i, none⟩ = some (.slice (some ⟨b, 0, none⟩) (n + 1) (n + 1)) := by
  have h1 := h.far.own
  rw [h.len] at h1
  obtain ⟨g', e, hc⟩ := row_at0 h1 (i := i) (x := .slice (some ⟨b, 0, none⟩) (n + 1) (n + 1)) (by rw [List.getElem?_map, hb]; rfl)
  obtain rfl : g = g' := by injection e with e; injection e
  exact hc
theorem ApSt.cell (h : ApSt D n wa w B v R tv F) {i b j : Nat} (hb : R[i]? = some b) (hj : j < n + 1) : w.cell? ⟨b, j, none⟩ = some (.bool (atF F i j)) :=
  cell_of_block (h.blk hb).1 (boolsV_at (by rw [(h.blk hb).2.1]; exact hj))
theorem ApSt.free (h : ApSt D n wa w B v R tv F) {i b : Nat} (hb : R[i]? = some b) (j : Nat) : w.frozen? ⟨b, j, none⟩ = false := free_of_block (h.blk hb).1
end
theorem tag_at_p {D : Dfa} {n k : Nat} (hv : DV D n k) {i : Nat} (hi : i ≤ n) : (setsV (D.tags ++ [0]))[i]? = some (.int .u64 (tagP D n i : Nat)) := by
  rw [setsV, List.getElem?_map, tagP, plQ]
  by_cases h : i < n
  · rw [if_pos h, tag_at_nat, List.getElem?_append_left (by rw [hv.ht]; exact h)]
    simp [List.getD, List.getElem?_eq_getElem (show i < D.tags.length by rw [hv.ht]; exact h)]
  · obtain rfl : i = n := by omega
    rw [if_neg h, List.getElem?_append_right (by rw [hv.ht]; exact Nat.le_refl _), hv.ht, Nat.sub_self]
    rfl
theorem FarIn.push {w wm w5 : World} {B m b g2 cap2 : Nat} {v : Value} {R : List Nat} {F : List (List Bool)} (h : FarIn w B v m R F) (hm : Fr none_ w wm) (hb : w.heap.size ≤ b) (hB : B ≤ w.heap.size) (hrow : wm.heap[b]? = some (.cells (boolsV (List.replicate m false)).toArray 4 (0, 0)))
    (hg : (wm.alloc (.cells #[.slice (some ⟨b, 0, none⟩) m m] 37)).grownBy w5 v.ownBlock) (hown : w5.ownsRow B 37 1 (.slice (some ⟨g2, 0, none⟩) (R.length + 1) cap2) (R.length + 1) ((R.map fun (b : Nat) => Value.slice (some ⟨b, 0, none⟩) m m) ++ [.slice (some ⟨b, 0, none⟩) m m])) :
    FarIn w5 B (.slice (some ⟨g2, 0, none⟩) (R.length + 1) cap2) m (R ++ [b]) (F ++ [List.replicate m false]) := by
  have hh := h.move hm
  have f5 : Fr (fun k => v.ownBlock = some k) wm w5 := ((Fr.refl _ wm).alloc _).grown hg (fun k hk => .inl hk)
  have keep : ∀ {c : Nat} {cs : Array Value}, wm.heap[c]? = some (.cells cs 4 (0, 0)) → w5.heap[c]? = some (.cells cs 4 (0, 0)) := fun hc => f5.at_ hc (row_off hh.own hc (by decide))
  refine ⟨by rw [List.length_append, List.map_append]; exact hown, by rw [List.length_append, List.length_append, h.len]; rfl, ?_, fun i c L h1 h2 => ?_, fun c hc => ?_, fun r hr => ?_⟩
  · refine List.nodup_append.2 ⟨h.nodup, by simp, fun x hx y hy e => ?_⟩
    obtain rfl : y = b := by simpa using hy
    subst e
    obtain ⟨i, hi, rfl⟩ := List.getElem_of_mem hx
    obtain ⟨c, q1, _, q3, _⟩ := h.at_ hi
    rw [List.getElem?_eq_getElem hi] at q1
    injection q1 with q1
    subst q1
    have := lt_of_block q3
    omega
  · by_cases hi : i < R.length
    · rw [List.getElem?_append_left hi] at h1
      rw [List.getElem?_append_left (by rw [h.len]; exact hi)] at h2
      exact keep (hh.row i c L h1 h2)
    · have hl := (List.getElem?_eq_some_iff.1 h1).1
      simp at hl
      obtain rfl : i = R.length := by omega
      rw [List.getElem?_append_right (Nat.le_refl _), Nat.sub_self] at h1
      rw [List.getElem?_append_right (by rw [h.len]; exact Nat.le_refl _), h.len, Nat.sub_self] at h2
      have e1 : b = c := by simpa using h1
      have e2 : List.replicate m false = L := by simpa using h2
      subst e1
      subst e2
      exact keep hrow
  · rcases List.mem_append.1 hc with h1 | h1
    · exact h.high c h1
    · obtain rfl : c = b := by simpa using h1
      omega
  · rcases List.mem_append.1 hr with h1 | h1
    · exact h.dim r h1
    · obtain rfl : r = List.replicate m false := by simpa using h1
      exact List.length_replicate
def ApEnd (D : Dfa) (n k : Nat) (w' : World) (u : Value) : Prop := ∃ B g cap R F wa tv, u = .slice (some ⟨g, 0, none⟩) (n + 1) cap ∧ ApSt D n wa w' B (.slice (some ⟨g, 0, none⟩) (n + 1) cap) R tv F ∧ UpF D n k (n + 2) 0 0 F
theorem boolR_info : (Tryz.prog.info? 37).map (fun i => (i.zero, i.size, i.bytes)) = some (some (.slice none 0 0), 1, 24) := by kernel_rfl
theorem lot30 {α : Type} {x0 x1 x2 x3 x4 x5 x6 x7 x8 x9 x10 x11 x12 x13 x14 x15 x16 x17 x18 x19 x20 x21 x22 x23 x24 x25 x26 x27 x28 x29 x30 : α} {l : List α} : (x0 :: x1 :: x2 :: x3 :: x4 :: x5 :: x6 :: x7 :: x8 :: x9 :: x10 :: x11 :: x12 :: x13 :: x14 :: x15 :: x16 :: x17 :: x18 :: x19 :: x20 :: x21 :: x22 :: x23 :: x24 :: x25 :: x26 :: x27 :: x28 :: x29 :: x30 :: l).toArray[30]? = some x30 := rfl
theorem lot31 {α : Type} {x0 x1 x2 x3 x4 x5 x6 x7 x8 x9 x10 x11 x12 x13 x14 x15 x16 x17 x18 x19 x20 x21 x22 x23 x24 x25 x26 x27 x28 x29 x30 x31 : α} {l : List α} : (x0 :: x1 :: x2 :: x3 :: x4 :: x5 :: x6 :: x7 :: x8 :: x9 :: x10 :: x11 :: x12 :: x13 :: x14 :: x15 :: x16 :: x17 :: x18 :: x19 :: x20 :: x21 :: x22 :: x23 :: x24 :: x25 :: x26 :: x27 :: x28 :: x29 :: x30 :: x31 :: l).toArray[31]? = some x31 := rfl
theorem lot32 {α : Type} {x0 x1 x2 x3 x4 x5 x6 x7 x8 x9 x10 x11 x12 x13 x14 x15 x16 x17 x18 x19 x20 x21 x22 x23 x24 x25 x26 x27 x28 x29 x30 x31 x32 : α} {l : List α} : (x0 :: x1 :: x2 :: x3 :: x4 :: x5 :: x6 :: x7 :: x8 :: x9 :: x10 :: x11 :: x12 :: x13 :: x14 :: x15 :: x16 :: x17 :: x18 :: x19 :: x20 :: x21 :: x22 :: x23 :: x24 :: x25 :: x26 :: x27 :: x28 :: x29 :: x30 :: x31 :: x32 :: l).toArray[32]? = some x32 := rfl
theorem lot33 {α : Type} {x0 x1 x2 x3 x4 x5 x6 x7 x8 x9 x10 x11 x12 x13 x14 x15 x16 x17 x18 x19 x20 x21 x22 x23 x24 x25 x26 x27 x28 x29 x30 x31 x32 x33 : α} {l : List α} : (x0 :: x1 :: x2 :: x3 :: x4 :: x5 :: x6 :: x7 :: x8 :: x9 :: x10 :: x11 :: x12 :: x13 :: x14 :: x15 :: x16 :: x17 :: x18 :: x19 :: x20 :: x21 :: x22 :: x23 :: x24 :: x25 :: x26 :: x27 :: x28 :: x29 :: x30 :: x31 :: x32 :: x33 :: l).toArray[33]? = some x33 := rfl
theorem lot34 {α : Type} {x0 x1 x2 x3 x4 x5 x6 x7 x8 x9 x10 x11 x12 x13 x14 x15 x16 x17 x18 x19 x20 x21 x22 x23 x24 x25 x26 x27 x28 x29 x30 x31 x32 x33 x34 : α} {l : List α} : (x0 :: x1 :: x2 :: x3 :: x4 :: x5 :: x6 :: x7 :: x8 :: x9 :: x10 :: x11 :: x12 :: x13 :: x14 :: x15 :: x16 :: x17 :: x18 :: x19 :: x20 :: x21 :: x22 :: x23 :: x24 :: x25 :: x26 :: x27 :: x28 :: x29 :: x30 :: x31 :: x32 :: x33 :: x34 :: l).toArray[34]? = some x34 := rfl
theorem lot35 {α : Type} {x0 x1 x2 x3 x4 x5 x6 x7 x8 x9 x10 x11 x12 x13 x14 x15 x16 x17 x18 x19 x20 x21 x22 x23 x24 x25 x26 x27 x28 x29 x30 x31 x32 x33 x34 x35 : α} {l : List α} : (x0 :: x1 :: x2 :: x3 :: x4 :: x5 :: x6 :: x7 :: x8 :: x9 :: x10 :: x11 :: x12 :: x13 :: x14 :: x15 :: x16 :: x17 :: x18 :: x19 :: x20 :: x21 :: x22 :: x23 :: x24 :: x25 :: x26 :: x27 :: x28 :: x29 :: x30 :: x31 :: x32 :: x33 :: x34 :: x35 :: l).toArray[35]? = some x35 := rfl
theorem lot36 {α : Type} {x0 x1 x2 x3 x4 x5 x6 x7 x8 x9 x10 x11 x12 x13 x14 x15 x16 x17 x18 x19 x20 x21 x22 x23 x24 x25 x26 x27 x28 x29 x30 x31 x32 x33 x34 x35 x36 : α} {l : List α} : (x0 :: x1 :: x2 :: x3 :: x4 :: x5 :: x6 :: x7 :: x8 :: x9 :: x10 :: x11 :: x12 :: x13 :: x14 :: x15 :: x16 :: x17 :: x18 :: x19 :: x20 :: x21 :: x22 :: x23 :: x24 :: x25 :: x26 :: x27 :: x28 :: x29 :: x30 :: x31 :: x32 :: x33 :: x34 :: x35 :: x36 :: l).toArray[36]? = some x36 := rfl
theorem lot37 {α : Type} {x0 x1 x2 x3 x4 x5 x6 x7 x8 x9 x10 x11 x12 x13 x14 x15 x16 x17 x18 x19 x20 x21 x22 x23 x24 x25 x26 x27 x28 x29 x30 x31 x32 x33 x34 x35 x36 x37 : α} {l : List α} : (x0 :: x1 :: x2 :: x3 :: x4 :: x5 :: x6 :: x7 :: x8 :: x9 :: x10 :: x11 :: x12 :: x13 :: x14 :: x15 :: x16 :: x17 :: x18 :: x19 :: x20 :: x21 :: x22 :: x23 :: x24 :: x25 :: x26 :: x27 :: x28 :: x29 :: x30 :: x31 :: x32 :: x33 :: x34 :: x35 :: x36 :: x37 :: l).toArray[37]? = some x37 := rfl
theorem lot38 {α : Type} {x0 x1 x2 x3 x4 x5 x6 x7 x8 x9 x10 x11 x12 x13 x14 x15 x16 x17 x18 x19 x20 x21 x22 x23 x24 x25 x26 x27 x28 x29 x30 x31 x32 x33 x34 x35 x36 x37 x38 : α} {l : List α} : (x0 :: x1 :: x2 :: x3 :: x4 :: x5 :: x6 :: x7 :: x8 :: x9 :: x10 :: x11 :: x12 :: x13 :: x14 :: x15 :: x16 :: x17 :: x18 :: x19 :: x20 :: x21 :: x22 :: x23 :: x24 :: x25 :: x26 :: x27 :: x28 :: x29 :: x30 :: x31 :: x32 :: x33 :: x34 :: x35 :: x36 :: x37 :: x38 :: l).toArray[38]? = some x38 := rfl
theorem lot39 {α : Type} {x0 x1 x2 x3 x4 x5 x6 x7 x8 x9 x10 x11 x12 x13 x14 x15 x16 x17 x18 x19 x20 x21 x22 x23 x24 x25 x26 x27 x28 x29 x30 x31 x32 x33 x34 x35 x36 x37 x38 x39 : α} {l : List α} : (x0 :: x1 :: x2 :: x3 :: x4 :: x5 :: x6 :: x7 :: x8 :: x9 :: x10 :: x11 :: x12 :: x13 :: x14 :: x15 :: x16 :: x17 :: x18 :: x19 :: x20 :: x21 :: x22 :: x23 :: x24 :: x25 :: x26 :: x27 :: x28 :: x29 :: x30 :: x31 :: x32 :: x33 :: x34 :: x35 :: x36 :: x37 :: x38 :: x39 :: l).toArray[39]? = some x39 := rfl

set_option maxRecDepth 100000 in
set_option maxHeartbeats 8000000 in
theorem apart_any (D : Dfa) (n k : Nat) (v : Value) (w : World) (h : DfaIn w v D) (hv : DV D n k) (hn : n ≤ 1000) (hk : k ≤ 1000) :
    Calls Tryz.prog 12 #[v] w fun e w' => ∃ u, e = .returned u ∧ ApEnd D n k w' u ∧ Fr none_ w w' := by
  obtain ⟨C, na, ta, ncap, tcap, rfl, hz, h256, h257, hrow, htag⟩ := h.all
  rw [hv.hn] at h256
  have HD0 := Lib.hid h
  have H256 := Lib.hid h256
  have hpos := hv.pos
  have hkpos : 0 < k := by
    have := h.len
    have h1 := hv.cls (D.cls.getD 0 0) (getD_mem (by omega) 0)
    omega
  obtain ⟨r0, hr0⟩ : ∃ r, D.next[0]? = some r := ⟨_, List.getElem?_eq_getElem (by rw [hv.hn]; exact hpos)⟩
  have hrk : r0.length = k := (hv.row r0 (List.mem_of_getElem? hr0)).1
  obtain ⟨ad, rv, rfl, hc1, ra, rcap, rfl, _⟩ := hrow 0 r0 hr0
  rw [hrk, Addr.add_zero'] at hc1
  have HC1 := Lib.hid hc1
  have HV := Lib.hid hv
  have HB0 := Lib.hid (alloc_new w (.cells C.toArray 34))
  have F0 := Lib.hid ((Fr.refl none_ w).alloc (.cells C.toArray 34))
  have f1 : (w.alloc (.cells C.toArray 34)).cell? ⟨w.heap.size, 256, none⟩ = some (.slice (some ad) n ncap) := cell_of_block HB0.out (by simpa using h256)
  clear h hrow htag h256 h257 hc1 hr0 hrk
  go_enter Tryz.func12, Tryz.ntmps12
  go_wp2_with fail
  obtain ⟨wa, hwa⟩ : ∃ x, w.alloc (.cells C.toArray 34) = x := ⟨_, rfl⟩
  rw [hwa] at HB0 F0 ⊢
  clear f1
  have HD := Lib.hid (HD0.out.move F0.out)
  obtain ⟨BB, hBB⟩ : ∃ x, wa.heap.size = x := ⟨_, rfl⟩
  have HBB := Lib.hid hBB
  clear hwa hBB
  have HF0 := Lib.hid (FarIn.nil wa BB (n + 1))
  go_loopw [4, 5] (fun x4 x5 wr => ∃ i : Nat, i ≤ n + 1 ∧ x5 = .int .i64 i ∧ Aside (∃ R, FarIn wr BB x4 (n + 1) R (List.replicate i (List.replicate (n + 1) false)) ∧ R.length = i ∧ Fr none_ wa wr)) (fun _ x5 _ => n + 1 - (intOf x5).toNat)
  case atStart => exact ⟨0, Nat.zero_le _, rfl, ⟨[], HF0.out, rfl, Fr.refl _ _⟩⟩
  case round =>
    obtain ⟨i, hi', rfl, h'⟩ := hrel
    obtain ⟨R, hfar, hrl, hfr⟩ := h'.out
    have HFAR := Lib.hid hfar
    have HRL := Lib.hid hrl
    have HFR := Lib.hid hfr
    have hbw : BB ≤ wr.heap.size := by have := hfr.size; have := HBB.out; omega
    obtain ⟨xa, xcap, hxv, hxc⟩ := ownsRow_slice hfar.own
    rw [hrl] at hxv hxc
    subst hxv
    clear h' hfar hrl hfr HF0
    have hi0 : (0 : Int) ≤ (i : Int) := by omega
    by_cases hlt : i ≤ n
    case pos =>
      have hil : (i : Int) ≤ (n : Int) := by omega
      obtain ⟨i0, hi, hz0, hz1, hz2⟩ := info_parts bool_info
      go_wp2_with (refine wpList_make_full _ rfl (.tmp 21) (.tmp 21) 37 rfl 0 4 i0 _ 1 Tryz.underlying37 hi hz0 hz1 .i64 .i64 _ _ (n + 1) rfl rfl rfl rfl (by rw [hz2]; omega) (by unfold maxLen; omega) (Nat.zero_le _) ?_)
      intro w2 hmk hgrow
      rw [toList_madeCells_one] at hmk
      have F2 := Lib.hid ((Fr.refl none_ wr).grown hgrow (fun k h => by cases h))
      have hb2 := row_full hmk
      have HB2 := Lib.hid (show w2.heap[wr.heap.size]? = some (.cells (boolsV (List.replicate (n + 1) false)).toArray 4 (0, 0)) by rw [hb2]; simp [boolsV])
      obtain ⟨b, hb⟩ : ∃ b, wr.heap.size = b := ⟨_, rfl⟩
      have hbb : wr.heap.size ≤ b := by omega
      rw [hb] at HB2 ⊢
      clear hmk hgrow hb2 hb
      have HOW := Lib.hid (show w2.ownsRow BB 37 1 (.slice xa i xcap) i (R.map fun (b : Nat) => Value.slice (some ⟨b, 0, none⟩) (n + 1) (n + 1)) by have h1 := (HFAR.out.move F2.out).own; rw [HRL.out] at h1; exact h1)
      have hbw2 : BB ≤ w2.heap.size := by have := F2.out.size; omega
      obtain ⟨j0, hj, hy0, hy1, hy2⟩ := info_parts boolR_info
      go_wp2_with (at_builtin; refine wpList_append_lies _ rfl (.tmp 19) (.tmp 23) 32 rfl BB 37 j0 _ 1 24 Tryz.underlying32 hj hy0 hy1 hy2 rfl (by decide) _ i (R.map fun (b : Nat) => Value.slice (some ⟨b, 0, none⟩) (n + 1) (n + 1)) rfl (HOW.out.alloc _) ⟨w2.heap.size, 0, none⟩ 1 1 [.slice (some ⟨b, 0, none⟩) (n + 1) (n + 1)] rfl rfl (getElem_block (alloc_new _ _)) (by simp [Value.oneCell']) (by decide) (by unfold maxLen; omega) (by omega) (by first | omega | (simp; omega)) (w2.heap.size + 1) (by simp) ?_)
      intro g2 cap2 w9 hown9 hgrow9 hat9 hlt9
      have HNEW := Lib.hid (show FarIn w9 BB (.slice (some ⟨g2, 0, none⟩) (i + 1) cap2) (n + 1) (R ++ [b]) (List.replicate (i + 1) (List.replicate (n + 1) false)) by
        have h1 := FarIn.push (g2 := g2) (cap2 := cap2) HFAR.out F2.out hbb hbw HB2.out hgrow9 (by rw [HRL.out]; exact hown9)
        rw [HRL.out] at h1
        rw [show List.replicate (i + 1) (List.replicate (n + 1) false) = List.replicate i (List.replicate (n + 1) false) ++ [List.replicate (n + 1) false] from List.replicate_succ']
        exact h1)
      have HFN := Lib.hid (((HFR.out.tr F2.out).alloc (.cells #[.slice (some ⟨b, 0, none⟩) (n + 1) (n + 1)] 37)).grown hgrow9 (fun k hk => .inr (by have := (HOW.out.lt k hk).1; have := HBB.out; omega)))
      have HRN := Lib.hid (show (R ++ [b]).length = i + 1 by rw [List.length_append, HRL.out]; rfl)
      clear hown9 hgrow9 hat9 hlt9
      go_wp2_with fail
      go_roundw
      case rel => exact ⟨i + 1, by omega, by go_num, ⟨_, HNEW.out, HRN.out, HFN.out⟩⟩
      case measure => simp [intOf]; omega
    case neg =>
      obtain rfl : i = n + 1 := by omega
      have hil : ¬ ((n + 1 : Nat) : Int) ≤ (n : Int) := by omega
      have BR := Lib.hid (HFR.out.at_ HB0.out (fun h => h))
      go_wp2_with (refine wpList_load_row rfl 34 (.tmp 1) rfl w.heap.size 34 C _ rfl BR.out Tryz.underlying34 rfl (by rw [hz]; exact refD_info) ?_)
      refine (tagged_any D n k _ _ (HD.out.move HFR.out) HV.out (by omega)).mono ?_
      rintro e w3 ⟨tv, rfl, htv, F3⟩
      have HS0 := Lib.hid (show ApSt D n wa w3 BB (.slice xa (n + 1) xcap) R tv (List.replicate (n + 1) (List.replicate (n + 1) false)) from
        ⟨HFAR.out.move F3, ownsRow_base htv hbw, HRL.out, HFR.out.tr F3, by rw [HBB.out]; exact Nat.le_refl _⟩)
      obtain ⟨ta2, tcap2, htv2, _⟩ := ownsRow_slice htv
      subst htv2
      obtain ⟨tg, rfl, _⟩ := row_at0 htv (tag_at_p HV.out (Nat.zero_le _))
      obtain ⟨g, hg, _⟩ := row_at0 (show w3.ownsRow BB 37 1 (.slice xa (n + 1) xcap) (n + 1) _ by have h1 := HS0.out.far.own; rw [HRL.out] at h1; exact h1) (i := 0) (x := ((R.map fun (b : Nat) => Value.slice (some ⟨b, 0, none⟩) (n + 1) (n + 1))[0]'(by rw [List.length_map, HRL.out]; omega))) (List.getElem?_eq_getElem _)
      subst hg
      have HU0 := Lib.hid (UpF.zero (D := D) (n := n) (k := k) (List.replicate (n + 1) (List.replicate (n + 1) false)))
      clear htv F3 BR HFAR HFR
      go_wp2_with fail
      go_loopw [7] (fun x7 wr => ∃ l : Nat, l ≤ n + 2 ∧ x7 = .int .i64 l ∧ Aside (∃ F, ApSt D n wa wr BB (Value.slice (some ⟨g, 0, none⟩) (n + 1) xcap) R (Value.slice (some ⟨tg, 0, none⟩) (n + 1) tcap2) F ∧ UpF D n k l 0 0 F)) (fun x7 _ => n + 2 - (intOf x7).toNat)
      case atStart => exact ⟨0, Nat.zero_le _, rfl, ⟨_, HS0.out, HU0.out⟩⟩
      case round =>
        obtain ⟨l, hl', rfl, h'⟩ := hrel
        obtain ⟨F, hst, hup⟩ := h'.out
        have HST := Lib.hid hst
        have HUP := Lib.hid hup
        clear h' hst hup HS0 HU0
        by_cases hll : l ≤ n + 1
        case neg =>
          obtain rfl : l = n + 2 := by omega
          have hlI : ¬ ((n + 2 : Nat) : Int) ≤ (n : Int) + 1 := by omega
          go_wp2_with fail
          go_ret
          exact ⟨_, rfl, ⟨_, _, _, _, _, _, _, rfl, HST.out, HUP.out⟩, F0.out.tr HST.out.fr⟩
        case pos =>
          have hlI : (l : Int) ≤ (n : Int) + 1 := by omega
          go_wp2_with fail
          go_loopw [8] (fun x8 wr => ∃ i : Nat, i ≤ n + 1 ∧ x8 = .int .i64 i ∧ Aside (∃ F, ApSt D n wa wr BB (Value.slice (some ⟨g, 0, none⟩) (n + 1) xcap) R (Value.slice (some ⟨tg, 0, none⟩) (n + 1) tcap2) F ∧ UpF D n k l i 0 F)) (fun x8 _ => n + 1 - (intOf x8).toNat)
          case atStart => exact ⟨0, Nat.zero_le _, rfl, ⟨_, HST.out, HUP.out⟩⟩
          case round =>
            obtain ⟨i, hi', rfl, h'⟩ := hrel
            obtain ⟨F, hst, hup⟩ := h'.out
            replace HST := Lib.hid hst
            replace HUP := Lib.hid hup
            clear h' hst hup
            by_cases hin : i ≤ n
            case neg =>
              obtain rfl : i = n + 1 := by omega
              have hiI : ¬ ((n + 1 : Nat) : Int) ≤ (n : Int) := by omega
              go_wp2_with fail
              go_roundw
              case rel => exact ⟨l + 1, by omega, by go_num, ⟨_, HST.out, HUP.out.next_round⟩⟩
              case measure => simp [intOf]; omega
            case pos =>
              have hiI : (i : Int) ≤ (n : Int) := by omega
              have hi0 : (0 : Int) ≤ (i : Int) := by omega
              have hi1 : (i : Int) < (n : Int) + 1 := by omega
              obtain ⟨bi, hbi⟩ : ∃ b, R[i]? = some b := ⟨_, List.getElem?_eq_getElem (by rw [HRL.out]; omega)⟩
              go_wp2_with fail
              go_loopw [9] (fun x9 wr => ∃ j : Nat, j ≤ n + 1 ∧ x9 = .int .i64 j ∧ Aside (∃ F, ApSt D n wa wr BB (Value.slice (some ⟨g, 0, none⟩) (n + 1) xcap) R (Value.slice (some ⟨tg, 0, none⟩) (n + 1) tcap2) F ∧ UpF D n k l i j F)) (fun x9 _ => n + 1 - (intOf x9).toNat)
              case atStart => exact ⟨0, Nat.zero_le _, rfl, ⟨_, HST.out, HUP.out⟩⟩
              case round =>
                obtain ⟨j, hj', rfl, h'⟩ := hrel
                obtain ⟨F, hst, hup⟩ := h'.out
                replace HST := Lib.hid hst
                replace HUP := Lib.hid hup
                clear h' hst hup
                by_cases hjn : j ≤ n
                case neg =>
                  obtain rfl : j = n + 1 := by omega
                  have hjI : ¬ ((n + 1 : Nat) : Int) ≤ (n : Int) := by omega
                  go_wp2_with fail
                  go_roundw
                  case rel => exact ⟨i + 1, by omega, by go_num, ⟨_, HST.out, HUP.out.next_row⟩⟩
                  case measure => simp [intOf]; omega
                case pos =>
                  have hjI : (j : Int) ≤ (n : Int) := by omega
                  have hj0 : (0 : Int) ≤ (j : Int) := by omega
                  have hj1 : (j : Int) < (n : Int) + 1 := by omega
                  have t1 : wr.cell? ⟨tg, i, none⟩ = some (.int .u64 (tagP D n i : Nat)) := by
                    obtain ⟨q, e, h1⟩ := row_at0 HST.out.tags (tag_at_p HV.out hin)
                    obtain rfl : tg = q := by injection e with e; injection e
                    exact h1
                  have t2 : wr.cell? ⟨tg, j, none⟩ = some (.int .u64 (tagP D n j : Nat)) := by
                    obtain ⟨q, e, h1⟩ := row_at0 HST.out.tags (tag_at_p HV.out hjn)
                    obtain rfl : tg = q := by injection e with e; injection e
                    exact h1
                  obtain ⟨T1, hT1⟩ : ∃ x, tagP D n i = x := ⟨_, rfl⟩
                  obtain ⟨T2, hT2⟩ : ∃ x, tagP D n j = x := ⟨_, rfl⟩
                  rw [hT1] at t1
                  rw [hT2] at t2
                  have HT1 := Lib.hid hT1
                  have HT2 := Lib.hid hT2
                  clear hT1 hT2
                  by_cases hte : T1 = T2
                  case pos =>
                    subst hte
                    have htI : ((T1 : Int) != (T1 : Int)) = false := by simp
                    have HCS := Lib.hid (CellF.start_eq HUP.out (show tagP D n i = tagP D n j by rw [HT1.out, HT2.out]))
                    go_wp2_with fail
                    go_quiet (fail)
                    have HSTS := Lib.hid (HST.out.move ((Fr.refl none_ wr).drewN nq))
                    obtain ⟨wb, hwb⟩ : ∃ y, wr.drewN nq = y := ⟨_, rfl⟩
                    rw [hwb] at HSTS ⊢
                    clear hwb t1 t2 HST
                    go_wp2_with fail
                    go_loopw [10] (fun x10 wr => ∃ c : Nat, c ≤ k ∧ x10 = .int .i64 c ∧ Aside (∃ F, ApSt D n wa wr BB (Value.slice (some ⟨g, 0, none⟩) (n + 1) xcap) R (Value.slice (some ⟨tg, 0, none⟩) (n + 1) tcap2) F ∧ CellF D n k l i j c F)) (fun x10 _ => k - (intOf x10).toNat)
                    case atStart => exact ⟨0, Nat.zero_le _, rfl, ⟨_, HSTS.out, HCS.out⟩⟩
                    case round =>
                      obtain ⟨c, hc, rfl, h'⟩ := hrel
                      obtain ⟨F, hst, hcf⟩ := h'.out
                      have HST := Lib.hid hst
                      have HCF := Lib.hid hcf
                      have HDM := Lib.hid hst.dim
                      clear h' hst hcf HSTS HCS
                      have hc0 : (0 : Int) ≤ (c : Int) := by omega
                      have g1 : wr.cell? ⟨w.heap.size, 256, none⟩ = some (.slice (some ad) n ncap) := cell_of_block (HST.out.fr.at_ HB0.out (fun h => h)) (by simpa using H256.out)
                      have g2 : wr.cell? ad = some (.slice ra k rcap) := cell_move (F0.out.tr HST.out.fr) HC1.out
                      have g3 : wr.cell? ⟨g, i, none⟩ = some (.slice (some ⟨bi, 0, none⟩) (n + 1) (n + 1)) := HST.out.hdr hbi
                      have g4 : wr.cell? ⟨bi, j, none⟩ = some (.bool (atF F i j)) := HST.out.cell hbi (by omega)
                      by_cases hck : c < k
                      case neg =>
                        have hckI : ¬ (c : Int) < (k : Int) := by omega
                        have HUP := Lib.hid (HCF.out.done HV.out (.inr (by omega)))
                        go_wp2_with fail
                        go_roundw
                        case rel => exact ⟨j + 1, by omega, by go_num, ⟨_, HST.out, HUP.out⟩⟩
                        case measure => simp [intOf]; omega
                      case pos =>
                        have hckI : (c : Int) < (k : Int) := by omega
                        cases hfij : atF F i j with
                        | true =>
                          rw [hfij] at g4
                          have HUP := Lib.hid (HCF.out.done HV.out (.inl hfij))
                          clear hfij
                          go_wp2_with fail
                          go_roundw
                          case rel => exact ⟨j + 1, by omega, by go_num, ⟨_, HST.out, HUP.out⟩⟩
                          case measure => simp [intOf]; omega
                        | false =>
                          rw [hfij] at g4
                          obtain ⟨x, hx⟩ : ∃ x, toP D n i c = x := ⟨_, rfl⟩
                          obtain ⟨y, hy⟩ : ∃ y, toP D n j c = y := ⟨_, rfl⟩
                          have hxn : x ≤ n := by rw [← hx]; exact toP_le HV.out i c
                          have hyn : y ≤ n := by rw [← hy]; exact toP_le HV.out j c
                          have HX := Lib.hid hx
                          have HY := Lib.hid hy
                          obtain ⟨bx, hbx⟩ : ∃ b, R[x]? = some b := ⟨_, List.getElem?_eq_getElem (by rw [HRL.out]; omega)⟩
                          have hx0 : (0 : Int) ≤ (x : Int) := by omega
                          have hx1 : (x : Int) < (n : Int) + 1 := by omega
                          have hy0 : (0 : Int) ≤ (y : Int) := by omega
                          have hy1 : (y : Int) < (n : Int) + 1 := by omega
                          clear hx hy
                          have HSP := Lib.hid (show ∀ (wx : World) (G : List (List Bool)), ApSt D n wa wx BB (Value.slice (some ⟨g, 0, none⟩) (n + 1) xcap) R (Value.slice (some ⟨tg, 0, none⟩) (n + 1) tcap2) G → (wx.rangeAt w.heap.size 0 C ∧ wx.cell? ⟨g, i, none⟩ = some (.slice (some ⟨bi, 0, none⟩) (n + 1) (n + 1)) ∧ wx.cell? ⟨g, x, none⟩ = some (.slice (some ⟨bx, 0, none⟩) (n + 1) (n + 1))) from fun wx G hs =>
                            ⟨range_of (hs.fr.at_ HB0.out (fun h => h)), hs.hdr hbi, hs.hdr hbx⟩)
                          have HSX := Lib.hid (show ∀ (wx : World), Fr none_ wr wx → (wx.rangeAt w.heap.size 0 C ∧ wx.cell? ⟨g, i, none⟩ = some (.slice (some ⟨bi, 0, none⟩) (n + 1) (n + 1)) ∧ wx.cell? ⟨g, x, none⟩ = some (.slice (some ⟨bx, 0, none⟩) (n + 1) (n + 1))) from fun wx hf => HSP.out _ _ (HST.out.move hf))
                          go_wp2_with fail
                          clear g1 g2 g3 g4
                          refine wp_region_held_drew (S := fun wx => wx.rangeAt w.heap.size 0 C ∧ wx.cell? ⟨g, i, none⟩ = some (.slice (some ⟨bi, 0, none⟩) (n + 1) (n + 1)) ∧ wx.cell? ⟨g, x, none⟩ = some (.slice (some ⟨bx, 0, none⟩) (n + 1) (n + 1))) (by kernel_rfl) (HSX.out _ (Fr.refl none_ wr).drew) (fun hHeld => ?_)
                          try simp only [Act.put, List.setIfInBounds_toArray, List.set_cons_zero, List.set_cons_succ]
                          refine wpAnyH_take (i := 0) (v := ?_) lot0 (by kernel_rfl) (by kernel_rfl) (by kernel_rfl) (fun _ _ _ h => h) (Or.inl ⟨by rfl, ?_⟩) (by assumption) ?_
                          rotate_left
                          · (intro wv hSw; (try dsimp only at hSw); obtain ⟨s1, s2, s3⟩ := hSw; go_simp) <;> with_reducible rfl
                          try simp only [Act.put, List.setIfInBounds_toArray, List.set_cons_zero, List.set_cons_succ]
                          refine wpAnyH_take (i := 1) (v := ?_) lot1 (by kernel_rfl) (by kernel_rfl) (by kernel_rfl) (fun _ _ _ h => h) (Or.inl ⟨by rfl, ?_⟩) (by assumption) ?_
                          rotate_left
                          · (intro wv hSw; (try dsimp only at hSw); obtain ⟨s1, s2, s3⟩ := hSw; go_simp) <;> with_reducible rfl
                          try simp only [Act.put, List.setIfInBounds_toArray, List.set_cons_zero, List.set_cons_succ]
                          refine wpAnyH_take (i := 2) (v := ?_) lot2 (by kernel_rfl) (by kernel_rfl) (by kernel_rfl) (fun _ _ _ h => h) (Or.inl ⟨by rfl, ?_⟩) (by assumption) ?_
                          rotate_left
                          · (intro wv hSw; (try dsimp only at hSw); obtain ⟨s1, s2, s3⟩ := hSw; go_simp) <;> with_reducible rfl
                          try simp only [Act.put, List.setIfInBounds_toArray, List.set_cons_zero, List.set_cons_succ]
                          refine wpAnyH_take (i := 3) (v := ?_) lot3 (by kernel_rfl) (by kernel_rfl) (by kernel_rfl) (fun _ _ _ h => h) (Or.inl ⟨by rfl, ?_⟩) (by assumption) ?_
                          rotate_left
                          · (intro wv hSw; (try dsimp only at hSw); obtain ⟨s1, s2, s3⟩ := hSw; go_simp) <;> with_reducible rfl
                          try simp only [Act.put, List.setIfInBounds_toArray, List.set_cons_zero, List.set_cons_succ]
                          refine wpAnyH_take (i := 4) (v := ?_) lot4 (by kernel_rfl) (by kernel_rfl) (by kernel_rfl) (fun _ _ _ h => h) (Or.inl ⟨by rfl, ?_⟩) (by assumption) ?_
                          rotate_left
                          · (intro wv hSw; (try dsimp only at hSw); obtain ⟨s1, s2, s3⟩ := hSw; go_simp) <;> with_reducible rfl
                          try simp only [Act.put, List.setIfInBounds_toArray, List.set_cons_zero, List.set_cons_succ]
                          refine wpAnyH_take (i := 5) (v := ?_) lot5 (by kernel_rfl) (by kernel_rfl) (by kernel_rfl) (fun _ _ _ h => h) (Or.inl ⟨by rfl, ?_⟩) (by assumption) ?_
                          rotate_left
                          · (intro wv hSw; (try dsimp only at hSw); obtain ⟨s1, s2, s3⟩ := hSw; go_simp) <;> with_reducible rfl
                          try simp only [Act.put, List.setIfInBounds_toArray, List.set_cons_zero, List.set_cons_succ]
                          refine wpAnyH_take (i := 6) lot6 (by kernel_rfl) (by kernel_rfl) (by kernel_rfl) (fun _ _ _ h => h) (yieldsIf_load_mid (by rfl) _ _ rfl _ _ rfl C _ (fun _ h => h.1) Tryz.underlying34 rfl (by rw [hz]; exact refD_info)) (by assumption) ?_
                          try simp only [Act.put, List.setIfInBounds_toArray, List.set_cons_zero, List.set_cons_succ]
                          refine wpAnyH_take (i := 7) (v := ?_) lot7 (by kernel_rfl) (by kernel_rfl) (by kernel_rfl) (fun _ _ _ h => h) (Or.inl ⟨by rfl, ?_⟩) (by assumption) ?_
                          rotate_left
                          · (intro wv hSw; (try dsimp only at hSw); obtain ⟨s1, s2, s3⟩ := hSw; go_simp) <;> with_reducible rfl
                          try simp only [Act.put, List.setIfInBounds_toArray, List.set_cons_zero, List.set_cons_succ]
                          refine wpAnyH_take (i := 8) (v := ?_) lot8 (by kernel_rfl) (by kernel_rfl) (by kernel_rfl) (fun _ _ _ h => h) (Or.inl ⟨by rfl, ?_⟩) (by assumption) ?_
                          rotate_left
                          · (intro wv hSw; (try dsimp only at hSw); obtain ⟨s1, s2, s3⟩ := hSw; go_simp) <;> with_reducible rfl
                          try simp only [Act.put, List.setIfInBounds_toArray, List.set_cons_zero, List.set_cons_succ]
                          refine wpAnyH_take (i := 12) lot12 (by kernel_rfl) (by kernel_rfl) (by kernel_rfl) (fun _ _ _ h => h) (yieldsIf_load_mid (by rfl) _ _ rfl _ _ rfl C _ (fun _ h => h.1) Tryz.underlying34 rfl (by rw [hz]; exact refD_info)) (by assumption) ?_
                          try simp only [Act.put, List.setIfInBounds_toArray, List.set_cons_zero, List.set_cons_succ]
                          refine wpAnyH_take (i := 13) (v := ?_) lot13 (by kernel_rfl) (by kernel_rfl) (by kernel_rfl) (fun _ _ _ h => h) (Or.inl ⟨by rfl, ?_⟩) (by assumption) ?_
                          rotate_left
                          · (intro wv hSw; (try dsimp only at hSw); obtain ⟨s1, s2, s3⟩ := hSw; go_simp) <;> with_reducible rfl
                          try simp only [Act.put, List.setIfInBounds_toArray, List.set_cons_zero, List.set_cons_succ]
                          refine wpAnyH_take (i := 14) (v := ?_) lot14 (by kernel_rfl) (by kernel_rfl) (by kernel_rfl) (fun _ _ _ h => h) (Or.inl ⟨by rfl, ?_⟩) (by assumption) ?_
                          rotate_left
                          · (intro wv hSw; (try dsimp only at hSw); obtain ⟨s1, s2, s3⟩ := hSw; go_simp) <;> with_reducible rfl
                          try simp only [Act.put, List.setIfInBounds_toArray, List.set_cons_zero, List.set_cons_succ]
                          refine wpAnyH_ready (rs := [9]) (by kernel_rfl) (by simp) ?_
                          refine AllReadyH.cons lot9 (fun K hK => ?_) AllReadyH.nil
                          go_simp
                          go_at_call 38
                          refine (to_any D n k _ i c _ (HD.out.move (HST.out.fr.drew)) HV.out (by omega) (by omega) hck).mono ?_
                          rintro e wx1 ⟨rfl, Fx1⟩
                          rw [HX.out]
                          have G1 := Lib.hid (((Fr.refl none_ wr).drew).tr Fx1)
                          clear Fx1
                          refine hK.out _ _ (HSX.out _ G1.out) (fun hHeld => ?_)
                          clear hK K
                          try simp only [Act.put, List.setIfInBounds_toArray, List.set_cons_zero, List.set_cons_succ]
                          refine wpAnyH_take (i := 10) (v := ?_) lot10 (by kernel_rfl) (by kernel_rfl) (by kernel_rfl) (fun _ _ _ h => h) (Or.inl ⟨by rfl, ?_⟩) (by assumption) ?_
                          rotate_left
                          · (intro wv hSw; (try dsimp only at hSw); obtain ⟨s1, s2, s3⟩ := hSw; go_simp) <;> with_reducible rfl
                          try simp only [Act.put, List.setIfInBounds_toArray, List.set_cons_zero, List.set_cons_succ]
                          refine wpAnyH_take (i := 11) (v := ?_) lot11 (by kernel_rfl) (by kernel_rfl) (by kernel_rfl) (fun _ _ _ h => h) (Or.inl ⟨by rfl, ?_⟩) (by assumption) ?_
                          rotate_left
                          · (intro wv hSw; (try dsimp only at hSw); obtain ⟨s1, s2, s3⟩ := hSw; go_simp) <;> with_reducible rfl
                          try simp only [Act.put, List.setIfInBounds_toArray, List.set_cons_zero, List.set_cons_succ]
                          refine wpAnyH_ready (rs := [15]) (by kernel_rfl) (by simp) ?_
                          refine AllReadyH.cons lot15 (fun K hK => ?_) AllReadyH.nil
                          go_simp
                          go_at_call 38
                          refine (to_any D n k _ j c _ (HD.out.move (HST.out.fr.tr G1.out)) HV.out (by omega) (by omega) hck).mono ?_
                          rintro e wx2 ⟨rfl, Fx2⟩
                          rw [HY.out]
                          have G2 := Lib.hid (G1.out.tr Fx2)
                          clear Fx2 G1
                          refine hK.out _ _ (HSX.out _ G2.out) (fun hHeld => ?_)
                          clear hK K
                          try simp only [Act.put, List.setIfInBounds_toArray, List.set_cons_zero, List.set_cons_succ]
                          refine wpAnyH_take (i := 16) (v := ?_) lot16 (by kernel_rfl) (by kernel_rfl) (by kernel_rfl) (fun _ _ _ h => h) (Or.inl ⟨by rfl, ?_⟩) (by assumption) ?_
                          rotate_left
                          · (intro wv hSw; (try dsimp only at hSw); obtain ⟨s1, s2, s3⟩ := hSw; go_simp) <;> with_reducible rfl
                          try simp only [Act.put, List.setIfInBounds_toArray, List.set_cons_zero, List.set_cons_succ]
                          have HST2 := Lib.hid (HST.out.move G2.out)
                          have c17 : wx2.cell? ⟨bx, y, none⟩ = some (.bool (atF F x y)) := HST2.out.cell hbx (by omega)
                          have c19 : wx2.cell? ⟨bi, j, none⟩ = some (.bool (atF F i j)) := HST2.out.cell hbi (by omega)
                          have f19 : wx2.frozen? ⟨bi, j, none⟩ = false := HST2.out.free hbi j
                          refine wpAnyH_ready (rs := [17]) (by kernel_rfl) (by simp) ?_
                          refine AllReadyH.cons lot17 (fun K hK => ?_) AllReadyH.nil
                          go_simp
                          refine hK.out _ _ (HSX.out _ G2.out) (fun hHeld => ?_)
                          clear hK K c17
                          try simp only [Act.put, List.setIfInBounds_toArray, List.set_cons_zero, List.set_cons_succ]
                          refine wpAnyH_take (i := 18) (v := ?_) lot18 (by kernel_rfl) (by kernel_rfl) (by kernel_rfl) (fun _ _ _ h => h) (Or.inl ⟨by rfl, ?_⟩) (by assumption) ?_
                          rotate_left
                          · (intro wv hSw; (try dsimp only at hSw); obtain ⟨s1, s2, s3⟩ := hSw; go_simp) <;> with_reducible rfl
                          try simp only [Act.put, List.setIfInBounds_toArray, List.set_cons_zero, List.set_cons_succ]
                          refine wpAnyH_ready (rs := [19]) (by kernel_rfl) (by simp) ?_
                          refine AllReadyH.cons lot19 (fun K hK => ?_) AllReadyH.nil
                          go_simp
                          have HPUT := Lib.hid (HST2.out.put hbi j (atF F x y))
                          refine hK.out _ _ (HSP.out _ _ HPUT.out) (fun hHeld => ?_)
                          clear hK K
                          try simp only [Act.put, List.setIfInBounds_toArray, List.set_cons_zero, List.set_cons_succ]
                          refine wpAnyH_done (by kernel_rfl) ?_ _
                          have HCN := Lib.hid (HCF.out.step HDM.out (by omega) (by omega) hfij)
                          rw [HX.out, HY.out] at HCN
                          clear c19 f19 HST2 G2
                          go_wp2_with fail
                          go_roundw
                          case rel => exact ⟨c + 1, by omega, by go_num, ⟨_, HPUT.out, HCN.out⟩⟩
                          case measure => simp [intOf]; omega
                  case neg =>
                    have htI : ((T1 : Int) != (T2 : Int)) = true := by simp; omega
                    have HCS := Lib.hid (CellF.start_true HUP.out HST.out.dim hin hjn)
                    go_wp2_with fail
                    go_quiet (fail)
                    have HSTD := Lib.hid (HST.out.move ((Fr.refl none_ wr).drewN nq))
                    obtain ⟨wb, hwb⟩ : ∃ y, wr.drewN nq = y := ⟨_, rfl⟩
                    rw [hwb] at HSTD ⊢
                    clear hwb t1 t2 HST
                    have k3 : wb.cell? ⟨g, i, none⟩ = some (.slice (some ⟨bi, 0, none⟩) (n + 1) (n + 1)) := HSTD.out.hdr hbi
                    have k4 : wb.cell? ⟨bi, j, none⟩ = some (.bool (atF F i j)) := HSTD.out.cell hbi (by omega)
                    have k5 : wb.frozen? ⟨bi, j, none⟩ = false := HSTD.out.free hbi j
                    have HSTS := Lib.hid (HSTD.out.put hbi j true)
                    go_wp2_with fail
                    obtain ⟨wc, hwc⟩ : ∃ y, wb.setCell ⟨bi, j, none⟩ (.bool true) = y := ⟨_, rfl⟩
                    rw [hwc] at HSTS ⊢
                    clear hwc k3 k4 k5 HSTD
                    go_loopw [10] (fun x10 wr => ∃ c : Nat, c ≤ k ∧ x10 = .int .i64 c ∧ Aside (∃ F, ApSt D n wa wr BB (Value.slice (some ⟨g, 0, none⟩) (n + 1) xcap) R (Value.slice (some ⟨tg, 0, none⟩) (n + 1) tcap2) F ∧ CellF D n k l i j c F)) (fun x10 _ => k - (intOf x10).toNat)
                    case atStart => exact ⟨0, Nat.zero_le _, rfl, ⟨_, HSTS.out, HCS.out⟩⟩
                    case round =>
                      obtain ⟨c, hc, rfl, h'⟩ := hrel
                      obtain ⟨F, hst, hcf⟩ := h'.out
                      have HST := Lib.hid hst
                      have HCF := Lib.hid hcf
                      have HDM := Lib.hid hst.dim
                      clear h' hst hcf HSTS HCS
                      have hc0 : (0 : Int) ≤ (c : Int) := by omega
                      have g1 : wr.cell? ⟨w.heap.size, 256, none⟩ = some (.slice (some ad) n ncap) := cell_of_block (HST.out.fr.at_ HB0.out (fun h => h)) (by simpa using H256.out)
                      have g2 : wr.cell? ad = some (.slice ra k rcap) := cell_move (F0.out.tr HST.out.fr) HC1.out
                      have g3 : wr.cell? ⟨g, i, none⟩ = some (.slice (some ⟨bi, 0, none⟩) (n + 1) (n + 1)) := HST.out.hdr hbi
                      have g4 : wr.cell? ⟨bi, j, none⟩ = some (.bool (atF F i j)) := HST.out.cell hbi (by omega)
                      by_cases hck : c < k
                      case neg =>
                        have hckI : ¬ (c : Int) < (k : Int) := by omega
                        have HUP := Lib.hid (HCF.out.done HV.out (.inr (by omega)))
                        go_wp2_with fail
                        go_roundw
                        case rel => exact ⟨j + 1, by omega, by go_num, ⟨_, HST.out, HUP.out⟩⟩
                        case measure => simp [intOf]; omega
                      case pos =>
                        have hckI : (c : Int) < (k : Int) := by omega
                        cases hfij : atF F i j with
                        | true =>
                          rw [hfij] at g4
                          have HUP := Lib.hid (HCF.out.done HV.out (.inl hfij))
                          clear hfij
                          go_wp2_with fail
                          go_roundw
                          case rel => exact ⟨j + 1, by omega, by go_num, ⟨_, HST.out, HUP.out⟩⟩
                          case measure => simp [intOf]; omega
                        | false =>
                          rw [hfij] at g4
                          obtain ⟨x, hx⟩ : ∃ x, toP D n i c = x := ⟨_, rfl⟩
                          obtain ⟨y, hy⟩ : ∃ y, toP D n j c = y := ⟨_, rfl⟩
                          have hxn : x ≤ n := by rw [← hx]; exact toP_le HV.out i c
                          have hyn : y ≤ n := by rw [← hy]; exact toP_le HV.out j c
                          have HX := Lib.hid hx
                          have HY := Lib.hid hy
                          obtain ⟨bx, hbx⟩ : ∃ b, R[x]? = some b := ⟨_, List.getElem?_eq_getElem (by rw [HRL.out]; omega)⟩
                          have hx0 : (0 : Int) ≤ (x : Int) := by omega
                          have hx1 : (x : Int) < (n : Int) + 1 := by omega
                          have hy0 : (0 : Int) ≤ (y : Int) := by omega
                          have hy1 : (y : Int) < (n : Int) + 1 := by omega
                          clear hx hy
                          have HSP := Lib.hid (show ∀ (wx : World) (G : List (List Bool)), ApSt D n wa wx BB (Value.slice (some ⟨g, 0, none⟩) (n + 1) xcap) R (Value.slice (some ⟨tg, 0, none⟩) (n + 1) tcap2) G → (wx.rangeAt w.heap.size 0 C ∧ wx.cell? ⟨g, i, none⟩ = some (.slice (some ⟨bi, 0, none⟩) (n + 1) (n + 1)) ∧ wx.cell? ⟨g, x, none⟩ = some (.slice (some ⟨bx, 0, none⟩) (n + 1) (n + 1))) from fun wx G hs =>
                            ⟨range_of (hs.fr.at_ HB0.out (fun h => h)), hs.hdr hbi, hs.hdr hbx⟩)
                          have HSX := Lib.hid (show ∀ (wx : World), Fr none_ wr wx → (wx.rangeAt w.heap.size 0 C ∧ wx.cell? ⟨g, i, none⟩ = some (.slice (some ⟨bi, 0, none⟩) (n + 1) (n + 1)) ∧ wx.cell? ⟨g, x, none⟩ = some (.slice (some ⟨bx, 0, none⟩) (n + 1) (n + 1))) from fun wx hf => HSP.out _ _ (HST.out.move hf))
                          go_wp2_with fail
                          clear g1 g2 g3 g4
                          refine wp_region_held_drew (S := fun wx => wx.rangeAt w.heap.size 0 C ∧ wx.cell? ⟨g, i, none⟩ = some (.slice (some ⟨bi, 0, none⟩) (n + 1) (n + 1)) ∧ wx.cell? ⟨g, x, none⟩ = some (.slice (some ⟨bx, 0, none⟩) (n + 1) (n + 1))) (by kernel_rfl) (HSX.out _ (Fr.refl none_ wr).drew) (fun hHeld => ?_)
                          try simp only [Act.put, List.setIfInBounds_toArray, List.set_cons_zero, List.set_cons_succ]
                          refine wpAnyH_take (i := 0) (v := ?_) lot0 (by kernel_rfl) (by kernel_rfl) (by kernel_rfl) (fun _ _ _ h => h) (Or.inl ⟨by rfl, ?_⟩) (by assumption) ?_
                          rotate_left
                          · (intro wv hSw; (try dsimp only at hSw); obtain ⟨s1, s2, s3⟩ := hSw; go_simp) <;> with_reducible rfl
                          try simp only [Act.put, List.setIfInBounds_toArray, List.set_cons_zero, List.set_cons_succ]
                          refine wpAnyH_take (i := 1) (v := ?_) lot1 (by kernel_rfl) (by kernel_rfl) (by kernel_rfl) (fun _ _ _ h => h) (Or.inl ⟨by rfl, ?_⟩) (by assumption) ?_
                          rotate_left
                          · (intro wv hSw; (try dsimp only at hSw); obtain ⟨s1, s2, s3⟩ := hSw; go_simp) <;> with_reducible rfl
                          try simp only [Act.put, List.setIfInBounds_toArray, List.set_cons_zero, List.set_cons_succ]
                          refine wpAnyH_take (i := 2) (v := ?_) lot2 (by kernel_rfl) (by kernel_rfl) (by kernel_rfl) (fun _ _ _ h => h) (Or.inl ⟨by rfl, ?_⟩) (by assumption) ?_
                          rotate_left
                          · (intro wv hSw; (try dsimp only at hSw); obtain ⟨s1, s2, s3⟩ := hSw; go_simp) <;> with_reducible rfl
                          try simp only [Act.put, List.setIfInBounds_toArray, List.set_cons_zero, List.set_cons_succ]
                          refine wpAnyH_take (i := 3) (v := ?_) lot3 (by kernel_rfl) (by kernel_rfl) (by kernel_rfl) (fun _ _ _ h => h) (Or.inl ⟨by rfl, ?_⟩) (by assumption) ?_
                          rotate_left
                          · (intro wv hSw; (try dsimp only at hSw); obtain ⟨s1, s2, s3⟩ := hSw; go_simp) <;> with_reducible rfl
                          try simp only [Act.put, List.setIfInBounds_toArray, List.set_cons_zero, List.set_cons_succ]
                          refine wpAnyH_take (i := 4) (v := ?_) lot4 (by kernel_rfl) (by kernel_rfl) (by kernel_rfl) (fun _ _ _ h => h) (Or.inl ⟨by rfl, ?_⟩) (by assumption) ?_
                          rotate_left
                          · (intro wv hSw; (try dsimp only at hSw); obtain ⟨s1, s2, s3⟩ := hSw; go_simp) <;> with_reducible rfl
                          try simp only [Act.put, List.setIfInBounds_toArray, List.set_cons_zero, List.set_cons_succ]
                          refine wpAnyH_take (i := 5) (v := ?_) lot5 (by kernel_rfl) (by kernel_rfl) (by kernel_rfl) (fun _ _ _ h => h) (Or.inl ⟨by rfl, ?_⟩) (by assumption) ?_
                          rotate_left
                          · (intro wv hSw; (try dsimp only at hSw); obtain ⟨s1, s2, s3⟩ := hSw; go_simp) <;> with_reducible rfl
                          try simp only [Act.put, List.setIfInBounds_toArray, List.set_cons_zero, List.set_cons_succ]
                          refine wpAnyH_take (i := 6) lot6 (by kernel_rfl) (by kernel_rfl) (by kernel_rfl) (fun _ _ _ h => h) (yieldsIf_load_mid (by rfl) _ _ rfl _ _ rfl C _ (fun _ h => h.1) Tryz.underlying34 rfl (by rw [hz]; exact refD_info)) (by assumption) ?_
                          try simp only [Act.put, List.setIfInBounds_toArray, List.set_cons_zero, List.set_cons_succ]
                          refine wpAnyH_take (i := 7) (v := ?_) lot7 (by kernel_rfl) (by kernel_rfl) (by kernel_rfl) (fun _ _ _ h => h) (Or.inl ⟨by rfl, ?_⟩) (by assumption) ?_
                          rotate_left
                          · (intro wv hSw; (try dsimp only at hSw); obtain ⟨s1, s2, s3⟩ := hSw; go_simp) <;> with_reducible rfl
                          try simp only [Act.put, List.setIfInBounds_toArray, List.set_cons_zero, List.set_cons_succ]
                          refine wpAnyH_take (i := 8) (v := ?_) lot8 (by kernel_rfl) (by kernel_rfl) (by kernel_rfl) (fun _ _ _ h => h) (Or.inl ⟨by rfl, ?_⟩) (by assumption) ?_
                          rotate_left
                          · (intro wv hSw; (try dsimp only at hSw); obtain ⟨s1, s2, s3⟩ := hSw; go_simp) <;> with_reducible rfl
                          try simp only [Act.put, List.setIfInBounds_toArray, List.set_cons_zero, List.set_cons_succ]
                          refine wpAnyH_take (i := 12) lot12 (by kernel_rfl) (by kernel_rfl) (by kernel_rfl) (fun _ _ _ h => h) (yieldsIf_load_mid (by rfl) _ _ rfl _ _ rfl C _ (fun _ h => h.1) Tryz.underlying34 rfl (by rw [hz]; exact refD_info)) (by assumption) ?_
                          try simp only [Act.put, List.setIfInBounds_toArray, List.set_cons_zero, List.set_cons_succ]
                          refine wpAnyH_take (i := 13) (v := ?_) lot13 (by kernel_rfl) (by kernel_rfl) (by kernel_rfl) (fun _ _ _ h => h) (Or.inl ⟨by rfl, ?_⟩) (by assumption) ?_
                          rotate_left
                          · (intro wv hSw; (try dsimp only at hSw); obtain ⟨s1, s2, s3⟩ := hSw; go_simp) <;> with_reducible rfl
                          try simp only [Act.put, List.setIfInBounds_toArray, List.set_cons_zero, List.set_cons_succ]
                          refine wpAnyH_take (i := 14) (v := ?_) lot14 (by kernel_rfl) (by kernel_rfl) (by kernel_rfl) (fun _ _ _ h => h) (Or.inl ⟨by rfl, ?_⟩) (by assumption) ?_
                          rotate_left
                          · (intro wv hSw; (try dsimp only at hSw); obtain ⟨s1, s2, s3⟩ := hSw; go_simp) <;> with_reducible rfl
                          try simp only [Act.put, List.setIfInBounds_toArray, List.set_cons_zero, List.set_cons_succ]
                          refine wpAnyH_ready (rs := [9]) (by kernel_rfl) (by simp) ?_
                          refine AllReadyH.cons lot9 (fun K hK => ?_) AllReadyH.nil
                          go_simp
                          go_at_call 38
                          refine (to_any D n k _ i c _ (HD.out.move (HST.out.fr.drew)) HV.out (by omega) (by omega) hck).mono ?_
                          rintro e wx1 ⟨rfl, Fx1⟩
                          rw [HX.out]
                          have G1 := Lib.hid (((Fr.refl none_ wr).drew).tr Fx1)
                          clear Fx1
                          refine hK.out _ _ (HSX.out _ G1.out) (fun hHeld => ?_)
                          clear hK K
                          try simp only [Act.put, List.setIfInBounds_toArray, List.set_cons_zero, List.set_cons_succ]
                          refine wpAnyH_take (i := 10) (v := ?_) lot10 (by kernel_rfl) (by kernel_rfl) (by kernel_rfl) (fun _ _ _ h => h) (Or.inl ⟨by rfl, ?_⟩) (by assumption) ?_
                          rotate_left
                          · (intro wv hSw; (try dsimp only at hSw); obtain ⟨s1, s2, s3⟩ := hSw; go_simp) <;> with_reducible rfl
                          try simp only [Act.put, List.setIfInBounds_toArray, List.set_cons_zero, List.set_cons_succ]
                          refine wpAnyH_take (i := 11) (v := ?_) lot11 (by kernel_rfl) (by kernel_rfl) (by kernel_rfl) (fun _ _ _ h => h) (Or.inl ⟨by rfl, ?_⟩) (by assumption) ?_
                          rotate_left
                          · (intro wv hSw; (try dsimp only at hSw); obtain ⟨s1, s2, s3⟩ := hSw; go_simp) <;> with_reducible rfl
                          try simp only [Act.put, List.setIfInBounds_toArray, List.set_cons_zero, List.set_cons_succ]
                          refine wpAnyH_ready (rs := [15]) (by kernel_rfl) (by simp) ?_
                          refine AllReadyH.cons lot15 (fun K hK => ?_) AllReadyH.nil
                          go_simp
                          go_at_call 38
                          refine (to_any D n k _ j c _ (HD.out.move (HST.out.fr.tr G1.out)) HV.out (by omega) (by omega) hck).mono ?_
                          rintro e wx2 ⟨rfl, Fx2⟩
                          rw [HY.out]
                          have G2 := Lib.hid (G1.out.tr Fx2)
                          clear Fx2 G1
                          refine hK.out _ _ (HSX.out _ G2.out) (fun hHeld => ?_)
                          clear hK K
                          try simp only [Act.put, List.setIfInBounds_toArray, List.set_cons_zero, List.set_cons_succ]
                          refine wpAnyH_take (i := 16) (v := ?_) lot16 (by kernel_rfl) (by kernel_rfl) (by kernel_rfl) (fun _ _ _ h => h) (Or.inl ⟨by rfl, ?_⟩) (by assumption) ?_
                          rotate_left
                          · (intro wv hSw; (try dsimp only at hSw); obtain ⟨s1, s2, s3⟩ := hSw; go_simp) <;> with_reducible rfl
                          try simp only [Act.put, List.setIfInBounds_toArray, List.set_cons_zero, List.set_cons_succ]
                          have HST2 := Lib.hid (HST.out.move G2.out)
                          have c17 : wx2.cell? ⟨bx, y, none⟩ = some (.bool (atF F x y)) := HST2.out.cell hbx (by omega)
                          have c19 : wx2.cell? ⟨bi, j, none⟩ = some (.bool (atF F i j)) := HST2.out.cell hbi (by omega)
                          have f19 : wx2.frozen? ⟨bi, j, none⟩ = false := HST2.out.free hbi j
                          refine wpAnyH_ready (rs := [17]) (by kernel_rfl) (by simp) ?_
                          refine AllReadyH.cons lot17 (fun K hK => ?_) AllReadyH.nil
                          go_simp
                          refine hK.out _ _ (HSX.out _ G2.out) (fun hHeld => ?_)
                          clear hK K c17
                          try simp only [Act.put, List.setIfInBounds_toArray, List.set_cons_zero, List.set_cons_succ]
                          refine wpAnyH_take (i := 18) (v := ?_) lot18 (by kernel_rfl) (by kernel_rfl) (by kernel_rfl) (fun _ _ _ h => h) (Or.inl ⟨by rfl, ?_⟩) (by assumption) ?_
                          rotate_left
                          · (intro wv hSw; (try dsimp only at hSw); obtain ⟨s1, s2, s3⟩ := hSw; go_simp) <;> with_reducible rfl
                          try simp only [Act.put, List.setIfInBounds_toArray, List.set_cons_zero, List.set_cons_succ]
                          refine wpAnyH_ready (rs := [19]) (by kernel_rfl) (by simp) ?_
                          refine AllReadyH.cons lot19 (fun K hK => ?_) AllReadyH.nil
                          go_simp
                          have HPUT := Lib.hid (HST2.out.put hbi j (atF F x y))
                          refine hK.out _ _ (HSP.out _ _ HPUT.out) (fun hHeld => ?_)
                          clear hK K
                          try simp only [Act.put, List.setIfInBounds_toArray, List.set_cons_zero, List.set_cons_succ]
                          refine wpAnyH_done (by kernel_rfl) ?_ _
                          have HCN := Lib.hid (HCF.out.step HDM.out (by omega) (by omega) hfij)
                          rw [HX.out, HY.out] at HCN
                          clear c19 f19 HST2 G2
                          go_wp2_with fail
                          go_roundw
                          case rel => exact ⟨c + 1, by omega, by go_num, ⟨_, HPUT.out, HCN.out⟩⟩
                          case measure => simp [intOf]; omega
end Go.Proofs.YtglflmkkecephaaGreatDoor

namespace Go.Proofs.YtglflmkkecephaaGreatDoor
open Go.RowKit

theorem up_all {M : Dfa} {N k n : Nat} {S : List Int} {D : Dfa} (h : LeastOk D n k N S M) {F : List (List Bool)} (hu : UpF M N k (N + 2) 0 0 F) {i j : Nat} (hi : i < N) (hj : j < N) (hne : i ≠ j) : atF F i j = true :=
  hu.low (by omega) (by omega) (apart_by h.dv (by omega) (by omega) (fun he => hne (h.apart i j hi hj (by rw [plQ, plQ, if_pos hi, if_pos hj] at he; exact he))))
theorem live_all {M : Dfa} {N k n : Nat} {S : List Int} {D : Dfa} (h : LeastOk D n k N S M) {i : Nat} (hi : i < N) (h1 : 1 < N) : liveM M (i : Int) = true := by
  have h2 := (lives_spec h.dv).2 i hi
  have h3 := h2.2 (h.live i hi h1)
  simp only [liveM, Bool.and_eq_true, decide_eq_true_eq]
  exact ⟨⟨⟨h.dv.valid, by omega⟩, by rw [h.dv.hn]; omega⟩, h3⟩

set_option maxRecDepth 100000 in
set_option maxHeartbeats 4000000 in
theorem miniapart_big (D : Dfa) (v : Value) (w : World) (hD : DfaIn w v D) (htl : D.tags.length ≤ 9223372036854775807) (hl : littleM D = false) (hp : PowOk w) :
    Calls Tryz.prog 3 #[v] w fun e w' => e = .returned (.bool true) ∧ Fr none_ w w' := by
  have HL := Lib.hid hl
  clear hl
  obtain ⟨C, rfl, hz, hone⟩ := hD.cells
  have HD0 := Lib.hid hD
  have HP := Lib.hid hp
  have B0 := Lib.hid (alloc_new w (.cells C.toArray 26))
  have F0 := Lib.hid ((Fr.refl none_ w).alloc (.cells C.toArray 26))
  clear hD hp
  go_enter Tryz.func3, Tryz.ntmps3
  go_wp2_with fail
  refine (works6_any _ (HP.out.move F0.out)).mono ?_
  rintro e w1 ⟨rfl, F1⟩
  have B1 := Lib.hid (F1.at_ B0.out (fun h => h))
  have FA := Lib.hid (F0.out.tr F1)
  have D1 := Lib.hid (HD0.out.move FA.out)
  clear F1 B0
  go_wp2_with (refine wpList_load_row rfl 26 (.tmp 1) rfl w.heap.size 26 C _ rfl B1.out Tryz.underlying26 rfl (by rw [hz]; exact dfa_info) ?_)
  refine (little_any D _ _ D1.out htl).mono ?_
  rintro e w2 ⟨rfl, F1⟩
  rw [HL.out]
  have B2 := Lib.hid (F1.at_ B1.out (fun h => h))
  have FB := Lib.hid (FA.out.tr F1)
  clear F1 B1 D1 FA
  go_wp2_with fail
  go_ret
  exact ⟨rfl, FB.out⟩

set_option maxRecDepth 100000 in
set_option maxHeartbeats 4000000 in
theorem miniapart_bad (D : Dfa) (v : Value) (w : World) (hD : DfaIn w v D) (htl : D.tags.length ≤ 9223372036854775807) (hl : littleM D = true) (hv : validM D = false) (hp : PowOk w) :
    Calls Tryz.prog 3 #[v] w fun e w' => e = .returned (.bool true) ∧ Fr none_ w w' := by
  have HL := Lib.hid hl
  have HV := Lib.hid hv
  clear hl hv
  obtain ⟨C, rfl, hz, hone⟩ := hD.cells
  have HD0 := Lib.hid hD
  have HP := Lib.hid hp
  have B0 := Lib.hid (alloc_new w (.cells C.toArray 26))
  have F0 := Lib.hid ((Fr.refl none_ w).alloc (.cells C.toArray 26))
  clear hD hp
  go_enter Tryz.func3, Tryz.ntmps3
  go_wp2_with fail
  refine (works6_any _ (HP.out.move F0.out)).mono ?_
  rintro e w1 ⟨rfl, F1⟩
  have B1 := Lib.hid (F1.at_ B0.out (fun h => h))
  have FA := Lib.hid (F0.out.tr F1)
  have D1 := Lib.hid (HD0.out.move FA.out)
  clear F1 B0
  go_wp2_with (refine wpList_load_row rfl 26 (.tmp 1) rfl w.heap.size 26 C _ rfl B1.out Tryz.underlying26 rfl (by rw [hz]; exact dfa_info) ?_)
  refine (little_any D _ _ D1.out htl).mono ?_
  rintro e w2 ⟨rfl, F1⟩
  rw [HL.out]
  have B2 := Lib.hid (F1.at_ B1.out (fun h => h))
  have FB := Lib.hid (FA.out.tr F1)
  clear F1 B1 D1 FA
  go_wp2_with (refine wpList_load_row rfl 26 (.tmp 1) rfl w.heap.size 26 C _ rfl B2.out Tryz.underlying26 rfl (by rw [hz]; exact dfa_info) ?_)
  refine (least_no D _ _ (HD0.out.move FB.out) HV.out).mono ?_
  rintro e w3 ⟨rfl, F1⟩
  have LR := laid_row w3 Tryz.zeroCells26 26 Tryz.zeroCells26
  have FC := Lib.hid ((FB.out.tr F1).tr LR.1)
  clear F1 LR
  go_wp2_with (refine wpList_store_row rfl 26 (.tmp 5) (.tmp 21) rfl w3.heap.size 26 Tryz.zeroCells26 Tryz.zeroCells26 rfl rfl (alloc_new w3 _) (by rw [zeroD_size]; exact dfa_info) rfl zeroD_one ?_)
  go_ret
  exact ⟨rfl, FC.out⟩

set_option maxRecDepth 100000 in
set_option maxHeartbeats 4000000 in
theorem miniapart_good (D : Dfa) (v : Value) (w : World) (hD : DfaIn w v D) (htl : D.tags.length ≤ 9223372036854775807) (htg : ∀ t ∈ D.tags, t < 18446744073709551616) (hl : littleM D = true) (hv : validM D = true) (hp : PowOk w) :
    Calls Tryz.prog 3 #[v] w fun e w' => e = .returned (.bool true) ∧ Fr none_ w w' := by
  have HL := Lib.hid hl
  have HV := Lib.hid hv
  have hdv := valid_dv hv
  obtain ⟨hn30, ht30, hr20⟩ := little_spec.1 hl
  have hk20 : (D.next.getD 0 []).length ≤ 20 := by
    have hpos := hdv.pos
    rw [List.getD, List.getElem?_eq_getElem hpos]
    exact hr20 _ (List.getElem_mem hpos)
  obtain ⟨k, hk⟩ : ∃ k, (D.next.getD 0 []).length = k := ⟨_, rfl⟩
  rw [hk] at hdv hk20
  have HDV := Lib.hid hdv
  have HTG := Lib.hid htg
  obtain ⟨N, S, hok⟩ := least_ok hdv (show D.next.length < 100000 by omega)
  obtain ⟨M, hM⟩ : ∃ M, leastM D = M := ⟨_, rfl⟩
  rw [hM] at hok
  have HOK := Lib.hid hok
  have HMQ := Lib.hid hM
  have hN30 : N < 30 := by have := hok.le; omega
  have hNpos := hok.dv.pos
  have HMN := Lib.hid hok.dv.hn
  have hMk : (M.next.getD 0 []).length ≤ 20 := by rw [(hok.dv.rowAt hok.dv.pos).1]; exact hk20
  clear hl hv htg hr20 hdv hok hM hk
  obtain ⟨C, rfl, hz, hone⟩ := hD.cells
  have HD0 := Lib.hid hD
  have HP := Lib.hid hp
  have B0 := Lib.hid (alloc_new w (.cells C.toArray 26))
  have F0 := Lib.hid ((Fr.refl none_ w).alloc (.cells C.toArray 26))
  clear hD hp
  go_enter Tryz.func3, Tryz.ntmps3
  go_wp2_with fail
  refine (works6_any _ (HP.out.move F0.out)).mono ?_
  rintro e w1 ⟨rfl, F1⟩
  have B1 := Lib.hid (F1.at_ B0.out (fun h => h))
  have FA := Lib.hid (F0.out.tr F1)
  have D1 := Lib.hid (HD0.out.move FA.out)
  clear F1 B0
  go_wp2_with (refine wpList_load_row rfl 26 (.tmp 1) rfl w.heap.size 26 C _ rfl B1.out Tryz.underlying26 rfl (by rw [hz]; exact dfa_info) ?_)
  refine (little_any D _ _ D1.out htl).mono ?_
  rintro e w2 ⟨rfl, F1⟩
  rw [HL.out]
  have B2 := Lib.hid (F1.at_ B1.out (fun h => h))
  have FB := Lib.hid (FA.out.tr F1)
  clear F1 B1 D1 FA
  go_wp2_with (refine wpList_load_row rfl 26 (.tmp 1) rfl w.heap.size 26 C _ rfl B2.out Tryz.underlying26 rfl (by rw [hz]; exact dfa_info) ?_)
  refine (least_yes D _ _ _ _ (HD0.out.move FB.out) HDV.out HV.out (by omega) (by omega) HTG.out (HP.out.move FB.out)).mono ?_
  rintro e w3 ⟨v3, rfl, hD3, F1⟩
  rw [HMQ.out] at hD3
  obtain ⟨C3, na3, ncap3, rfl, hz3, hone3, h3⟩ := hD3.cells2
  rw [HMN.out] at h3
  have H3 := Lib.hid h3
  have HD3 := Lib.hid hD3
  have LR := laid_row w3 Tryz.zeroCells26 26 C3.toArray
  have LF := Lib.hid LR.1
  have LB := Lib.hid LR.2
  have FC := Lib.hid ((FB.out.tr F1).tr LF.out)
  have D4 := Lib.hid (HD3.out.move LF.out)
  clear F1 LR h3 hD3 HD3 B2 FB
  go_wp2_with (first
    | (refine wpList_store_row rfl 26 (.tmp 5) (.tmp 21) rfl w3.heap.size 26 Tryz.zeroCells26 C3.toArray rfl rfl (alloc_new w3 _) ?_ ?_ hone3 ?_; (rw [List.size_toArray, hz3]; exact dfa_info); (rw [zeroD_size, List.size_toArray, hz3]))
    | (refine wpList_load_row rfl 26 (.tmp 5) rfl w3.heap.size 26 C3 _ rfl LB.out Tryz.underlying26 rfl ?_ ?_; (rw [hz3]; exact dfa_info)))
  obtain ⟨b5, hb5⟩ : ∃ x, w3.heap.size = x := ⟨_, rfl⟩
  obtain ⟨w4, hw4⟩ : ∃ x, (w3.alloc (.cells Tryz.zeroCells26 26)).setRow w3.heap.size C3.toArray = x := ⟨_, rfl⟩
  rw [hw4] at LF LB FC D4 ⊢
  rw [hb5] at LB ⊢
  clear hw4 hb5 LF
  refine (ofref_any M _ _ D4.out).mono ?_
  rintro e w5 ⟨rfl, F5⟩
  go_wp2_with fail
  refine (apart_any M N k _ _ (D4.out.move F5) HOK.out.dv (by omega) (by omega)).mono ?_
  rintro e w6 ⟨u6, rfl, ⟨BB, g, cap, R, F, wa, tv, rfl, hap, hup⟩, F6⟩
  have FD := Lib.hid ((FC.out.tr F5).tr F6)
  have L6 := Lib.hid ((F5.tr F6).at_ LB.out (fun h => h))
  have D6 := Lib.hid (D4.out.move (F5.tr F6))
  have HAP0 := Lib.hid hap
  have HRL := Lib.hid hap.len
  have HUPA := Lib.hid (show ∀ i j, i < N → j < N → i ≠ j → atF F i j = true from fun i j hi hj hne => up_all HOK.out hup hi hj hne)
  have HLV := Lib.hid (show ∀ i : Nat, i < N → 1 < N → liveM M (i : Int) = true from fun i hi h1 => live_all HOK.out hi h1)
  clear F5 F6 hap hup LB D4 FC
  go_wp2_with fail
  go_loopw [8] (fun x8 wr => ∃ i : Nat, i ≤ N ∧ x8 = .int .i64 i ∧ Aside (Fr none_ w6 wr)) (fun x8 _ => N - (intOf x8).toNat)
  case atStart => exact ⟨0, Nat.zero_le _, rfl, Fr.refl _ _⟩
  case round =>
    obtain ⟨i, hiN, rfl, h'⟩ := hrel
    have FR := Lib.hid h'.out
    clear h'
    have LBr := Lib.hid (FR.out.at_ L6.out (fun h => h))
    have g1 : wr.cell? ⟨b5, 256, none⟩ = some (.slice na3 N ncap3) := cell_of_block LBr.out (by simpa using H3.out)
    have hi0 : (0 : Int) ≤ (i : Int) := by omega
    by_cases hlt : i < N
    case neg =>
      have hiI : ¬ (i : Int) < (N : Int) := by omega
      go_wp2_with fail
      go_ret
      exact ⟨rfl, FD.out.tr FR.out⟩
    case pos =>
      have hiI : (i : Int) < (N : Int) := by omega
      have hi1 : (i : Int) < (N : Int) + 1 := by omega
      go_wp2_with (refine wpList_load_row rfl 26 (.tmp 5) rfl b5 26 C3 _ rfl LBr.out Tryz.underlying26 rfl ?_ ?_; (rw [hz3]; exact dfa_info))
      refine (live_any M _ (i : Int) _ (D6.out.move FR.out) (WalkArith.wf_i64 (by omega)) (by rw [HMN.out]; omega) (by omega)).mono ?_
      rintro e w7 ⟨rfl, F7⟩
      have FS := Lib.hid (FR.out.tr F7)
      have c1 : w7.cell? ⟨b5, 256, none⟩ = some (.slice na3 N ncap3) := cell_of_block (F7.at_ LBr.out (fun h => h)) (by simpa using H3.out)
      obtain ⟨bi, hbi⟩ : ∃ b, R[i]? = some b := ⟨_, List.getElem?_eq_getElem (by rw [HRL.out]; omega)⟩
      clear F7 g1 FR LBr
      by_cases h1N : 1 < N
      case pos =>
        rw [HLV.out i hlt h1N]
        go_wp2_with fail
        go_loopw [9] (fun x9 wr => ∃ j : Nat, j ≤ i ∧ x9 = .int .i64 j ∧ Aside (wr = w7)) (fun x9 _ => i - (intOf x9).toNat)
        case atStart => exact ⟨0, Nat.zero_le _, rfl, rfl⟩
        case round =>
          obtain ⟨j, hji, rfl, h'⟩ := hrel
          obtain rfl := h'.out
          clear h'
          have hj0 : (0 : Int) ≤ (j : Int) := by omega
          by_cases hjl : j < i
          case pos =>
            have hjI : (j : Int) < (i : Int) := by omega
            have hj1 : (j : Int) < (N : Int) + 1 := by omega
            have HAP := Lib.hid (HAP0.out.move FS.out)
            have g3 : wr.cell? ⟨g, i, none⟩ = some (.slice (some ⟨bi, 0, none⟩) (N + 1) (N + 1)) := HAP.out.hdr hbi
            have g4 : wr.cell? ⟨bi, j, none⟩ = some (.bool true) := by
              have h1 := HAP.out.cell hbi (show j < N + 1 by omega)
              rw [HUPA.out i j hlt (by omega) (by omega)] at h1
              exact h1
            go_wp2_with fail
            go_roundw
            case rel => exact ⟨j + 1, by omega, by go_num, trivial⟩
            case measure => simp [intOf]; omega
          case neg =>
            have hjI : ¬ (j : Int) < (i : Int) := by omega
            go_wp2_with fail
            go_roundw
            case rel => exact ⟨i + 1, by omega, by go_num, FS.out⟩
            case measure => simp [intOf]; omega
      case neg =>
        have hNI : ¬ (1 : Int) < (N : Int) := by omega
        cases hlm : liveM M (i : Int) with
        | true =>
          go_wp2_with fail
          go_loopw [9] (fun x9 wr => ∃ j : Nat, j ≤ i ∧ x9 = .int .i64 j ∧ Aside (wr = w7)) (fun x9 _ => i - (intOf x9).toNat)
          case atStart => exact ⟨0, Nat.zero_le _, rfl, rfl⟩
          case round =>
            obtain ⟨j, hji, rfl, h'⟩ := hrel
            obtain rfl := h'.out
            clear h'
            have hj0 : (0 : Int) ≤ (j : Int) := by omega
            by_cases hjl : j < i
            case pos =>
              have hjI : (j : Int) < (i : Int) := by omega
              have hj1 : (j : Int) < (N : Int) + 1 := by omega
              have HAP := Lib.hid (HAP0.out.move FS.out)
              have g3 : wr.cell? ⟨g, i, none⟩ = some (.slice (some ⟨bi, 0, none⟩) (N + 1) (N + 1)) := HAP.out.hdr hbi
              have g4 : wr.cell? ⟨bi, j, none⟩ = some (.bool true) := by
                have h1 := HAP.out.cell hbi (show j < N + 1 by omega)
                rw [HUPA.out i j hlt (by omega) (by omega)] at h1
                exact h1
              go_wp2_with fail
              go_roundw
              case rel => exact ⟨j + 1, by omega, by go_num, trivial⟩
              case measure => simp [intOf]; omega
            case neg =>
              have hjI : ¬ (j : Int) < (i : Int) := by omega
              go_wp2_with fail
              go_roundw
              case rel => exact ⟨i + 1, by omega, by go_num, FS.out⟩
              case measure => simp [intOf]; omega
        | false =>
          go_wp2_with fail
          go_loopw [9] (fun x9 wr => ∃ j : Nat, j ≤ i ∧ x9 = .int .i64 j ∧ Aside (wr = w7)) (fun x9 _ => i - (intOf x9).toNat)
          case atStart => exact ⟨0, Nat.zero_le _, rfl, rfl⟩
          case round =>
            obtain ⟨j, hji, rfl, h'⟩ := hrel
            obtain rfl := h'.out
            clear h'
            have hj0 : (0 : Int) ≤ (j : Int) := by omega
            by_cases hjl : j < i
            case pos =>
              have hjI : (j : Int) < (i : Int) := by omega
              have hj1 : (j : Int) < (N : Int) + 1 := by omega
              have HAP := Lib.hid (HAP0.out.move FS.out)
              have g3 : wr.cell? ⟨g, i, none⟩ = some (.slice (some ⟨bi, 0, none⟩) (N + 1) (N + 1)) := HAP.out.hdr hbi
              have g4 : wr.cell? ⟨bi, j, none⟩ = some (.bool true) := by
                have h1 := HAP.out.cell hbi (show j < N + 1 by omega)
                rw [HUPA.out i j hlt (by omega) (by omega)] at h1
                exact h1
              go_wp2_with fail
              go_roundw
              case rel => exact ⟨j + 1, by omega, by go_num, trivial⟩
              case measure => simp [intOf]; omega
            case neg =>
              have hjI : ¬ (j : Int) < (i : Int) := by omega
              go_wp2_with fail
              go_roundw
              case rel => exact ⟨i + 1, by omega, by go_num, FS.out⟩
              case measure => simp [intOf]; omega
end Go.Proofs.YtglflmkkecephaaGreatDoor

namespace Go.Proofs.YtglflmkkecephaaGreatDoor
open Go.RowKit

theorem miniapart_any (v : Value) (D : Dfa) (w : World) (h : DfaIn w v D ∧ (∀ t ∈ D.tags, t < 18446744073709551616) ∧ (∀ r ∈ D.next, ∀ z ∈ r, intDom z) ∧ D.tags.length ≤ 9223372036854775807) (hp : PowOk w) :
    Calls Tryz.prog 3 #[v] w fun e w' => e = .returned (.bool true) ∧ Below w.heap.size w w' := by
  obtain ⟨hD, ht, _, htl⟩ := h
  have key : Calls Tryz.prog 3 #[v] w fun e w' => e = .returned (.bool true) ∧ Fr none_ w w' := by
    cases hl : littleM D with
    | false => exact miniapart_big D v w hD htl hl hp
    | true =>
      cases hv : validM D with
      | false => exact miniapart_bad D v w hD htl hl hv hp
      | true => exact miniapart_good D v w hD htl ht hl hv hp
  exact key.mono fun e w' h => ⟨h.1, h.2.below⟩
end Go.Proofs.YtglflmkkecephaaGreatDoor
