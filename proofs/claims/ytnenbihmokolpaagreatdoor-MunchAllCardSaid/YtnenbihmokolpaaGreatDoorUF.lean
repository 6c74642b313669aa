/-
  The reference of layer 6: to, tagged; Of of layer 5.
  The reference of layer 5: Go, Run.
  The reference of layer 7: Longest.
  The reference of layer 7: Win, Pick.
  MunchAll: the reference's All, and the law.
-/
import Derived.Test.YtnenbihmokolpaaGreatDoorMD
import Derived.Test.YtnenbihmokolpaaGreatDoorMA
import Derived.Test.YtnenbihmokolpaaGreatDoorUE
import Derived.Test.YtnenbihmokolpaaGreatDoorUC
namespace Go.Proofs.YtnenbihmokolpaaGreatDoor
open Go.RowKit

theorem refD_info : (Tryz.prog.info? 38).map (·.size) = some 258 := by kernel_rfl
theorem zeroR_list : Tryz.zeroCells38 = Tryz.zeroCells26 := by kernel_rfl
theorem to_row {D : Dfa} {n k : Nat} (hv : DV D n k) {i c : Nat} (hi : i < n) (hc : c < k) : ∃ r, D.next[i]? = some r ∧ r.length = k ∧ ∃ t : Int, r[c]? = some t ∧ toD D (plQ n i) c = t ∧ -1 ≤ t ∧ t < n := by
  have hil : i < D.next.length := by rw [hv.hn]; exact hi
  obtain ⟨h1, h2⟩ := hv.row _ (List.getElem_mem hil)
  refine ⟨D.next[i], List.getElem?_eq_getElem hil, h1, ?_⟩
  have hcl : c < (D.next[i]).length := by rw [h1]; exact hc
  refine ⟨(D.next[i])[c], List.getElem?_eq_getElem hcl, ?_, h2 _ (List.getElem_mem hcl)⟩
  rw [plQ, if_pos hi, to_at]
  simp [List.getD, List.getElem?_eq_getElem hil, List.getElem?_eq_getElem hcl]

set_option maxRecDepth 100000 in
set_option maxHeartbeats 4000000 in
theorem to_any (D : Dfa) (n k : Nat) (v : Value) (i c : Nat) (w : World) (h : DfaIn w v D) (hv : DV D n k) (hn : n ≤ 10000) (hi : i ≤ n) (hc : c < k) :
    Calls Tryz.prog 40 #[v, .int .i64 i, .int .i64 c] w fun e w' => e = .returned (.int .i64 (toP D n i c)) ∧ Fr none_ w w' := by
  obtain ⟨C, na, ta, ncap, tcap, rfl, hz, h256, h257, hrow, htag⟩ := h.all
  rw [hv.hn] at h256
  have HR := Lib.hid hrow
  have B0 := Lib.hid (alloc_new w (.cells C.toArray 38))
  have F0 := Lib.hid ((Fr.refl none_ w).alloc (.cells C.toArray 38))
  have f1 : (w.alloc (.cells C.toArray 38)).cell? ⟨w.heap.size, 256, none⟩ = some (.slice na n ncap) := cell_of_block B0.out (by simpa using h256)
  have hi0 : (0 : Int) ≤ (i : Int) := by omega
  have hc0 : (0 : Int) ≤ (c : Int) := by omega
  clear h hrow htag h256 h257
  by_cases hlt : i < n
  · have hil : ¬ (n : Int) ≤ (i : Int) := by omega
    have hil2 : (i : Int) < (n : Int) := by omega
    obtain ⟨r, hr, hrk, t, ht, hto, ht1, ht2⟩ := to_row hv hlt hc
    have HTO := Lib.hid hto
    obtain ⟨ad, rv, rfl, hc1, ra, rcap, rfl, hrc⟩ := HR.out i r hr
    obtain ⟨xd, rfl, hcx⟩ := hrc c t ht
    rw [hrk] at hc1
    have f2 := F0.out.cell hc1 (fun h => h)
    have f3 := F0.out.cell hcx (fun h => h)
    have hck : (c : Int) < (k : Int) := by omega
    clear hrc hc1 hcx hr ht hto
    by_cases h0 : t < 0
    · have HT := Lib.hid (show toP D n i c = n by rw [toP, HTO.out, if_pos h0])
      go_enter Tryz.func40, Tryz.ntmps40
      go_wp2_with fail
      go_ret
      exact ⟨by rw [HT.out]; rfl, F0.out⟩
    · have HT := Lib.hid (show toP D n i c = t.toNat by rw [toP, HTO.out, if_neg h0])
      go_enter Tryz.func40, Tryz.ntmps40
      go_wp2_with fail
      go_ret
      exact ⟨by rw [HT.out, Int.toNat_of_nonneg (by omega)]; rfl, F0.out⟩
  · obtain rfl : i = n := by omega
    have hil : (i : Int) ≤ (i : Int) := by omega
    have HT := Lib.hid (show toP D i i c = i by
      have hq : plQ i i = -1 := if_neg (by omega)
      rw [toP, hq, to_neg D (by decide), if_pos (by decide)])
    go_enter Tryz.func40, Tryz.ntmps40
    go_wp2_with fail
    go_ret
    exact ⟨by rw [HT.out]; rfl, F0.out⟩

set_option maxRecDepth 100000 in
set_option maxHeartbeats 4000000 in
theorem tagged_any (D : Dfa) (n k : Nat) (v : Value) (w : World) (h : DfaIn w v D) (hv : DV D n k) (hn : n ≤ 10000) :
    Calls Tryz.prog 76 #[v] w fun e w' => ∃ u, e = .returned u ∧ w'.ownsRow w.heap.size 28 1 u (n + 1) (setsV (D.tags ++ [0])) ∧ Fr none_ w w' := by
  obtain ⟨C, na, ta, ncap, tcap, rfl, hz, h256, h257, hrow, htag⟩ := h.all
  have hpos := hv.pos
  have htl := hv.ht
  rw [htl] at h257
  obtain ⟨td, rfl, htc⟩ : ∃ ad, ta = some ad ∧ ∀ (j : Nat) (u : Value), (setsV D.tags)[j]? = some u → w.cell? (ad.add j) = some u := by
    obtain ⟨ad, e0, _⟩ := htag 0 _ (List.getElem?_eq_getElem (show 0 < D.tags.length by omega))
    refine ⟨ad, e0, fun j u hu => ?_⟩
    rw [setsV, List.getElem?_map] at hu
    cases hz : D.tags[j]? with
    | none => rw [hz] at hu; simp at hu
    | some z =>
      rw [hz] at hu
      obtain ⟨ad2, e, h2⟩ := htag j z hz
      rw [e0] at e
      injection e with e
      subst e
      rw [h2]
      simpa using hu
  have B0 := Lib.hid (alloc_new w (.cells C.toArray 38))
  have F0 := Lib.hid ((Fr.refl none_ w).alloc (.cells C.toArray 38))
  have f1 : (w.alloc (.cells C.toArray 38)).cell? ⟨w.heap.size, 257, none⟩ = some (.slice (some td) n tcap) := cell_of_block B0.out (by simpa using h257)
  have HNT := Lib.hid (show ∀ (j : Nat) (u : Value), (setsV D.tags)[j]? = some u → (w.alloc (.cells C.toArray 38)).cell? (td.add j) = some u from fun j u hu => F0.out.cell (htc j u hu) (fun h => h))
  have hsl : (setsV D.tags).length = n := by rw [setsV, List.length_map]; exact htl
  have HSO := Lib.hid (show ∀ u ∈ setsV D.tags, u.oneCell' = true from fun u hu => by
    simp only [setsV, List.mem_map] at hu
    obtain ⟨m, _, rfl⟩ := hu
    rfl)
  obtain ⟨j0, hj, hy0, hy1, hy2⟩ := info_parts set_info
  obtain ⟨B, hB⟩ : ∃ B, w.heap.size = B := ⟨_, rfl⟩
  have hBw : B ≤ w.heap.size := by omega
  have HOW := Lib.hid (show (w.alloc (.cells C.toArray 38)).ownsRow B 28 1 (.slice none 0 0) 0 [] from World.ownsRow_nil _ _ _ _)
  have HBB := Lib.hid hB
  clear h hrow htag h256 h257 htc hB
  go_enter Tryz.func76, Tryz.ntmps76
  go_wp2_with (at_builtin; refine wpList_append_lies _ rfl (.tmp 4) (.tmp 6) 24 rfl B 28 j0 _ 1 8 Tryz.underlying24 hj hy0 hy1 hy2 rfl (by decide) _ 0 [] rfl HOW.out td n tcap (setsV D.tags) rfl (by rw [hsl, Nat.mul_one]) HNT.out HSO.out hpos (by unfold maxLen; omega) (by omega) (by simp; omega) _ rfl ?_)
  intro g5 cap5 y3 hown hgrow hat hlt
  try simp only [Nat.zero_add, List.nil_append] at hown
  have F3 := Lib.hid (F0.out.grown hgrow (fun k hk => by simp [Value.ownBlock] at hk))
  have HO4 := Lib.hid hown
  have hB3 : B ≤ y3.heap.size := by have := F3.out.size; omega
  clear f1 HNT HSO hown hgrow hat hlt
  go_wp2_with (at_builtin; refine wpList_append_lies _ rfl (.tmp 8) (.tmp 9) 24 rfl B 28 j0 _ 1 8 Tryz.underlying24 hj hy0 hy1 hy2 rfl (by decide) _ n (setsV D.tags) rfl (HO4.out.alloc _) ⟨y3.heap.size, 0, none⟩ 1 1 [.int .u64 0] rfl rfl (getElem_block (alloc_new _ _)) (by simp [Value.oneCell']) (by decide) (by unfold maxLen; omega) (by omega) (by first | omega | (simp; omega)) (y3.heap.size + 1) (by simp) ?_)
  intro g6 cap6 y4 hown hgrow hat hlt
  have F4 := Lib.hid ((F3.out.alloc (.cells #[.int .u64 0] 28)).grown hgrow (fun k hk => .inr (by have := (HO4.out.lt k hk).1; have := HBB.out; omega)))
  have HO5 := Lib.hid hown
  clear hown hgrow hat hlt
  go_wp2_with fail
  go_ret
  exact ⟨_, rfl, by rw [HBB.out]; simpa [setsV] using HO5.out, F4.out⟩

set_option maxRecDepth 100000 in
set_option maxHeartbeats 4000000 in
theorem ofref_any (D : Dfa) (v : Value) (w : World) (h : DfaIn w v D) :
    Calls Tryz.prog 9 #[v] w fun e w' => e = .returned v ∧ Fr none_ w w' := by
  obtain ⟨C, na, ta, ncap, tcap, rfl, hz, hCQ, h256, h257, hrow, htag⟩ := h.whole
  have hone : C.toArray.all (·.oneCell') = true := by
    obtain ⟨E, e, _, h3⟩ := h.cells
    have e2 : C = E := by injection e with e; injection e
    rw [e2]; exact h3
  have hq : (intsV D.cls).length = 256 := by rw [intsV_length, h.len]
  obtain ⟨Q, hQ⟩ : ∃ Q, intsV D.cls = Q := ⟨_, rfl⟩
  rw [hQ] at hq hCQ
  have HCQ := Lib.hid hCQ
  have B0 := Lib.hid (((Fr.refl none_ (w.alloc (.cells C.toArray 26))).alloc (.cells Tryz.zeroCells38 38)).at_ (alloc_new w (.cells C.toArray 26)) (fun h => h))
  have F0 := Lib.hid (((Fr.refl none_ w).alloc (.cells C.toArray 26)).alloc (.cells Tryz.zeroCells38 38))
  have hb1 := alloc_new (w.alloc (.cells C.toArray 26)) (.cells Tryz.zeroCells38 38)
  rw [show (w.alloc (.cells C.toArray 26)).heap.size = w.heap.size + 1 by simp] at hb1
  have B1 := Lib.hid hb1
  have f1 : ((w.alloc (.cells C.toArray 26)).alloc (.cells Tryz.zeroCells38 38)).cell? ⟨w.heap.size, 256, none⟩ = some (.slice na D.next.length ncap) := cell_of_block B0.out (by simpa using h256)
  have f2 : ((w.alloc (.cells C.toArray 26)).alloc (.cells Tryz.zeroCells38 38)).cell? ⟨w.heap.size, 257, none⟩ = some (.slice ta D.tags.length tcap) := cell_of_block B0.out (by simpa using h257)
  have HRG := Lib.hid (show ((w.alloc (.cells C.toArray 26)).alloc (.cells Tryz.zeroCells38 38)).rangeAt w.heap.size 0 Q from range_pre (D := [.slice na D.next.length ncap, .slice ta D.tags.length tcap]) (by rw [← HCQ.out]; exact range_of B0.out))
  have hf := fold_class Q hq
  rw [← zeroR_list] at hf
  clear h hrow htag h256 h257 hCQ hb1 hQ
  go_enter Tryz.func9, Tryz.ntmps9
  have hone2 : (Q ++ [Value.slice na D.next.length ncap, Value.slice ta D.tags.length tcap]).toArray.all (·.oneCell') = true := by rw [← HCQ.out]; exact hone
  have hz2 : (Q ++ [Value.slice na D.next.length ncap, Value.slice ta D.tags.length tcap]).length = 258 := by simp [hq]
  go_wp2_with (first
    | (refine wpList_load_mid rfl 22 (.tmp 3) rfl w.heap.size 0 rfl Q _ HRG.out Tryz.underlying22 rfl ?_ ?_; (rw [hq]; exact arr_info))
    | (refine wpList_store_row rfl 38 (.tmp 2) (.tmp 9) rfl (w.heap.size + 1) 38 Tryz.zeroCells38 (Q ++ [Value.slice na D.next.length ncap, Value.slice ta D.tags.length tcap]).toArray rfl rfl B1.out ?_ ?_ hone2 ?_; (rw [List.size_toArray, hz2]; exact refD_info); (rw [zeroR_list, zeroD_size, List.size_toArray, hz2])))
  have hb := setRow_heap ((w.alloc (.cells C.toArray 26)).alloc (.cells Tryz.zeroCells38 38)) (w.heap.size + 1) _ (Q ++ [Value.slice na D.next.length ncap, Value.slice ta D.tags.length tcap]).toArray _ _ B1.out
  refine bodyPost_ret (results_cell_row rfl _ _ (w.heap.size + 1) _ _ _ _ rfl hb Tryz.underlying38 rfl (by rw [List.size_toArray, hz2]; exact refD_info)) rfl ?_
  exact ⟨by rw [HCQ.out], Fr.setRow F0.out (.inr (by omega)) _⟩
end Go.Proofs.YtnenbihmokolpaaGreatDoor

namespace Go.Proofs.YtnenbihmokolpaaGreatDoor
open Go.RowKit

set_option maxRecDepth 100000 in
set_option maxHeartbeats 4000000 in
theorem refgo_any (D : Dfa) (v : Value) (at_ : Int) (b : Nat) (w : World) (h : DfaIn w v D) (hb : b < 256) :
    Calls Tryz.prog 45 #[v, .int .i64 at_, .int .u8 b] w fun e w' => e = .returned (.int .i64 (goM D at_ b)) ∧ Fr none_ w w' := by
  obtain ⟨nv, tv, rfl, hn, ht⟩ := h.ex
  obtain ⟨na, ncap, rfl, hrow⟩ := hn
  have HL := h.len
  obtain ⟨h256, h257⟩ := dfaC_at HL (.slice na D.next.length ncap) tv
  have hcb := dfaC_cls HL (.slice na D.next.length ncap) tv hb
  obtain ⟨C, hC⟩ : ∃ C, dfaC D.cls (.slice na D.next.length ncap) tv = C := ⟨_, rfl⟩
  rw [hC] at h256 h257 hcb ⊢
  obtain ⟨c, hc⟩ : ∃ c, D.cls.getD b 0 = c := ⟨_, rfl⟩
  rw [hc] at hcb
  have hbi : (b : Int) < 256 := by omega
  have hG : goM D at_ b = if at_ < 0 ∨ (D.next.length : Int) ≤ at_ ∨ c < 0 ∨ ((D.next.getD at_.toNat []).length : Int) ≤ c then -1 else
      if (D.next.getD at_.toNat []).getD c.toNat 0 < 0 ∨ (D.next.length : Int) ≤ (D.next.getD at_.toNat []).getD c.toNat 0 then -1 else (D.next.getD at_.toNat []).getD c.toNat 0 := by
    unfold goM; rw [hc]
  have HG := Lib.hid hG
  have HR := Lib.hid hrow
  clear hG hrow hC hc ht h
  have NB := alloc_new w (.cells C.toArray 38)
  have f1 : (w.alloc (.cells C.toArray 38)).cell? ⟨w.heap.size, b, none⟩ = some (.int .i64 c) := by
    rw [Lib.cell_of_heap NB]; simpa using hcb
  have f2 : (w.alloc (.cells C.toArray 38)).cell? ⟨w.heap.size, 256, none⟩ = some (.slice na D.next.length ncap) := by
    rw [Lib.cell_of_heap NB]; simpa using h256
  have HF := Lib.hid ((Fr.refl none_ w).alloc (.cells C.toArray 38))
  clear NB hcb h256 h257
  obtain ⟨N, hN⟩ : ∃ N, D.next.length = N := ⟨_, rfl⟩
  have HN := Lib.hid hN
  rw [hN] at HG f2
  clear hN
  by_cases h1 : at_ < 0
  · have HV := Lib.hid (show goM D at_ b = -1 by rw [HG.out, if_pos (.inl h1)])
    go_enter Tryz.func45, Tryz.ntmps45
    go_wp2_with fail
    go_ret
    exact ⟨by rw [HV.out]; rfl, HF.out⟩
  obtain ⟨i, rfl⟩ := Int.eq_ofNat_of_zero_le (show 0 ≤ at_ by omega)
  have hi0 : (0 : Int) ≤ (i : Int) := by omega
  by_cases h2 : N ≤ i
  · have HV := Lib.hid (show goM D i b = -1 by rw [HG.out, if_pos (.inr (.inl (by omega)))])
    have h2' : (N : Int) ≤ (i : Int) := by omega
    clear h1
    go_enter Tryz.func45, Tryz.ntmps45
    go_wp2_with fail
    go_ret
    exact ⟨by rw [HV.out]; rfl, HF.out⟩
  have h2' : (i : Int) < (N : Int) := by omega
  by_cases h3 : c < 0
  · have HV := Lib.hid (show goM D i b = -1 by rw [HG.out, if_pos (.inr (.inr (.inl h3)))])
    clear h1 h2
    have b1 : decide (c < 0) = true := by simp <;> omega
    go_enter Tryz.func45, Tryz.ntmps45
    go_wp2_with fail
    go_quiet (fail)
    go_wp2_with fail
    go_ret
    exact ⟨by rw [HV.out]; rfl, HF.out.drewN _⟩
  obtain ⟨k, rfl⟩ := Int.eq_ofNat_of_zero_le (show 0 ≤ c by omega)
  have hk0 : (0 : Int) ≤ (k : Int) := by omega
  obtain ⟨row, hrow⟩ : ∃ row, D.next[i]? = some row := ⟨_, List.getElem?_eq_getElem (by rw [HN.out]; omega)⟩
  have hget : D.next.getD i [] = row := by simp [List.getD, hrow]
  obtain ⟨ad, rv, rfl, hcell, ra, rcap, rfl, hr⟩ := HR.out i row hrow
  have f3 := cell_move HF.out hcell
  have hG2 := HG.out
  simp only [Int.toNat_natCast, hget] at hG2
  obtain ⟨M, hM⟩ : ∃ M, row.length = M := ⟨_, rfl⟩
  have HM := Lib.hid hM
  rw [hM] at hG2 f3
  have HG2 := Lib.hid hG2
  have HR2 := Lib.hid hr
  clear h1 h2 h3 hget hcell hG2 hr hM
  by_cases h4 : M ≤ k
  · have HV := Lib.hid (show goM D i b = -1 by rw [HG2.out, if_pos (.inr (.inr (.inr (by omega))))])
    have h4' : (M : Int) ≤ (k : Int) := by omega
    have b1 : decide ((k : Int) < 0) = false := by simp <;> omega
    have b2 : decide ((M : Int) ≤ (k : Int)) = true := by simp <;> omega
    go_enter Tryz.func45, Tryz.ntmps45
    go_wp2_with fail
    go_quiet (fail)
    go_wp2_with fail
    go_ret
    exact ⟨by rw [HV.out]; rfl, HF.out.drewN _⟩
  have h4' : (k : Int) < (M : Int) := by omega
  obtain ⟨to, hto⟩ : ∃ to, row[k]? = some to := ⟨_, List.getElem?_eq_getElem (by rw [HM.out]; omega)⟩
  have hget2 : row.getD k 0 = to := by simp [List.getD, hto]
  obtain ⟨rad, rfl, hcell2⟩ := HR2.out k to hto
  have f4 := cell_move HF.out hcell2
  have hG3 := HG2.out
  rw [if_neg (by omega)] at hG3
  rw [hget2] at hG3
  have HG3 := Lib.hid hG3
  clear h4 hcell2 hG3 hget2 hto
  by_cases h5 : to < 0
  · have HV := Lib.hid (show goM D i b = -1 by rw [HG3.out, if_pos (.inl h5)])
    have b1 : decide ((k : Int) < 0) = false := by simp <;> omega
    have b2 : decide (M ≤ k) = false := by simp <;> omega
    have b3 : decide (to < 0) = true := by simp <;> omega
    go_enter Tryz.func45, Tryz.ntmps45
    go_wp2_with fail
    go_quiet (fail)
    go_wp2_with fail
    go_ret
    exact ⟨by rw [HV.out]; rfl, HF.out.drewN _⟩
  have h5' : 0 ≤ to := by omega
  by_cases h6 : (N : Int) ≤ to
  · have HV := Lib.hid (show goM D i b = -1 by rw [HG3.out, if_pos (.inr h6)])
    clear h5
    have b1 : decide ((k : Int) < 0) = false := by simp <;> omega
    have b2 : decide (M ≤ k) = false := by simp <;> omega
    have b3 : decide (to < 0) = false := by simp <;> omega
    have b4 : decide ((N : Int) ≤ to) = true := by simp <;> omega
    go_enter Tryz.func45, Tryz.ntmps45
    go_wp2_with fail
    go_quiet (fail)
    go_wp2_with fail
    go_ret
    exact ⟨by rw [HV.out]; rfl, HF.out.drewN _⟩
  have HV := Lib.hid (show goM D i b = to by rw [HG3.out, if_neg (by omega)])
  have h6' : to < (N : Int) := by omega
  clear h5 h6
  have b1 : decide ((k : Int) < 0) = false := by simp <;> omega
  have b2 : decide (M ≤ k) = false := by simp <;> omega
  have b3 : decide (to < 0) = false := by simp <;> omega
  have b4 : decide ((N : Int) ≤ to) = false := by simp <;> omega
  go_enter Tryz.func45, Tryz.ntmps45
  go_wp2_with fail
  go_quiet (fail)
  go_wp2_with fail
  go_ret
  exact ⟨by rw [HV.out]; rfl, HF.out.drewN _⟩
set_option maxRecDepth 100000 in
set_option maxHeartbeats 4000000 in
theorem refrun_any (D : Dfa) (v : Value) (s : ByteArray) (w : World) (h : DfaIn w v D) (hs : s.size < 4611686018427387904) :
    Calls Tryz.prog 19 #[v, .string s] w fun e w' => e = .returned (.int .u64 (runD D (bytesN s))) ∧ Fr none_ w w' := by
  have HD := Lib.hid h
  obtain ⟨nv, tv, rfl, hn, ht⟩ := h.ex
  obtain ⟨na, ncap, rfl, _⟩ := hn
  obtain ⟨ta, tcap, rfl, htag⟩ := ht
  have HT := Lib.hid htag
  obtain ⟨h256, h257⟩ := dfaC_at h.len (.slice na D.next.length ncap) (.slice ta D.tags.length tcap)
  have HC := Lib.hid (dfaC_length D.cls (.slice na D.next.length ncap) (.slice ta D.tags.length tcap) h.len)
  obtain ⟨C, hC⟩ : ∃ C, dfaC D.cls (.slice na D.next.length ncap) (.slice ta D.tags.length tcap) = C := ⟨_, rfl⟩
  rw [hC] at h256 h257 HC HD ⊢
  clear hC h htag
  have NB := Lib.hid (alloc_new w (.cells C.toArray 38))
  have H256 := Lib.hid h256
  have H257 := Lib.hid h257
  have HF := Lib.hid ((Fr.refl none_ w).alloc (.cells C.toArray 38))
  clear h256 h257
  go_enter Tryz.func19, Tryz.ntmps19
  go_wp2_with fail
  go_loopw [5, 6] (fun x5 x9 wr => ∃ i : Nat, i ≤ s.size ∧ x9 = .int .i64 i ∧ x5 = .int .i64 (atD D 0 ((bytesN s).take i)) ∧ Aside (Fr none_ (w.alloc (.cells C.toArray 38)) wr)) (fun _ x9 _ => s.size - (intOf x9).toNat)
  case atStart => exact ⟨0, Nat.zero_le _, rfl, rfl, Fr.refl _ _⟩
  case round =>
    obtain ⟨i, hi', rfl, rfl, hF'⟩ := hrel
    have HFr := Lib.hid hF'.out
    clear hF'
    obtain ⟨at_, hat⟩ : ∃ a, atD D 0 ((bytesN s).take i) = a := ⟨_, rfl⟩
    have HAT := Lib.hid hat
    rw [hat]
    clear hat
    by_cases hlt : i < s.size
    · have hil : (i : Int) < (s.size : Int) := by omega
      have hi0 : (0 : Int) ≤ (i : Int) := by omega
      have HS := Lib.hid (show atD D 0 ((bytesN s).take (i + 1)) = goM D at_ (byteAt s i) by
        rw [bytesN_take s i hlt, atD_snoc, HAT.out])
      have hbl := byteAt_lt s i
      have hbe := byteAt_eq s i hlt
      have HBE := Lib.hid hbe
      clear hbe
      go_wp2_with fail
      refine wp_region_held_drew (S := fun w' => w'.rangeAt w.heap.size 0 C) (by kernel_rfl) (range_of (HFr.out.drew.at_ NB.out (fun h => h))) (fun hHeld => ?_)
      refine wpAnyH_take (i := 0) lot0 (by kernel_rfl) (by kernel_rfl) (by kernel_rfl) (fun _ _ _ h => h) (yieldsIf_load_mid (by rfl) _ _ rfl _ _ rfl C _ (fun _ h => h) Tryz.underlying38 rfl (by rw [HC.out]; exact refD_info)) (by assumption) ?_
      try simp only [Act.put, List.setIfInBounds_toArray, List.set_cons_zero, List.set_cons_succ]
      refine wpAnyH_take (i := 1) (v := ?_) lot1 (by kernel_rfl) (by kernel_rfl) (by kernel_rfl) (fun _ _ _ h => h) (Or.inl ⟨by rfl, ?_⟩) (by assumption) ?_
      rotate_left
      · (intro w hSw; (try dsimp only at hSw); go_simp) <;> with_reducible rfl
      try simp only [Act.put, List.setIfInBounds_toArray, List.set_cons_zero, List.set_cons_succ]
      refine wpAnyH_take (i := 2) (v := ?_) lot2 (by kernel_rfl) (by kernel_rfl) (by kernel_rfl) (fun _ _ _ h => h) (Or.inl ⟨by rfl, ?_⟩) (by assumption) ?_
      rotate_left
      · (intro w hSw; (try dsimp only at hSw); go_simp) <;> with_reducible rfl
      try simp only [Act.put, List.setIfInBounds_toArray, List.set_cons_zero, List.set_cons_succ]
      refine wpAnyH_take (i := 3) (v := ?_) lot3 (by kernel_rfl) (by kernel_rfl) (by kernel_rfl) (fun _ _ _ h => h) (Or.inl ⟨by rfl, ?_⟩) (by assumption) ?_
      rotate_left
      · (intro w hSw; (try dsimp only at hSw); go_simp) <;> with_reducible rfl
      try simp only [Act.put, List.setIfInBounds_toArray, List.set_cons_zero, List.set_cons_succ]
      refine wpAnyH_take (i := 4) (v := ?_) lot4 (by kernel_rfl) (by kernel_rfl) (by kernel_rfl) (fun _ _ _ h => h) (Or.inl ⟨by rfl, ?_⟩) (by assumption) ?_
      rotate_left
      · (intro w hSw; (try dsimp only at hSw); go_simp) <;> with_reducible rfl
      try simp only [Act.put, List.setIfInBounds_toArray, List.set_cons_zero, List.set_cons_succ]
      refine wpAnyH_ready (rs := [5]) (by kernel_rfl) (by simp) ?_
      refine AllReadyH.cons lot5 (fun K hK => ?_) AllReadyH.nil
      go_simp
      go_at_call 45
      rw [HBE.out]
      refine (refgo_any D _ at_ (byteAt s i) _ (HD.out.move (HF.out.tr HFr.out.drew)) hbl).mono ?_
      rintro e wx ⟨rfl, Fx⟩
      have Gx := Lib.hid ((HFr.out.drew).tr Fx)
      clear Fx
      refine hK.out _ _ (range_of (Gx.out.at_ NB.out (fun h => h))) (fun hHeld => ?_)
      clear hK K
      try simp only [Act.put, List.setIfInBounds_toArray, List.set_cons_zero, List.set_cons_succ]
      refine wpAnyH_take (i := 6) (v := ?_) lot6 (by kernel_rfl) (by kernel_rfl) (by kernel_rfl) (fun _ _ _ h => h) (Or.inl ⟨by rfl, ?_⟩) (by assumption) ?_
      rotate_left
      · (intro w hSw; (try dsimp only at hSw); go_simp) <;> with_reducible rfl
      try simp only [Act.put, List.setIfInBounds_toArray, List.set_cons_zero, List.set_cons_succ]
      refine wpAnyH_done (by kernel_rfl) ?_ _
      go_wp2_with fail
      go_roundw
      case rel => exact ⟨i + 1, by omega, by go_num, by rw [HS.out], Gx.out⟩
      case measure => simp [intOf]; omega
    · obtain rfl : i = s.size := by omega
      have htk : (bytesN s).take s.size = bytesN s := List.take_of_length_le (by rw [bytesN_length]; exact Nat.le_refl _)
      have HAT2 := HAT.out
      rw [htk] at HAT2
      have HR := Lib.hid (show runD D (bytesN s) = tagD D at_ by rw [runD, HAT2])
      clear HAT2 htk
      have NBr := HFr.out.at_ NB.out (fun h => h)
      have f1 : wr.cell? ⟨w.heap.size, 256, none⟩ = some (.slice na D.next.length ncap) := by rw [Lib.cell_of_heap NBr]; simpa using H256.out
      have f2 : wr.cell? ⟨w.heap.size, 257, none⟩ = some (.slice ta D.tags.length tcap) := by rw [Lib.cell_of_heap NBr]; simpa using H257.out
      have HW := Lib.hid (HF.out.tr HFr.out)
      obtain ⟨N, hN⟩ : ∃ N, D.next.length = N := ⟨_, rfl⟩
      obtain ⟨M, hM⟩ : ∃ M, D.tags.length = M := ⟨_, rfl⟩
      have HTD := Lib.hid (show tagD D at_ = if at_ < 0 ∨ (Nat.min M N : Int) ≤ at_ then 0 else D.tags.getD at_.toNat 0 by rw [tagD, hN, hM])
      have HM := Lib.hid hM
      rw [hN] at f1
      rw [hM] at f2
      clear NBr hN hM
      by_cases h1 : at_ < 0
      · have HV := Lib.hid (show tagD D at_ = 0 by rw [HTD.out, if_pos (.inl h1)])
        go_wp2_with fail
        go_ret
        exact ⟨by rw [HR.out, HV.out]; rfl, HW.out⟩
      obtain ⟨k, rfl⟩ := Int.eq_ofNat_of_zero_le (show 0 ≤ at_ by omega)
      have hk0 : ¬ (k : Int) < 0 := by omega
      by_cases h2 : M ≤ k
      · have hmin : Nat.min M N ≤ M := Nat.min_le_left _ _
        have h2' : (M : Int) ≤ (k : Int) := by omega
        have HV := Lib.hid (show tagD D k = 0 by rw [HTD.out, if_pos (.inr (by omega))])
        clear hmin h1
        go_wp2_with fail
        go_ret
        exact ⟨by rw [HR.out, HV.out]; rfl, HW.out⟩
      have h2' : (k : Int) < (M : Int) := by omega
      by_cases h3 : N ≤ k
      · have hmin : Nat.min M N ≤ N := Nat.min_le_right _ _
        have h3' : (N : Int) ≤ (k : Int) := by omega
        have HV := Lib.hid (show tagD D k = 0 by rw [HTD.out, if_pos (.inr (by omega))])
        clear hmin h1
        go_wp2_with fail
        go_ret
        exact ⟨by rw [HR.out, HV.out]; rfl, HW.out⟩
      have h3' : (k : Int) < (N : Int) := by omega
      obtain ⟨z, hz⟩ : ∃ z, D.tags[k]? = some z := ⟨_, List.getElem?_eq_getElem (by rw [HM.out]; omega)⟩
      have hmin : k < Nat.min M N := Nat.lt_min.2 ⟨by omega, by omega⟩
      have HV := Lib.hid (show tagD D k = z by rw [HTD.out, if_neg (by omega)]; simp [List.getD, hz])
      obtain ⟨ad, rfl, hc⟩ := HT.out k z hz
      have f3 := cell_move HW.out hc
      clear hmin h1 hc hz
      go_wp2_with fail
      go_ret
      exact ⟨by rw [HR.out, HV.out]; rfl, HW.out⟩
end Go.Proofs.YtnenbihmokolpaaGreatDoor

namespace Go.Proofs.YtnenbihmokolpaaGreatDoor
open Go.RowKit

theorem rpiece_info : (Tryz.prog.info? 42).map (·.size) = some 2 := by kernel_rfl
/-- Within the loop. -/
structure LgR (w wr : World) (b : Nat) (C : List Value) (m : Nat) (to : Int) : Prop where
  box : wr.heap[b]? = some (.cells C.toArray 38 (0, 0))
  res : wr.heap[b + 1]? = some (.cells #[.int .u64 0, .int .i64 0] 42 (0, 0))
  out : wr.heap[b + 1 + 1]? = some (.cells #[.int .u64 (m : Int), .int .i64 to] 42 (0, 0))
  fr : Fr none_ w wr
  base : w.heap.size ≤ b
theorem LgR.move {w wr wx : World} {b : Nat} {C : List Value} {m : Nat} {to : Int} (h : LgR w wr b C m to) (hf : Fr none_ wr wx) : LgR w wx b C m to :=
  ⟨hf.at_ h.box (fun h => h), hf.at_ h.res (fun h => h), hf.at_ h.out (fun h => h), h.fr.tr hf, h.base⟩
theorem LgR.put {w wr : World} {b : Nat} {C : List Value} {m : Nat} {to : Int} (h : LgR w wr b C m to) (m' : Nat) (to' : Int) : LgR w ((wr.setCell ⟨b + 1 + 1, 0, none⟩ (.int .u64 (m' : Int))).setCell ⟨b + 1 + 1, 1, none⟩ (.int .i64 to')) b C m' to' := by
  have other : ∀ k, k ≠ b + 1 + 1 → ((wr.setCell ⟨b + 1 + 1, 0, none⟩ (.int .u64 (m' : Int))).setCell ⟨b + 1 + 1, 1, none⟩ (.int .i64 to')).heap[k]? = wr.heap[k]? := fun k hk => by
    rw [Below.heap_setCell _ _ _ k hk, Below.heap_setCell _ _ _ k hk]
  refine ⟨(other _ (by omega)).trans h.box, (other _ (by omega)).trans h.res, lg_end h.out _ _, ?_, h.base⟩
  exact (h.fr.setCell (p := ⟨b + 1 + 1, 0, none⟩) (.inr (by have := h.base; show w.heap.size ≤ b + 1 + 1; omega)) _).setCell (p := ⟨b + 1 + 1, 1, none⟩) (.inr (by have := h.base; show w.heap.size ≤ b + 1 + 1; omega)) _

set_option maxRecDepth 100000 in
set_option maxHeartbeats 4000000 in
theorem reflong_out (D : Dfa) (v : Value) (s : ByteArray) (at_ : Int) (may : Nat) (w : World) (h : DfaIn w v D) (hs : s.size < 4611686018427387904) (hat : at_ < 0 ∨ ((s.size : Int) < at_ ∧ at_ ≤ 9223372036854775807)) :
    Calls Tryz.prog 55 #[v, .string s, .int .i64 at_, .int .u64 may] w fun e w' => e = .returned (.agg #[.int .u64 0, .int .i64 at_]) ∧ Fr none_ w w' := by
  obtain ⟨C, rfl, hz, hone⟩ := h.cells
  clear h hone
  obtain ⟨wa, hwa⟩ : ∃ x, (((w.alloc (.cells C.toArray 38)).alloc (.cells #[.int .u64 0, .int .i64 0] 42)).alloc (.cells #[.int .u64 0, .int .i64 at_] 42)) = x := ⟨_, rfl⟩
  have HWA := Lib.hid hwa
  have HAL := Lib.hid (alloc3 w (.cells C.toArray 38) (.cells #[.int .u64 0, .int .i64 0] 42) (.cells #[.int .u64 0, .int .i64 at_] 42))
  clear hwa
  obtain ⟨z, hz1⟩ : ∃ z, IntKind.i64.wrap (at_ + 1) = z := ⟨_, rfl⟩
  have hz2 : at_ < 0 ∨ (0 ≤ at_ ∧ (s.size : Int) < z) ∨ (0 ≤ at_ ∧ z ≤ s.size ∧ z ≤ at_) := by
    rw [IntKind.wrap_i64] at hz1
    omega
  clear hat
  go_enter Tryz.func55, Tryz.ntmps55
  go_wp2_with fail
  rw [HWA.out]
  rw [HWA.out] at HAL
  go_loopw [10] (fun x10 wr => x10 = .int .i64 z ∧ Aside (wr = wa)) (fun x10 _ => 0)
  case atStart => exact ⟨by rw [← hz1], rfl⟩
  case round =>
    obtain ⟨rfl, h'⟩ := hrel
    obtain rfl := h'.out
    clear h' hz1
    obtain ⟨hfr, hb0, hb1, hb2⟩ := HAL.out
    have g0 : wr.cell? ⟨w.heap.size + 1 + 1, 0, none⟩ = some (.int .u64 0) := cell_of_block hb2 rfl
    have g1 : wr.cell? ⟨w.heap.size + 1 + 1, 1, none⟩ = some (.int .i64 at_) := cell_of_block hb2 rfl
    have g2 : wr.cell? ⟨w.heap.size + 1, 0, none⟩ = some (.int .u64 0) := cell_of_block hb1 rfl
    have g3 : wr.cell? ⟨w.heap.size + 1, 1, none⟩ = some (.int .i64 0) := cell_of_block hb1 rfl
    have g4 : wr.frozen? ⟨w.heap.size + 1, 0, none⟩ = false := free_of_block hb1
    have g5 : wr.frozen? ⟨w.heap.size + 1, 1, none⟩ = false := free_of_block hb1
    have HB1 := Lib.hid hb1
    have HFR := Lib.hid hfr
    clear hfr hb0 hb1 hb2
    rcases hz2 with hc | ⟨hc, hc2⟩ | ⟨hc, hc2, hc3⟩

    · have hn : ¬ (0 : Int) ≤ at_ := by omega
      go_wp2_with fail
      refine bodyPost_ret (results_cell_row rfl _ _ (w.heap.size + 1) _ _ _ _ rfl (lg_end HB1.out _ _) Tryz.underlying42 rfl rpiece_info) rfl ?_
      exact ⟨rfl, (HFR.out.setCell (p := ⟨w.heap.size + 1, 0, none⟩) (.inr (by show w.heap.size ≤ w.heap.size + 1; omega)) _).setCell (p := ⟨w.heap.size + 1, 1, none⟩) (.inr (by show w.heap.size ≤ w.heap.size + 1; omega)) _⟩
    · have hn : ¬ z ≤ (s.size : Int) := by omega
      go_wp2_with fail
      refine bodyPost_ret (results_cell_row rfl _ _ (w.heap.size + 1) _ _ _ _ rfl (lg_end HB1.out _ _) Tryz.underlying42 rfl rpiece_info) rfl ?_
      exact ⟨rfl, (HFR.out.setCell (p := ⟨w.heap.size + 1, 0, none⟩) (.inr (by show w.heap.size ≤ w.heap.size + 1; omega)) _).setCell (p := ⟨w.heap.size + 1, 1, none⟩) (.inr (by show w.heap.size ≤ w.heap.size + 1; omega)) _⟩
    · have hn : ¬ at_ < z := by omega
      go_wp2_with fail
      refine bodyPost_ret (results_cell_row rfl _ _ (w.heap.size + 1) _ _ _ _ rfl (lg_end HB1.out _ _) Tryz.underlying42 rfl rpiece_info) rfl ?_
      exact ⟨rfl, (HFR.out.setCell (p := ⟨w.heap.size + 1, 0, none⟩) (.inr (by show w.heap.size ≤ w.heap.size + 1; omega)) _).setCell (p := ⟨w.heap.size + 1, 1, none⟩) (.inr (by show w.heap.size ≤ w.heap.size + 1; omega)) _⟩

set_option maxRecDepth 100000 in
set_option maxHeartbeats 4000000 in
theorem reflong_in (D : Dfa) (v : Value) (s : ByteArray) (a : Nat) (may : Nat) (w : World) (h : DfaIn w v D) (ht : ∀ t ∈ D.tags, t < 18446744073709551616) (hmay : may < 18446744073709551616) (hs : s.size < 4611686018427387904) (has : a ≤ s.size) :
    Calls Tryz.prog 55 #[v, .string s, .int .i64 (a : Int), .int .u64 may] w fun e w' => e = .returned (.agg #[.int .u64 ((longTo D (bytesN s) a may (s.size - a)).1 : Nat), .int .i64 ((longTo D (bytesN s) a may (s.size - a)).2 : Nat)]) ∧ Fr none_ w w' := by
  have HD := Lib.hid h
  obtain ⟨C, rfl, hz, hone⟩ := h.cells
  have HTB := Lib.hid ht
  obtain ⟨wa, hwa⟩ : ∃ x, (((w.alloc (.cells C.toArray 38)).alloc (.cells #[.int .u64 0, .int .i64 0] 42)).alloc (.cells #[.int .u64 0, .int .i64 (a : Int)] 42)) = x := ⟨_, rfl⟩
  have HWA := Lib.hid hwa
  have HAL := Lib.hid (alloc3 w (.cells C.toArray 38) (.cells #[.int .u64 0, .int .i64 0] 42) (.cells #[.int .u64 0, .int .i64 (a : Int)] 42))
  obtain ⟨R, hR⟩ : ∃ R, longTo D (bytesN s) a may (s.size - a) = R := ⟨_, rfl⟩
  have HR := Lib.hid hR
  rw [hR]
  clear hwa h hone ht hR
  go_enter Tryz.func55, Tryz.ntmps55
  go_wp2_with fail
  rw [HWA.out]
  rw [HWA.out] at HAL
  obtain ⟨b, hb⟩ : ∃ b, w.heap.size = b := ⟨_, rfl⟩
  have HB := Lib.hid hb
  have HS0 := Lib.hid (show LgR w wa b C 0 a from by
    obtain ⟨q1, q2, q3, q4⟩ := HAL.out
    rw [hb] at q2 q3 q4
    exact ⟨q2, q3, q4, q1, by omega⟩)
  rw [hb]
  clear HAL HWA hb
  go_loopw [10] (fun x10 wr => ∃ (e : Nat) (m to : Nat), a + 1 ≤ e ∧ e ≤ s.size + 1 ∧ x10 = .int .i64 e ∧ Aside (longTo D (bytesN s) a may (e - 1 - a) = (m, to)) ∧ Aside (LgR w wr b C m to)) (fun x10 _ => s.size + 1 - (intOf x10).toNat)
  case atStart => exact ⟨a + 1, 0, a, Nat.le_refl _, by omega, by first | rfl | simp | (go_num), (show longTo D (bytesN s) a may (a + 1 - 1 - a) = (0, a) by rw [show a + 1 - 1 - a = 0 by omega]; rfl), HS0.out⟩
  case round =>
    obtain ⟨e, m, to, hae, hes, rfl, h1', h2'⟩ := hrel
    have HLO := Lib.hid h1'.out
    have HST := Lib.hid h2'.out
    clear h1' h2' HS0
    have ha0 : (0 : Int) ≤ (a : Int) := by omega
    by_cases hle : e ≤ s.size
    case neg =>
      have hleI : ¬ (e : Int) ≤ (s.size : Int) := by omega
      have HEND := Lib.hid (show R = (m, to) by rw [← HR.out, ← HLO.out, show s.size - a = e - 1 - a by omega])
      have g0 : wr.cell? ⟨b + 1 + 1, 0, none⟩ = some (.int .u64 (m : Int)) := cell_of_block HST.out.out rfl
      have g1 : wr.cell? ⟨b + 1 + 1, 1, none⟩ = some (.int .i64 (to : Int)) := cell_of_block HST.out.out rfl
      have g2 : wr.cell? ⟨b + 1, 0, none⟩ = some (.int .u64 0) := cell_of_block HST.out.res rfl
      have g3 : wr.cell? ⟨b + 1, 1, none⟩ = some (.int .i64 0) := cell_of_block HST.out.res rfl
      have g4 : wr.frozen? ⟨b + 1, 0, none⟩ = false := free_of_block HST.out.res
      have g5 : wr.frozen? ⟨b + 1, 1, none⟩ = false := free_of_block HST.out.res
      have hbase := HST.out.base
      go_wp2_with fail
      refine bodyPost_ret (results_cell_row rfl _ _ (b + 1) _ _ _ _ rfl (lg_end HST.out.res _ _) Tryz.underlying42 rfl rpiece_info) rfl ?_
      exact ⟨by rw [HEND.out], (HST.out.fr.setCell (p := ⟨b + 1, 0, none⟩) (.inr (by show w.heap.size ≤ b + 1; omega)) _).setCell (p := ⟨b + 1, 1, none⟩) (.inr (by show w.heap.size ≤ b + 1; omega)) _⟩
    case pos =>
      have hleI : (e : Int) ≤ (s.size : Int) := by omega
      have hgt : (a : Int) < (e : Int) := by omega
      have hq1 : (a : Int) ≤ (e : Int) := by omega
      have hexs : (s.extract a e).size < 4611686018427387904 := by simp [ByteArray.size_extract]; omega
      obtain ⟨r, hr⟩ : ∃ r, runD D (((bytesN s).drop a).take (e - a)) = r := ⟨_, rfl⟩
      have HRUN := Lib.hid (show runD D (bytesN (s.extract a e)) = r by rw [bytesN_extract, hr])
      have hrl : r < 18446744073709551616 := by rw [← hr]; exact runD_lt HTB.out _
      obtain ⟨m2, hm2⟩ : ∃ m2, r &&& may = m2 := ⟨_, rfl⟩
      have HMM := Lib.hid hm2
      have HNX := Lib.hid (show longTo D (bytesN s) a may (e + 1 - 1 - a) = if m2 = 0 then (m, to) else (m2, e) by
        rw [show e + 1 - 1 - a = (e - 1 - a) + 1 by omega, longTo, show e - 1 - a + 1 = e - a by omega, hr, hm2, HLO.out, show a + (e - 1 - a) + 1 = e by omega])
      have HSX := Lib.hid (show ∀ wx, Fr none_ wr wx → wx.rangeAt b 0 C from fun wx hf => range_of (hf.at_ HST.out.box (fun h => h)))
      clear hr hm2
      go_wp2_with fail
      refine wp_region_held_drew (S := fun wx => wx.rangeAt b 0 C) (by kernel_rfl) (HSX.out _ (Fr.refl none_ wr).drew) (fun hHeld => ?_)
      refine wpAnyH_take (i := 0) lot0 (by kernel_rfl) (by kernel_rfl) (by kernel_rfl) (fun _ _ _ h => h) (yieldsIf_load_mid (by rfl) _ _ rfl _ _ rfl C _ (fun _ h => h) Tryz.underlying38 rfl (by rw [hz]; exact refD_info)) (by assumption) ?_
      try simp only [Act.put, List.setIfInBounds_toArray, List.set_cons_zero, List.set_cons_succ]
      refine wpAnyH_take (i := 1) (v := ?_) lot1 (by kernel_rfl) (by kernel_rfl) (by kernel_rfl) (fun _ _ _ h => h) (Or.inl ⟨by rfl, ?_⟩) (by assumption) ?_
      rotate_left
      · (intro wv hSw; (try dsimp only at hSw); go_simp) <;> with_reducible rfl
      try simp only [Act.put, List.setIfInBounds_toArray, List.set_cons_zero, List.set_cons_succ]
      refine wpAnyH_take (i := 2) (v := ?_) lot2 (by kernel_rfl) (by kernel_rfl) (by kernel_rfl) (fun _ _ _ h => h) (Or.inl ⟨by rfl, ?_⟩) (by assumption) ?_
      rotate_left
      · (intro wv hSw; (try dsimp only at hSw); go_simp) <;> with_reducible rfl
      try simp only [Act.put, List.setIfInBounds_toArray, List.set_cons_zero, List.set_cons_succ]
      refine wpAnyH_take (i := 3) (v := ?_) lot3 (by kernel_rfl) (by kernel_rfl) (by kernel_rfl) (fun _ _ _ h => h) (Or.inl ⟨by rfl, ?_⟩) (by assumption) ?_
      rotate_left
      · (intro wv hSw; (try dsimp only at hSw); go_simp) <;> with_reducible rfl
      try simp only [Act.put, List.setIfInBounds_toArray, List.set_cons_zero, List.set_cons_succ]
      refine wpAnyH_take (i := 4) (v := ?_) lot4 (by kernel_rfl) (by kernel_rfl) (by kernel_rfl) (fun _ _ _ h => h) (Or.inl ⟨by rfl, ?_⟩) (by assumption) ?_
      rotate_left
      · (intro wv hSw; (try dsimp only at hSw); go_simp) <;> with_reducible rfl
      try simp only [Act.put, List.setIfInBounds_toArray, List.set_cons_zero, List.set_cons_succ]
      refine wpAnyH_take (i := 6) (v := ?_) lot6 (by kernel_rfl) (by kernel_rfl) (by kernel_rfl) (fun _ _ _ h => h) (Or.inl ⟨by rfl, ?_⟩) (by assumption) ?_
      rotate_left
      · (intro wv hSw; (try dsimp only at hSw); go_simp) <;> with_reducible rfl
      try simp only [Act.put, List.setIfInBounds_toArray, List.set_cons_zero, List.set_cons_succ]
      refine wpAnyH_ready (rs := [5]) (by kernel_rfl) (by simp) ?_
      refine AllReadyH.cons lot5 (fun K hK => ?_) AllReadyH.nil
      go_simp
      go_at_call 19
      refine (refrun_any D _ (s.extract a e) _ (HD.out.move (HST.out.fr.drew)) (by omega)).mono ?_
      rintro e' wx ⟨rfl, Fx⟩
      rw [HRUN.out]
      have Gx := Lib.hid (((Fr.refl none_ wr).drew).tr Fx)
      clear Fx
      refine hK.out _ _ (HSX.out _ Gx.out) (fun hHeld => ?_)
      clear hK K
      try simp only [Act.put, List.setIfInBounds_toArray, List.set_cons_zero, List.set_cons_succ]
      refine wpAnyH_ready (rs := [7]) (by kernel_rfl) (by simp) ?_
      refine AllReadyH.cons lot7 (fun K hK => ?_) AllReadyH.nil
      go_simp
      go_at_call 81
      refine (refmeet_any r may _ hrl hmay).mono ?_
      rintro e' wy ⟨rfl, Fy⟩
      rw [HMM.out]
      have Gy := Lib.hid (Gx.out.tr Fy)
      clear Fy
      refine hK.out _ _ (HSX.out _ Gy.out) (fun hHeld => ?_)
      clear hK K
      try simp only [Act.put, List.setIfInBounds_toArray, List.set_cons_zero, List.set_cons_succ]
      refine wpAnyH_take (i := 8) (v := ?_) lot8 (by kernel_rfl) (by kernel_rfl) (by kernel_rfl) (fun _ _ _ h => h) (Or.inl ⟨by rfl, ?_⟩) (by assumption) ?_
      rotate_left
      · (intro wv hSw; (try dsimp only at hSw); go_simp) <;> with_reducible rfl
      try simp only [Act.put, List.setIfInBounds_toArray, List.set_cons_zero, List.set_cons_succ]
      refine wpAnyH_done (by kernel_rfl) ?_ _
      have HS2 := Lib.hid (HST.out.move Gy.out)
      clear HST HSX
      by_cases hm0 : m2 = 0
      case pos =>
        subst hm0
        have HN := Lib.hid (show longTo D (bytesN s) a may (e + 1 - 1 - a) = (m, to) by rw [HNX.out, if_pos rfl])
        go_wp2_with fail
        go_roundw
        case rel => exact ⟨e + 1, m, to, by omega, by omega, by go_num, HN.out, HS2.out⟩
        case measure => simp [intOf]; omega
      case neg =>
        have hI : ((m2 : Int) != 0) = true := by simp [hm0]
        have HN := Lib.hid (show longTo D (bytesN s) a may (e + 1 - 1 - a) = (m2, e) by rw [HNX.out, if_neg hm0])
        clear hm0
        have g0 : wy.cell? ⟨b + 1 + 1, 0, none⟩ = some (.int .u64 (m : Int)) := cell_of_block HS2.out.out rfl
        have g1 : wy.cell? ⟨b + 1 + 1, 1, none⟩ = some (.int .i64 (to : Int)) := cell_of_block HS2.out.out rfl
        have g4 : wy.frozen? ⟨b + 1 + 1, 0, none⟩ = false := free_of_block HS2.out.out
        have g5 : wy.frozen? ⟨b + 1 + 1, 1, none⟩ = false := free_of_block HS2.out.out
        have HS3 := Lib.hid (HS2.out.put m2 e)
        go_wp2_with fail
        go_roundw
        case rel => exact ⟨e + 1, m2, e, by omega, by omega, by go_num, HN.out, HS3.out⟩
        case measure => simp [intOf]; omega

theorem reflong_any (D : Dfa) (v : Value) (s : ByteArray) (at_ : Int) (may : Nat) (w : World) (h : DfaIn w v D) (ht : ∀ t ∈ D.tags, t < 18446744073709551616) (hmay : may < 18446744073709551616) (hs : s.size < 4611686018427387904) (hat : at_ ≤ 9223372036854775807) :
    Calls Tryz.prog 55 #[v, .string s, .int .i64 at_, .int .u64 may] w fun e w' => e = .returned (.agg #[.int .u64 ((longM D (bytesN s) at_ may).1 : Nat), .int .i64 (longM D (bytesN s) at_ may).2]) ∧ Fr none_ w w' := by
  unfold longM
  by_cases h1 : 0 ≤ at_ ∧ at_ ≤ (s.size : Int)
  · obtain ⟨a, rfl⟩ := Int.eq_ofNat_of_zero_le h1.1
    have key := reflong_in D v s a may w h ht hmay hs (by omega)
    by_cases h2 : a < s.size
    · rw [if_pos (by rw [bytesN_length]; omega), bytesN_length, Int.toNat_natCast]
      exact key
    · rw [if_neg (by rw [bytesN_length]; omega)]
      rw [show s.size - a = 0 by omega] at key
      exact key
  · rw [if_neg (by rw [bytesN_length]; omega)]
    exact reflong_out D v s at_ may w h hs (by omega)
end Go.Proofs.YtnenbihmokolpaaGreatDoor

namespace Go.Proofs.YtnenbihmokolpaaGreatDoor
open Go.RowKit

def winP (tags : Nat) (ps : List (Int × Int)) (n : Nat) : Bool := tags.testBit n && !beatenM tags ps n
theorem winP_set (tags : Nat) (ps : List (Int × Int)) : setM (ints (belowL (winP tags ps) 64)) = winM tags ps := by
  apply Nat.eq_of_testBit_eq
  intro i
  rw [Bool.eq_iff_iff, testBit_setM, testBit_winM, mem_ints, belowL, List.mem_filter, List.mem_range, winP, Bool.and_eq_true, Bool.not_eq_true']
  exact ⟨fun h => ⟨h.1, h.2.2⟩, fun h => ⟨h.1, h.1, h.2⟩⟩

set_option maxRecDepth 100000 in
set_option maxHeartbeats 4000000 in
theorem refwin_any (tags : Nat) (ps : List (Int × Int)) (a : Option Addr) (len cap : Nat) (w : World) (htags : tags < 18446744073709551616) (hp : PairsIn w a len ps) :
    Calls Tryz.prog 57 #[.int .u64 tags, .slice a len cap] w fun e w' => e = .returned (.int .u64 (winM tags ps)) ∧ Fr none_ w w' := by
  have HP := Lib.hid hp
  have HN := Lib.hid hp.1
  have hl6 := hp.2.1
  obtain ⟨B, hB⟩ : ∃ B, w.heap.size = B := ⟨_, rfl⟩
  have HB := Lib.hid hB
  clear hB hp
  obtain ⟨j0, hj, hy0, hy1, hy2⟩ := info_parts int_info
  go_enter Tryz.func57, Tryz.ntmps57
  go_wp2_with fail
  go_loopw [5, 6] (fun x3 x4 wr => ∃ n : Nat, n ≤ 64 ∧ x4 = .int .i64 n ∧ Aside (wr.ownsRow B 3 1 x3 (belowL (winP tags ps) n).length (nums (belowL (winP tags ps) n))) ∧ Aside (Fr none_ w wr)) (fun _ x4 _ => 64 - (intOf x4).toNat)
  case atStart => exact ⟨0, by omega, rfl, World.ownsRow_nil _ _ _ _, Fr.refl _ _⟩
  case round =>
    obtain ⟨n, hn, rfl, h1', h2'⟩ := hrel
    have HO := Lib.hid h1'.out
    have HF := Lib.hid h2'.out
    clear h1' h2'
    by_cases hlt : n < 64
    case neg =>
      obtain rfl : n = 64 := by omega
      have hk := belowL_length (winP tags ps) 64
      go_wp2_with fail
      refine (refof_any _ (ints (belowL (winP tags ps) 64)) _ (IntsAt.of HO.out) (by rw [ints_length]; omega)).mono ?_
      rintro e w' ⟨rfl, rfl⟩
      have HE := Lib.hid (winP_set tags ps)
      rw [HE.out]
      go_wp2_with fail
      go_ret
      exact ⟨rfl, HF.out⟩
    case pos =>
      have hil : (n : Int) < 64 := by omega
      have HNX := Lib.hid (belowL_succ (winP tags ps) n)
      have hln := belowL_length (winP tags ps) n
      obtain ⟨L, hL⟩ : ∃ L, belowL (winP tags ps) n = L := ⟨_, rfl⟩
      rw [hL] at HNX HO hln
      obtain ⟨M, hM⟩ : ∃ M, L.length = M := ⟨_, rfl⟩
      have HM := Lib.hid hM
      rw [hM] at HO hln
      have hwB : B ≤ wr.heap.size := by rw [← HB.out]; exact HF.out.size
      have HPR := Lib.hid (HP.out.move HF.out)
      clear hL hM
      go_wp2_with fail
      go_loop [7, 8] (fun x7 x8 => ∃ i : Nat, i ≤ len ∧ x8 = .int .i64 i ∧ x7 = .bool ((ps.take i).any (beatP tags n))) (fun _ x8 => len - (intOf x8).toNat)
      case atStart => exact ⟨0, Nat.zero_le _, rfl, rfl⟩
      case round =>
        obtain ⟨i, hi', rfl, rfl⟩ := hrel
        have hi0 : (0 : Int) ≤ (i : Int) := by omega
        by_cases hlt2 : i < len
        case neg =>
          have hil2 : ¬ (i : Int) < (len : Int) := by omega
          obtain ⟨bt, hbt⟩ : ∃ b, beatenM tags ps n = b := ⟨_, rfl⟩
          have HE := Lib.hid (show (ps.take i).any (beatP tags n) = bt by
            rw [List.take_of_length_le (by rw [HN.out]; omega), ← hbt]; rfl)
          rw [HE.out]
          have hwp : winP tags ps n = (tags.testBit n && !bt) := by rw [winP, hbt]
          rw [hwp] at HNX
          clear hwp hbt HE
          go_wp2_with fail
          refine (refhas_any tags n _ htags).mono ?_
          rintro e w' ⟨rfl, rfl⟩
          obtain ⟨b, hb⟩ : ∃ b, (decide (0 ≤ (n : Int)) && tags.testBit (n : Int).toNat) = b := ⟨_, rfl⟩
          have hb2 : tags.testBit n = b := by rw [← hb]; simp
          rw [hb2] at HNX
          rw [hb]
          clear hb hb2
          cases b with
          | false =>
            go_wp2_with fail
            go_roundw
            case rel => exact ⟨n + 1, by omega, by go_num, by rw [HNX.out]; show World.ownsRow _ _ _ _ _ L.length _; rw [HM.out]; exact HO.out, HF.out⟩
            case measure => simp [intOf]; omega
          | true =>
            cases bt with
            | true =>
              go_wp2_with fail
              go_roundw
              case rel => exact ⟨n + 1, by omega, by go_num, by rw [HNX.out]; show World.ownsRow _ _ _ _ _ L.length _; rw [HM.out]; exact HO.out, HF.out⟩
              case measure => simp [intOf]; omega
            | false =>
              go_wp2_with (at_builtin; refine wpList_append_lies _ rfl (.tmp 54) (.tmp 56) 100 rfl B 3 j0 _ 1 8 Tryz.underlying100 hj hy0 hy1 hy2 rfl (by decide) _ M (nums L) rfl (HO.out.alloc _) ⟨wr.heap.size, 0, none⟩ 1 1 [.int .i64 n] rfl rfl (getElem_block (alloc_new _ _)) (by simp [Value.oneCell']) (by decide) (by unfold maxLen; omega) (by omega) (by simp; omega) (wr.heap.size + 1) (by simp) ?_)
              intro g6 cap6 y4 hown hgrow hat hlt
              have F4 := Lib.hid ((HF.out.alloc (.cells #[.int .i64 n] 3)).grown hgrow (fun k hk => .inr (by have := (HO.out.lt k hk).1; have := HB.out; omega)))
              have HO5 := Lib.hid hown
              clear hown hgrow hat hlt
              go_wp2_with fail
              go_roundw
              case rel => exact ⟨n + 1, by omega, by go_num, by rw [HNX.out]; show World.ownsRow _ _ _ _ _ (L ++ [n]).length (nums (L ++ [n])); rw [nums_snoc, List.length_append, HM.out]; exact HO5.out, F4.out⟩
              case measure => simp [intOf]; omega
        case pos =>
          have hil2 : (i : Int) < (len : Int) := by omega
          obtain ⟨p, hpp⟩ : ∃ p, ps[i]? = some p := ⟨_, List.getElem?_eq_getElem (by rw [HN.out]; exact hlt2)⟩
          obtain ⟨ad, rfl, c1, c2⟩ := HPR.out.2.2 i p hpp
          obtain ⟨x, y⟩ := p
          have HNB := Lib.hid (show (ps.take (i + 1)).any (beatP tags n) = ((ps.take i).any (beatP tags n) || beatP tags n (x, y)) by
            rw [List.take_add_one, hpp, List.any_append]; simp)
          obtain ⟨b, hb⟩ : ∃ b, (ps.take i).any (beatP tags n) = b := ⟨_, rfl⟩
          rw [hb] at HNB ⊢
          have e1 : (ad.add (i * 2)).add 1 = ⟨(ad.add (i * 2)).block, (ad.add (i * 2)).off + 1, none⟩ := by rw [Addr.add_succ' _ 0]
          rw [← Addr.add_add, e1] at c2
          clear hb hpp e1
          cases b with
          | true =>
            go_wp2_with fail
            go_round
            case rel => exact ⟨i + 1, by omega, by go_num, by rw [HNB.out]; rfl⟩
            case measure => simp [intOf]; omega
          | false =>
            by_cases hy : y = n
            case neg =>
              have hyI : (y == (n : Int)) = false := by simp [hy]
              have HV := Lib.hid (show (ps.take (i + 1)).any (beatP tags n) = false by rw [HNB.out, beatP]; simp [hy])
              clear hy
              go_wp2_with fail
              go_round
              case rel => exact ⟨i + 1, by omega, by go_num, by rw [HV.out]⟩
              case measure => simp [intOf]; omega
            case pos =>
              subst hy
              by_cases hx : x = n
              case pos =>
                subst hx
                have HV := Lib.hid (show (ps.take (i + 1)).any (beatP tags n) = false by rw [HNB.out, beatP]; simp)
                go_wp2_with fail
                go_round
                case rel => exact ⟨i + 1, by omega, by go_num, by rw [HV.out]⟩
                case measure => simp [intOf]; omega
              case neg =>
                have hxI : (x != (n : Int)) = true := by simp [hx]
                have HV := Lib.hid (show (ps.take (i + 1)).any (beatP tags n) = (decide (0 ≤ x) && tags.testBit x.toNat) by rw [HNB.out, beatP]; simp [hx, hasM])
                clear hx
                go_wp2_with fail
                refine (refhas_any tags x _ htags).mono ?_
                rintro e w' ⟨rfl, rfl⟩
                obtain ⟨b, hb⟩ : ∃ b, (decide (0 ≤ x) && tags.testBit x.toNat) = b := ⟨_, rfl⟩
                rw [hb] at HV ⊢
                clear hb
                go_wp2_with fail
                go_round
                case rel => exact ⟨i + 1, by omega, by go_num, by rw [HV.out]⟩
                case measure => simp [intOf]; omega

set_option maxRecDepth 100000 in
set_option maxHeartbeats 4000000 in
theorem refpick_any (D : Dfa) (v : Value) (s : ByteArray) (at_ : Int) (may : Nat) (ps : List (Int × Int)) (a : Option Addr) (len cap : Nat) (w : World) (h : DfaIn w v D) (ht : ∀ t ∈ D.tags, t < 18446744073709551616) (hmay : may < 18446744073709551616) (hs : s.size < 4611686018427387904) (hat : at_ ≤ 9223372036854775807) (hp : PairsIn w a len ps) :
    Calls Tryz.prog 25 #[v, .string s, .int .i64 at_, .int .u64 may, .slice a len cap] w fun e w' => e = .returned (.tuple #[.int .i64 (pickM D (bytesN s) at_ may ps).1, .int .i64 (pickM D (bytesN s) at_ may ps).2]) ∧ Fr none_ w w' := by
  obtain ⟨C, rfl, hz, hone⟩ := h.cells
  have HD := Lib.hid h
  have HTB := Lib.hid ht
  have HP := Lib.hid hp
  have B0 := Lib.hid (alloc_new w (.cells C.toArray 38))
  have F0 := Lib.hid ((Fr.refl none_ w).alloc (.cells C.toArray 38))
  obtain ⟨P, hP⟩ : ∃ P, longM D (bytesN s) at_ may = P := ⟨_, rfl⟩
  have hPl : P.1 < 18446744073709551616 := by rw [← hP]; exact longM_lt _ _ _ _ hmay
  have HPE := Lib.hid hP
  have HPK := Lib.hid (show pickM D (bytesN s) at_ may ps = pickOf P ps by rw [pickM, hP])
  obtain ⟨W, hW⟩ : ∃ W, winM P.1 ps = W := ⟨_, rfl⟩
  have hWl : W < 18446744073709551616 := by rw [← hW]; exact winM_lt _ _
  have HW := Lib.hid hW
  clear h ht hp hP hW hone
  go_enter Tryz.func25, Tryz.ntmps25
  go_wp2_with (refine wpList_load_row rfl 38 (.tmp 5) rfl w.heap.size 38 C _ rfl B0.out Tryz.underlying38 rfl (by rw [hz]; exact refD_info) ?_)
  refine (reflong_any D _ s at_ may _ (HD.out.move F0.out) HTB.out hmay hs hat).mono ?_
  rintro e w1 ⟨rfl, F1⟩
  rw [HPE.out]
  have FA := Lib.hid (F0.out.tr F1)
  obtain ⟨m, to⟩ := P
  have N1 := Lib.hid (alloc_new w1 (.cells #[.int .u64 (m : Int), .int .i64 to] 42))
  have FB := Lib.hid (FA.out.alloc (.cells #[.int .u64 (m : Int), .int .i64 to] 42))
  have c0 : (w1.alloc (.cells #[.int .u64 (m : Int), .int .i64 to] 42)).cell? ⟨w1.heap.size, 0, none⟩ = some (.int .u64 (m : Int)) := cell_of_block N1.out rfl
  clear F1 B0 F0 FA HPE
  go_wp2_with fail
  refine (refwin_any m ps a len cap _ hPl (HP.out.move FB.out)).mono ?_
  rintro e w2 ⟨rfl, F2⟩
  rw [show winM m ps = W from HW.out]
  have N2 := Lib.hid (F2.at_ N1.out (fun h => h))
  have FC := Lib.hid (FB.out.tr F2)
  obtain ⟨b, hb⟩ : ∃ b, w1.heap.size = b := ⟨_, rfl⟩
  rw [hb] at N2 ⊢
  clear F2 N1 FB c0 hb
  go_wp2_with fail
  refine (reflist_any W _ hWl).mono ?_
  rintro e w3 ⟨lv, rfl, hown, F3⟩
  have N3 := Lib.hid (F3.at_ N2.out (fun h => h))
  have FD := Lib.hid (FC.out.tr F3)
  have HL1 := Lib.hid (show (bitsL W).length = 1 → bitsL W = [Lib.ctz 64 W] from fun h1 => by
    have hW0 : W ≠ 0 := by rintro rfl; simp [bitsL_zero] at h1
    have h2 := bitsL_step W hWl hW0
    rw [h2] at h1 ⊢
    rw [List.eq_nil_of_length_eq_zero (show (bitsL (W &&& (W - 1))).length = 0 by simpa using h1)])
  obtain ⟨K, hK⟩ : ∃ K, bitsL W = K := ⟨_, rfl⟩
  have HK := Lib.hid hK
  rw [hK] at hown HL1
  obtain ⟨n, hn⟩ : ∃ n, K.length = n := ⟨_, rfl⟩
  have HN := Lib.hid hn
  rw [hn] at hown HL1
  obtain ⟨la, lcap, rfl, _⟩ := ownsRow_slice hown
  have HOW := Lib.hid hown
  have c1 : w3.cell? ⟨b, 1, none⟩ = some (.int .i64 to) := cell_of_block N3.out rfl
  clear hK hn hown F3 N2 FC
  by_cases h1 : n = 1
  case pos =>
    have hKL := HL1.out h1
    have HR := Lib.hid (show pickOf (m, to) ps = (((Lib.ctz 64 W : Nat) : Int), to) by
      unfold pickOf
      rw [show winM (m, to).1 ps = W from HW.out, if_pos (by rw [HK.out, HN.out, h1])])
    subst h1
    have hO := HOW.out
    rw [hKL] at hO
    obtain ⟨lg, rfl, c2⟩ := row_at0 hO (i := 0) (x := .int .i64 ((Lib.ctz 64 W : Nat) : Int)) rfl
    clear hO hKL
    go_wp2_with fail
    go_quiet (fail)
    go_wp2_with fail
    refine bodyPost_ret (results_two rfl _ _) rfl ?_
    exact ⟨by rw [HPK.out, HR.out]; rfl, FD.out.drewN _⟩
  case neg =>
    have HR := Lib.hid (show pickOf (m, to) ps = (-1, to) by
      unfold pickOf
      rw [show winM (m, to).1 ps = W from HW.out, if_neg (by rw [HK.out, HN.out]; exact h1)])
    have hcI : ((n : Int) == 1) = false := by simp; omega
    clear h1
    go_wp2_with fail
    go_quiet (fail)
    go_wp2_with fail
    refine bodyPost_ret (results_two rfl _ _) rfl ?_
    exact ⟨by rw [HPK.out, HR.out]; rfl, FD.out.drewN _⟩
end Go.Proofs.YtnenbihmokolpaaGreatDoor

namespace Go.Proofs.YtnenbihmokolpaaGreatDoor
open Go.RowKit

theorem bitM_pow {n : Nat} (h : n < 64) : bitM (n : Int) = 2 ^ n := by
  apply Nat.eq_of_testBit_eq
  intro t
  rw [Bool.eq_iff_iff, testBit_bitM, decide_eq_true_iff, Nat.testBit_two_pow, decide_eq_true_iff]
  omega
theorem CutAt.stop {D : Dfa} {bs : List Nat} {may : Nat} {ps : List (Int × Int)} {pre : List (Nat × Int)} {at_ : Int} (h : CutAt D bs may ps pre at_) (hn : ¬ 0 ≤ (pickM D bs at_ may ps).1) : allM D bs may ps = pre ∧ endM (allM D bs may ps) = at_ := by
  obtain ⟨h1, h2, h3, f, hf, h4⟩ := h
  obtain ⟨f', rfl⟩ : ∃ f', f = f' + 1 := ⟨f - 1, by omega⟩
  rw [allFrom, if_neg hn, List.append_nil] at h4
  exact ⟨h4, by rw [h4]; exact h3⟩
theorem CutAt.go_on {D : Dfa} {bs : List Nat} {may : Nat} {ps : List (Int × Int)} {pre : List (Nat × Int)} {at_ : Int} (h : CutAt D bs may ps pre at_) (hn : 0 ≤ (pickM D bs at_ may ps).1) :
    at_ < (pickM D bs at_ may ps).2 ∧ (pickM D bs at_ may ps).1 < 64 ∧ CutAt D bs may ps (pre ++ [(bitM (pickM D bs at_ may ps).1, (pickM D bs at_ may ps).2)]) (pickM D bs at_ may ps).2 := by
  obtain ⟨h1, h2, h3, f, hf, h4⟩ := h
  obtain ⟨f', rfl⟩ : ∃ f', f = f' + 1 := ⟨f - 1, by omega⟩
  rw [allFrom, if_pos hn] at h4
  obtain ⟨q1, q2, q3, q4⟩ := pick_pos hn
  exact ⟨q2, q4, by omega, q3, by rw [endM_snoc], f', by omega, by rw [h4, List.append_assoc]; rfl⟩
theorem rpiece_info3 : (Tryz.prog.info? 42).map (fun i => (i.zero, i.size, i.bytes)) = some (some (.agg #[.int .u64 0, .int .i64 0]), 2, 16) := by kernel_rfl

set_option maxRecDepth 100000 in
set_option maxHeartbeats 4000000 in
theorem refall_any (D : Dfa) (v : Value) (s : ByteArray) (may : Nat) (ps : List (Int × Int)) (a : Option Addr) (len cap : Nat) (w : World) (h : DfaIn w v D) (ht : ∀ t ∈ D.tags, t < 18446744073709551616) (hmay : may < 18446744073709551616) (hs : s.size ≤ 1000000) (hp : PairsIn w a len ps) :
    Calls Tryz.prog 8 #[v, .string s, .int .u64 may, .slice a len cap] w fun e w' => ∃ u base, e = .returned (.tuple #[u, .int .i64 (endM (allM D (bytesN s) may ps))]) ∧ w'.ownsRow base 42 2 u (allM D (bytesN s) may ps).length (piecesV (allM D (bytesN s) may ps)) ∧ Fr none_ w w' := by
  obtain ⟨C, rfl, hz, hone⟩ := h.cells
  have HD := Lib.hid h
  have HTB := Lib.hid ht
  have HP := Lib.hid hp
  have B0 := Lib.hid (alloc_new w (.cells C.toArray 38))
  have F0 := Lib.hid ((Fr.refl none_ w).alloc (.cells C.toArray 38))
  have hbs : (bytesN s).length = s.size := bytesN_length s
  have HSTOP := Lib.hid (fun (pre : List (Nat × Int)) (at_ : Int) (h : CutAt D (bytesN s) may ps pre at_) => h.stop)
  have HGO := Lib.hid (fun (pre : List (Nat × Int)) (at_ : Int) (h : CutAt D (bytesN s) may ps pre at_) => h.go_on)
  have HBND := Lib.hid (fun (pre : List (Nat × Int)) (at_ : Int) (h : CutAt D (bytesN s) may ps pre at_) => (show 0 ≤ at_ ∧ at_ ≤ s.size from ⟨h.1, by have := h.2.1; rw [hbs] at this; exact this⟩))
  have hstart := CutAt.start D (bytesN s) may ps
  obtain ⟨Z, hZ⟩ : ∃ Z, CutAt D (bytesN s) may ps = Z := ⟨_, rfl⟩
  rw [hZ] at HSTOP HGO HBND hstart
  have HSTART := Lib.hid hstart
  obtain ⟨L, hL⟩ : ∃ L, allM D (bytesN s) may ps = L := ⟨_, rfl⟩
  rw [hL] at HSTOP ⊢
  obtain ⟨j0, hj, hy0, hy1, hy2⟩ := info_parts rpiece_info3
  obtain ⟨B, hB⟩ : ∃ B, (w.alloc (.cells C.toArray 38)).heap.size = B := ⟨_, rfl⟩
  have HB := Lib.hid hB
  clear h ht hp hone hZ hL hstart hB
  go_enter Tryz.func8, Tryz.ntmps8
  go_wp2_with fail
  go_loopw [10, 11] (fun x10 x11 wr => ∃ (pre : List (Nat × Int)) (at_ : Int), x11 = .int .i64 at_ ∧ pre.length ≤ at_.toNat ∧ Aside (Z pre at_) ∧ Aside (wr.ownsRow B 42 2 x10 pre.length (piecesV pre)) ∧ Aside (Fr none_ (w.alloc (.cells C.toArray 38)) wr)) (fun _ x11 _ => s.size + 1 - (intOf x11).toNat)
  case atStart => exact ⟨[], 0, rfl, Nat.zero_le _, HSTART.out, World.ownsRow_nil _ _ _ _, Fr.refl _ _⟩
  case round =>
    obtain ⟨pre, at_, rfl, hpl, h1', h2', h3'⟩ := hrel
    have HZ := Lib.hid h1'.out
    have HO := Lib.hid h2'.out
    have HF := Lib.hid h3'.out
    clear h1' h2' h3' HSTART
    obtain ⟨q3, q4⟩ := HBND.out _ _ HZ.out
    have FA := Lib.hid (F0.out.tr HF.out)
    have B1 := Lib.hid (HF.out.at_ B0.out (fun h => h))
    have hS := HSTOP.out _ _ HZ.out
    have hG := HGO.out _ _ HZ.out
    obtain ⟨⟨n, to⟩, hP⟩ : ∃ P, pickM D (bytesN s) at_ may ps = P := ⟨_, rfl⟩
    rw [hP] at hS hG
    have HPE := Lib.hid hP
    have HS := Lib.hid (show n < 0 → L = pre ∧ endM L = at_ from fun h => hS (by first | exact h | (intro h2; have h2 : 0 ≤ n := h2; omega)))
    have HG := Lib.hid (show 0 ≤ n → at_ < to ∧ n < 64 ∧ Z (pre ++ [(bitM n, to)]) to from hG)
    clear hP hS hG
    go_wp2_with (refine wpList_load_row rfl 38 (.tmp 4) rfl w.heap.size 38 C _ rfl B1.out Tryz.underlying38 rfl ?_ ?_; (rw [hz]; exact refD_info))
    refine (refpick_any D _ s at_ may ps a len cap _ (HD.out.move FA.out) HTB.out hmay (by omega) (by omega) (HP.out.move FA.out)).mono ?_
    rintro e w2 ⟨rfl, F1⟩
    rw [HPE.out]
    have HF2 := Lib.hid (HF.out.tr F1)
    have FB := Lib.hid (FA.out.tr F1)
    have HO2 := Lib.hid (row_keep HO.out F1 (fun _ _ h => h))
    clear F1 HO
    by_cases hn : 0 ≤ n
    case neg =>
      have hnI : n < 0 := by omega
      obtain ⟨e1, e2⟩ := HS.out hnI
      subst e1
      subst e2
      go_wp2_with fail
      refine bodyPost_ret (results_two rfl _ _) rfl ?_
      exact ⟨_, B, rfl, HO2.out, FB.out⟩
    case pos =>
      obtain ⟨r1, r2, r3⟩ := HG.out hn
      have HZ2 := Lib.hid r3
      obtain ⟨q5, q6⟩ := HBND.out _ _ r3
      have hnI : ¬ n < 0 := by omega
      obtain ⟨m, rfl⟩ := Int.eq_ofNat_of_zero_le hn
      obtain ⟨M, hM⟩ : ∃ M, bitM (m : Int) = M := ⟨_, rfl⟩
      have HM := Lib.hid (show 2 ^ m = M by rw [← bitM_pow (by omega), hM])
      have hMl : M < 18446744073709551616 := by rw [← hM]; exact bitM_lt _
      rw [hM] at HZ2
      have hwB : B ≤ w2.heap.size := by rw [← HB.out]; exact HF2.out.size
      obtain ⟨K, hK⟩ : ∃ K, pre.length = K := ⟨_, rfl⟩
      rw [hK] at HO2 hpl
      have HK := Lib.hid hK
      clear r3 hM hn hK
      go_wp2_with fail
      refine (refbit_any m _ (by omega)).mono ?_
      rintro e w' ⟨rfl, rfl⟩
      rw [HM.out]
      go_wp2_with (at_builtin; refine wpList_append_lies _ rfl (.tmp 27) (.tmp 32) 35 rfl B 42 j0 _ 2 16 Tryz.underlying35 hj hy0 hy1 hy2 rfl (by decide) _ K (piecesV pre) rfl (HO2.out.alloc _) ⟨w2.heap.size, 0, none⟩ 1 1 [.int .u64 (M : Int), .int .i64 to] rfl rfl (getElem_block (alloc_new _ _)) (by simp [Value.oneCell']) (by decide) (by unfold maxLen; omega) (by omega) (by simp; omega) (w2.heap.size + 1) (by simp) ?_)
      intro g6 cap6 y4 hown hgrow hat hlt
      have F4 := Lib.hid ((HF2.out.alloc (.cells #[.int .u64 (M : Int), .int .i64 to] 42)).grown hgrow (fun k hk => .inr (by rw [HB.out]; exact (HO2.out.lt k hk).1)))
      have HO5 := Lib.hid hown
      clear hown hgrow hat hlt
      go_wp2_with fail
      go_roundw
      case rel => exact ⟨pre ++ [(M, to)], to, rfl, by rw [List.length_append, HK.out]; simp; omega, HZ2.out, by rw [List.length_append, HK.out, piecesV_snoc]; exact HO5.out, F4.out⟩
      case measure => simp [intOf]; omega

set_option maxRecDepth 100000 in
set_option maxHeartbeats 4000000 in
theorem munchall_big (D : Dfa) (v : Value) (s : ByteArray) (may : Nat) (a : Option Addr) (len cap : Nat) (w : World) (hD : DfaIn w v D) (htl : D.tags.length ≤ 9223372036854775807) (hl : (littleM D && decide (s.size ≤ 40) && decide (len ≤ 40)) = false) (hp : PowOk w) (hT : TabOk w) :
    Calls Tryz.prog 3 #[v, .string s, .int .u64 (may : Int), .slice a len cap] w fun e w' => e = .returned (.bool true) ∧ Fr none_ w w' := by
  have HL := Lib.hid hl
  clear hl
  obtain ⟨C, rfl, hz, hone⟩ := hD.cells
  have HD0 := Lib.hid hD
  have HP := Lib.hid hp
  have HT := Lib.hid hT
  have B0 := Lib.hid (alloc_new w (.cells C.toArray 26))
  have F0 := Lib.hid ((Fr.refl none_ w).alloc (.cells C.toArray 26))
  clear hD hp hT hone
  go_enter Tryz.func3, Tryz.ntmps3
  go_wp2_with fail
  refine (works7_any _ (HP.out.move F0.out) (HT.out.move F0.out)).mono ?_
  rintro e w1 ⟨rfl, F1⟩
  have B1 := Lib.hid (F1.at_ B0.out (fun h => h))
  have FA := Lib.hid (F0.out.tr F1)
  clear F1 B0 F0
  go_wp2_with (refine wpList_load_row rfl 26 (.tmp 4) rfl w.heap.size 26 C _ rfl B1.out Tryz.underlying26 rfl ?_ ?_; (rw [hz]; exact dfa_info))
  refine (few_any D _ s a len cap _ (HD0.out.move FA.out) htl).mono ?_
  rintro e w2 ⟨rfl, F1⟩
  have FB := Lib.hid (FA.out.tr F1)
  clear F1 B1 FA
  rw [HL.out]
  go_wp2_with fail
  go_ret
  exact ⟨rfl, FB.out⟩

set_option maxRecDepth 100000 in
set_option maxHeartbeats 8000000 in
theorem munchall_good (D : Dfa) (v : Value) (s : ByteArray) (may : Nat) (ps : List (Int × Int)) (a : Option Addr) (len cap : Nat) (w : World) (hD : DfaIn w v D) (htl : D.tags.length ≤ 9223372036854775807) (htg : ∀ t ∈ D.tags, t < 18446744073709551616) (hmay : may < 18446744073709551616) (hl : (littleM D && decide (s.size ≤ 40) && decide (len ≤ 40)) = true) (h40 : s.size ≤ 40) (hps : PairsIn w a len ps) (hp : PowOk w) (hT : TabOk w) :
    Calls Tryz.prog 3 #[v, .string s, .int .u64 (may : Int), .slice a len cap] w fun e w' => e = .returned (.bool true) ∧ Fr none_ w w' := by
  have HL := Lib.hid hl
  have HTG := Lib.hid htg
  have HPS := Lib.hid hps
  clear hl htg hps
  obtain ⟨C, rfl, hz, hone⟩ := hD.cells
  have HD0 := Lib.hid hD
  have HP := Lib.hid hp
  have HT := Lib.hid hT
  have B0 := Lib.hid (alloc_new w (.cells C.toArray 26))
  have F0 := Lib.hid ((Fr.refl none_ w).alloc (.cells C.toArray 26))
  clear hD hp hT hone
  go_enter Tryz.func3, Tryz.ntmps3
  go_wp2_with fail
  refine (works7_any _ (HP.out.move F0.out) (HT.out.move F0.out)).mono ?_
  rintro e w1 ⟨rfl, F1⟩
  have B1 := Lib.hid (F1.at_ B0.out (fun h => h))
  have FA := Lib.hid (F0.out.tr F1)
  clear F1 B0 F0
  go_wp2_with (refine wpList_load_row rfl 26 (.tmp 4) rfl w.heap.size 26 C _ rfl B1.out Tryz.underlying26 rfl ?_ ?_; (rw [hz]; exact dfa_info))
  refine (few_any D _ s a len cap _ (HD0.out.move FA.out) htl).mono ?_
  rintro e w2 ⟨rfl, F1⟩
  have B2 := Lib.hid (F1.at_ B1.out (fun h => h))
  have FB := Lib.hid (FA.out.tr F1)
  clear F1 B1 FA
  rw [HL.out]
  go_wp2_with (refine wpList_load_row rfl 26 (.tmp 4) rfl w.heap.size 26 C _ rfl B2.out Tryz.underlying26 rfl ?_ ?_; (rw [hz]; exact dfa_info))
  refine (all_any D _ s may ps a len cap _ (HD0.out.move FB.out) HTG.out hmay (by omega) (HPS.out.move FB.out) (HT.out.move FB.out)).mono ?_
  rintro e w3 ⟨u, base, rfl, hown, _, F1⟩
  have B3 := Lib.hid (F1.at_ B2.out (fun h => h))
  have FC := Lib.hid (FB.out.tr F1)
  clear F1 B2 FB
  go_wp2_with (refine wpList_load_row rfl 26 (.tmp 4) rfl w.heap.size 26 C _ rfl B3.out Tryz.underlying26 rfl ?_ ?_; (rw [hz]; exact dfa_info))
  refine (ofref_any D _ _ (HD0.out.move FC.out)).mono ?_
  rintro e w4 ⟨rfl, F1⟩
  have FD := Lib.hid (FC.out.tr F1)
  replace hown := row_keep hown F1 (fun _ _ h => h)
  clear F1 FC B3
  go_wp2_with fail
  refine (refall_any D _ s may ps a len cap _ (HD0.out.move FD.out) HTG.out hmay (by omega) (HPS.out.move FD.out)).mono ?_
  rintro e w5 ⟨u2, base2, rfl, hown2, F1⟩
  have FE := Lib.hid (FD.out.tr F1)
  replace hown := row_keep hown F1 (fun _ _ h => h)
  clear F1 FD
  obtain ⟨L, hL⟩ : ∃ L, allM D (bytesN s) may ps = L := ⟨_, rfl⟩
  rw [hL] at hown hown2 ⊢
  obtain ⟨E, hE⟩ : ∃ E, endM L = E := ⟨_, rfl⟩
  rw [hE]
  obtain ⟨N, hN⟩ : ∃ N, L.length = N := ⟨_, rfl⟩
  rw [hN] at hown hown2
  have HN := Lib.hid hN
  obtain ⟨la, lcap, rfl, hlc⟩ := ownsRow_slice hown
  obtain ⟨lb, mcap, rfl, _⟩ := ownsRow_slice hown2
  have HOW := Lib.hid hown
  have HOX := Lib.hid hown2
  have hNb : N ≤ 9223372036854775807 := by
    rcases hown.2 with ⟨_, h0⟩ | ⟨gl, cap', cur, hsl, _, _, hcp1, hcp2, _⟩
    · omega
    · have e : maxLen = 9223372036854775807 := rfl
      omega
  clear hown hown2 hL hE hN hlc
  have g2 : ((N : Int) != (N : Int)) = false := by simp
  have g3 : (E != E) = false := by simp
  go_wp2_with fail
  go_loopw [15] (fun x15 wr => ∃ i : Nat, i ≤ N ∧ x15 = .int .i64 i ∧ Aside (Fr none_ w5 wr)) (fun x15 _ => N - (intOf x15).toNat)
  case atStart => exact ⟨0, Nat.zero_le _, rfl, Fr.refl _ _⟩
  case round =>
    obtain ⟨i, hi', rfl, h2'⟩ := hrel
    have HF := Lib.hid h2'.out
    clear h2'
    have hi0 : (0 : Int) ≤ (i : Int) := by omega
    by_cases hlt : i < N
    case neg =>
      have hil : ¬ (i : Int) < (N : Int) := by omega
      go_wp2_with fail
      go_ret
      exact ⟨rfl, FE.out.tr HF.out⟩
    case pos =>
      have hil : (i : Int) < (N : Int) := by omega
      obtain ⟨x, hx⟩ : ∃ x, L[i]? = some x := ⟨_, List.getElem?_eq_getElem (by rw [HN.out]; exact hlt)⟩
      obtain ⟨p1, p2⟩ := piecesV_get L i x hx
      rcases HOW.out.2 with ⟨_, h0⟩ | ⟨gl, cap', cur, hsl, _⟩
      · omega
      rcases HOX.out.2 with ⟨_, h0⟩ | ⟨gm, cap2, cur2, hsl2, _⟩
      · omega
      injection hsl with hsl hs2 hs3
      injection hsl2 with hsl2 hs4 hs5
      subst hsl hs3 hsl2 hs5
      clear hs2 hs4
      have c1 := (row_keep HOW.out HF.out (fun _ _ h => h)).cells rfl _ _ p1
      have c2 := (row_keep HOW.out HF.out (fun _ _ h => h)).cells rfl _ _ p2
      have c3 := (row_keep HOX.out HF.out (fun _ _ h => h)).cells rfl _ _ p1
      have c4 := (row_keep HOX.out HF.out (fun _ _ h => h)).cells rfl _ _ p2
      obtain ⟨M, to⟩ := x
      rw [Addr.add_mid, Nat.zero_add] at c1 c2 c3 c4
      have g1 : ((M : Int) != (M : Int)) = false := by simp
      have g4 : (to != to) = false := by simp
      clear hx p1 p2
      go_wp2_with fail
      go_quiet (fail)
      go_wp2_with fail
      go_roundw
      case rel => exact ⟨i + 1, by omega, by go_num, HF.out.drewN _⟩
      case measure => simp [intOf]; omega

theorem munchall_any (v : Value) (D : Dfa) (s : ByteArray) (may : Int) (a : Option Addr) (len cap : Nat) (ps : List (Int × Int)) (w : World) (h : DfaIn w v D ∧ (∀ t ∈ D.tags, t < 18446744073709551616) ∧ (∀ r ∈ D.next, ∀ z ∈ r, intDom z) ∧ D.tags.length ≤ 9223372036854775807) (hs : s.size ≤ 140737488351232) (h3 : 0 ≤ may ∧ may ≤ 18446744073709551615) (hps : PairsAt w a len ps ∧ len ≤ 9223372036854775807) (hT : TabOk w) (hp : PowOk w) :
    Calls Tryz.prog 3 #[v, .string s, .int .u64 may, .slice a len cap] w fun e w' => e = .returned (.bool true) ∧ Below w.heap.size w w' := by
  obtain ⟨hD, htg, _, htl⟩ := h
  obtain ⟨m, rfl⟩ := Int.eq_ofNat_of_zero_le h3.1
  have key : Calls Tryz.prog 3 #[v, .string s, .int .u64 (m : Int), .slice a len cap] w fun e w' => e = .returned (.bool true) ∧ Fr none_ w w' := by
    cases hl : (littleM D && decide (s.size ≤ 40) && decide (len ≤ 40)) with
    | false => exact munchall_big D v s m a len cap w hD htl hl hp hT
    | true =>
      have h1 := hl
      simp only [Bool.and_eq_true, decide_eq_true_eq] at h1
      exact munchall_good D v s m ps a len cap w hD htl htg (by omega) hl (by omega) (hps.1.few (by omega)) hp hT
  exact key.mono fun e w' h => ⟨h.1, h.2.below⟩
end Go.Proofs.YtnenbihmokolpaaGreatDoor
