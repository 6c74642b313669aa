/-
  An automaton in memory; Go.
-/
import Derived.Test.YtglflmkkecephaaDoorKc
import Derived.Test.YtglflmkkecephaaDoorNp
namespace Go.Proofs.YtglflmkkecephaaDoor
open Go.RowKit

/-- A row of numbers that lies in memory (it may be a part of a greater row). -/
def NumsIn (w : World) (v : Value) (l : List Int) : Prop := ∃ a cap, v = .slice a l.length cap ∧ ∀ j z, l[j]? = some z → ∃ ad, a = some ad ∧ w.cell? (ad.add j) = some (.int .i64 z)
/-- A row of rows. -/
def RowsIn (w : World) (v : Value) (l : List (List Int)) : Prop := ∃ a cap, v = .slice a l.length cap ∧ ∀ j r, l[j]? = some r → ∃ ad rv, a = some ad ∧ w.cell? (ad.add j) = some rv ∧ NumsIn w rv r
def SetsIn (w : World) (v : Value) (l : List Nat) : Prop := ∃ a cap, v = .slice a l.length cap ∧ ∀ (j : Nat) (z : Nat), l[j]? = some z → ∃ ad, a = some ad ∧ w.cell? (ad.add j) = some (.int .u64 (z : Int))
/-- An automaton, as a value. -/
def dfaC (cls : List Int) (nv tv : Value) : List Value := intsV cls ++ [nv, tv]
structure DfaIn (w : World) (v : Value) (D : Dfa) : Prop where
  ex : ∃ nv tv, v = .agg (dfaC D.cls nv tv).toArray ∧ RowsIn w nv D.next ∧ SetsIn w tv D.tags
  len : D.cls.length = 256
  small : D.next.length ≤ 9223372036854775807 ∧ ∀ r ∈ D.next, r.length ≤ 9223372036854775807
theorem cell_move {w w' : World} (hf : Fr none_ w w') {ad : Addr} {v : Value} (h : w.cell? ad = some v) : w'.cell? ad = some v := by
  exact hf.cell h (fun h => h)
theorem NumsIn.move {w w' : World} {v : Value} {l : List Int} (h : NumsIn w v l) (hf : Fr none_ w w') : NumsIn w' v l := by
  obtain ⟨a, cap, rfl, h⟩ := h
  refine ⟨a, cap, rfl, fun j z hz => ?_⟩
  obtain ⟨ad, ha, hc⟩ := h j z hz
  exact ⟨ad, ha, cell_move hf hc⟩
theorem RowsIn.move {w w' : World} {v : Value} {l : List (List Int)} (h : RowsIn w v l) (hf : Fr none_ w w') : RowsIn w' v l := by
  obtain ⟨a, cap, rfl, h⟩ := h
  refine ⟨a, cap, rfl, fun j z hz => ?_⟩
  obtain ⟨ad, rv, ha, hc, hr⟩ := h j z hz
  exact ⟨ad, rv, ha, cell_move hf hc, hr.move hf⟩
theorem SetsIn.move {w w' : World} {v : Value} {l : List Nat} (h : SetsIn w v l) (hf : Fr none_ w w') : SetsIn w' v l := by
  obtain ⟨a, cap, rfl, h⟩ := h
  refine ⟨a, cap, rfl, fun j z hz => ?_⟩
  obtain ⟨ad, ha, hc⟩ := h j z hz
  exact ⟨ad, ha, cell_move hf hc⟩
theorem DfaIn.move {w w' : World} {v : Value} {D : Dfa} (h : DfaIn w v D) (hf : Fr none_ w w') : DfaIn w' v D := by
  obtain ⟨nv, tv, e, h1, h2⟩ := h.ex
  exact ⟨⟨nv, tv, e, h1.move hf, h2.move hf⟩, h.len, h.small⟩
theorem dfaC_at {cls : List Int} (hl : cls.length = 256) (nv tv : Value) : (dfaC cls nv tv)[256]? = some nv ∧ (dfaC cls nv tv)[257]? = some tv := by
  have : (intsV cls).length = 256 := by rw [intsV_length, hl]
  constructor
  · rw [dfaC, List.getElem?_append_right (by omega), this]; rfl
  · rw [dfaC, List.getElem?_append_right (by omega), this]; rfl
theorem dfaC_cls {cls : List Int} (hl : cls.length = 256) (nv tv : Value) {b : Nat} (hb : b < 256) : (dfaC cls nv tv)[b]? = some (.int .i64 (cls.getD b 0)) := by
  have : (intsV cls).length = 256 := by rw [intsV_length, hl]
  rw [dfaC, List.getElem?_append_left (by omega)]
  have hb2 : b < cls.length := by omega
  simp [intsV, List.getD, List.getElem?_eq_getElem hb2]

set_option maxRecDepth 100000 in
set_option maxHeartbeats 4000000 in
theorem dgo_any (D : Dfa) (v : Value) (at_ : Int) (b : Nat) (w : World) (h : DfaIn w v D) (hb : b < 256) :
    Calls Tryd.prog 13 #[v, .int .i64 at_, .int .u8 b] w fun e w' => e = .returned (.int .i64 (goM D at_ b)) ∧ Fr none_ w w' := by
  obtain ⟨nv, tv, rfl, hn, ht⟩ := h.ex
  obtain ⟨na, ncap, rfl, hrow⟩ := hn
  have HL := h.len
  obtain ⟨h256, h257⟩ := dfaC_at HL (.slice na D.next.length ncap) tv
  have hcb := dfaC_cls HL (.slice na D.next.length ncap) tv hb
  obtain ⟨C, hC⟩ : ∃ C, dfaC D.cls (.slice na D.next.length ncap) tv = C := ⟨_, rfl⟩
  rw [hC] at h256 h257 hcb ⊢
  obtain ⟨c, hc⟩ : ∃ c, D.cls.getD b 0 = c := ⟨_, rfl⟩
  rw [hc] at hcb
  have hbi : (b : Int) < 256 := by omega
  have hG : goM D at_ b = if at_ < 0 ∨ (D.next.length : Int) ≤ at_ ∨ c < 0 ∨ ((D.next.getD at_.toNat []).length : Int) ≤ c then -1 else
      if (D.next.getD at_.toNat []).getD c.toNat 0 < 0 ∨ (D.next.length : Int) ≤ (D.next.getD at_.toNat []).getD c.toNat 0 then -1 else (D.next.getD at_.toNat []).getD c.toNat 0 := by
    unfold goM; rw [hc]
  have HG := Lib.hid hG
  have HR := Lib.hid hrow
  clear hG hrow hC hc ht h
  have NB := alloc_new w (.cells C.toArray 29)
  have f1 : (w.alloc (.cells C.toArray 29)).cell? ⟨w.heap.size, b, none⟩ = some (.int .i64 c) := by
    rw [Lib.cell_of_heap NB]; simpa using hcb
  have f2 : (w.alloc (.cells C.toArray 29)).cell? ⟨w.heap.size, 256, none⟩ = some (.slice na D.next.length ncap) := by
    rw [Lib.cell_of_heap NB]; simpa using h256
  have HF := Lib.hid ((Fr.refl none_ w).alloc (.cells C.toArray 29))
  clear NB hcb h256 h257
  obtain ⟨N, hN⟩ : ∃ N, D.next.length = N := ⟨_, rfl⟩
  have HN := Lib.hid hN
  rw [hN] at HG f2
  clear hN
  by_cases h1 : at_ < 0
  · have HV := Lib.hid (show goM D at_ b = -1 by rw [HG.out, if_pos (.inl h1)])
    go_enter Tryd.func13, Tryd.ntmps13
    go_wp2_with fail
    go_ret
    exact ⟨by rw [HV.out]; rfl, HF.out⟩
  obtain ⟨i, rfl⟩ := Int.eq_ofNat_of_zero_le (show 0 ≤ at_ by omega)
  have hi0 : (0 : Int) ≤ (i : Int) := by omega
  by_cases h2 : N ≤ i
  · have HV := Lib.hid (show goM D i b = -1 by rw [HG.out, if_pos (.inr (.inl (by omega)))])
    have h2' : (N : Int) ≤ (i : Int) := by omega
    clear h1
    go_enter Tryd.func13, Tryd.ntmps13
    go_wp2_with fail
    go_ret
    exact ⟨by rw [HV.out]; rfl, HF.out⟩
  have h2' : (i : Int) < (N : Int) := by omega
  by_cases h3 : c < 0
  · have HV := Lib.hid (show goM D i b = -1 by rw [HG.out, if_pos (.inr (.inr (.inl h3)))])
    clear h1 h2
    go_enter Tryd.func13, Tryd.ntmps13
    go_wp2_with fail
    go_ret
    exact ⟨by rw [HV.out]; rfl, HF.out⟩
  obtain ⟨k, rfl⟩ := Int.eq_ofNat_of_zero_le (show 0 ≤ c by omega)
  have hk0 : (0 : Int) ≤ (k : Int) := by omega
  obtain ⟨row, hrow⟩ : ∃ row, D.next[i]? = some row := ⟨_, List.getElem?_eq_getElem (by rw [HN.out]; omega)⟩
  have hget : D.next.getD i [] = row := by simp [List.getD, hrow]
  obtain ⟨ad, rv, rfl, hcell, ra, rcap, rfl, hr⟩ := HR.out i row hrow
  have f3 := cell_move HF.out hcell
  have hG2 := HG.out
  simp only [Int.toNat_natCast, hget] at hG2
  obtain ⟨M, hM⟩ : ∃ M, row.length = M := ⟨_, rfl⟩
  have HM := Lib.hid hM
  rw [hM] at hG2 f3
  have HG2 := Lib.hid hG2
  have HR2 := Lib.hid hr
  clear h1 h2 h3 hget hcell hG2 hr hM
  by_cases h4 : M ≤ k
  · have HV := Lib.hid (show goM D i b = -1 by rw [HG2.out, if_pos (.inr (.inr (.inr (by omega))))])
    have h4' : (M : Int) ≤ (k : Int) := by omega
    go_enter Tryd.func13, Tryd.ntmps13
    go_wp2_with fail
    go_ret
    exact ⟨by rw [HV.out]; rfl, HF.out⟩
  have h4' : (k : Int) < (M : Int) := by omega
  obtain ⟨to, hto⟩ : ∃ to, row[k]? = some to := ⟨_, List.getElem?_eq_getElem (by rw [HM.out]; omega)⟩
  have hget2 : row.getD k 0 = to := by simp [List.getD, hto]
  obtain ⟨rad, rfl, hcell2⟩ := HR2.out k to hto
  have f4 := cell_move HF.out hcell2
  have hG3 := HG2.out
  rw [if_neg (by omega)] at hG3
  rw [hget2] at hG3
  have HG3 := Lib.hid hG3
  clear h4 hcell2 hG3 hget2 hto
  by_cases h5 : to < 0
  · have HV := Lib.hid (show goM D i b = -1 by rw [HG3.out, if_pos (.inl h5)])
    go_enter Tryd.func13, Tryd.ntmps13
    go_wp2_with fail
    go_ret
    exact ⟨by rw [HV.out]; rfl, HF.out⟩
  have h5' : 0 ≤ to := by omega
  by_cases h6 : (N : Int) ≤ to
  · have HV := Lib.hid (show goM D i b = -1 by rw [HG3.out, if_pos (.inr h6)])
    clear h5
    go_enter Tryd.func13, Tryd.ntmps13
    go_wp2_with fail
    go_ret
    exact ⟨by rw [HV.out]; rfl, HF.out⟩
  have HV := Lib.hid (show goM D i b = to by rw [HG3.out, if_neg (by omega)])
  have h6' : to < (N : Int) := by omega
  clear h5 h6
  go_enter Tryd.func13, Tryd.ntmps13
  go_wp2_with fail
  go_ret
  exact ⟨by rw [HV.out]; rfl, HF.out⟩
end Go.Proofs.YtglflmkkecephaaDoor
