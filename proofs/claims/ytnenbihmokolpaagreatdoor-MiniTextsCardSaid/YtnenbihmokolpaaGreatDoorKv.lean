/-
  Valid: whether an automaton may be.
-/
import Derived.Test.YtnenbihmokolpaaGreatDoorKo
namespace Go.Proofs.YtnenbihmokolpaaGreatDoor set_option linter.unusedVariables false set_option linter.unusedSimpArgs false
open Go.RowKit

def rowOkM (n k : Nat) (row : List Int) : Bool := row.all (fun to => decide (-1 ≤ to) && decide (to < (n : Int))) && decide (row.length = k)
def clsOkM (k : Nat) (c : Int) : Bool := decide (0 ≤ c) && decide (c < (k : Int))
def validM (D : Dfa) : Bool := decide (D.next.length ≠ 0) && decide (D.tags.length = D.next.length) && D.next.all (rowOkM D.next.length (D.next.getD 0 []).length) && D.cls.all (clsOkM (D.next.getD 0 []).length)
theorem all_take_false {α : Type} {l : List α} {p : α → Bool} {i : Nat} {x : α} (h : l[i]? = some x) (hx : p x = false) : l.all p = false := by
  rw [List.all_eq_false]
  exact ⟨x, List.mem_of_getElem? h, by simp [hx]⟩
theorem all_take_succ {α : Type} {l : List α} {p : α → Bool} {i : Nat} {x : α} (h : l[i]? = some x) (ht : (l.take i).all p = true) (hx : p x = true) : (l.take (i + 1)).all p = true := by
  rw [List.take_add_one, h, List.all_append, ht]
  simp [hx]

set_option maxRecDepth 100000 in
set_option maxHeartbeats 4000000 in
theorem valid_any (D : Dfa) (v : Value) (w : World) (h : DfaIn w v D) :
    Calls Tryz.prog 58 #[v] w fun e w' => e = .returned (.bool (validM D)) ∧ Fr none_ w w' := by
  obtain ⟨nv, tv, rfl, hn, ht⟩ := h.ex
  obtain ⟨na, ncap, rfl, hrow⟩ := hn
  obtain ⟨ta, tcap, rfl, _⟩ := ht
  have HLn := Lib.hid h.len
  have HSM := Lib.hid h.small
  obtain ⟨h256, h257⟩ := dfaC_at h.len (.slice na D.next.length ncap) (.slice ta D.tags.length tcap)
  have hcl := fun b (hb : b < 256) => dfaC_cls h.len (.slice na D.next.length ncap) (.slice ta D.tags.length tcap) hb
  have HZ := Lib.hid (dfaC_length D.cls (.slice na D.next.length ncap) (.slice ta D.tags.length tcap) h.len)
  have hpre : dfaC D.cls (.slice na D.next.length ncap) (.slice ta D.tags.length tcap) = intsV D.cls ++ [.slice na D.next.length ncap, .slice ta D.tags.length tcap] := rfl
  have hil : (intsV D.cls).length = 256 := by rw [intsV_length, h.len]
  have HCA := Lib.hid (show ∀ b, b < 256 → (intsV D.cls)[b]? = some (.int .i64 (D.cls.getD b 0)) by
    intro b hb
    have := hcl b hb
    rw [hpre, List.getElem?_append_left (by omega)] at this
    exact this)
  obtain ⟨C, hC⟩ : ∃ C, dfaC D.cls (.slice na D.next.length ncap) (.slice ta D.tags.length tcap) = C := ⟨_, rfl⟩
  rw [hC] at h256 h257 HZ hpre ⊢
  obtain ⟨Q, hQ⟩ : ∃ Q, intsV D.cls = Q := ⟨_, rfl⟩
  rw [hQ] at hpre hil HCA
  have NB := alloc_new w (.cells C.toArray 26)
  have HBK := Lib.hid (show (w.alloc (.cells C.toArray 26)).heap[w.heap.size]? = some (.cells (Q ++ [Value.slice na D.next.length ncap, Value.slice ta D.tags.length tcap]).toArray 26 (0, 0)) by rw [← hpre]; exact NB)
  have HRG := Lib.hid (show (w.alloc (.cells C.toArray 26)).rangeAt w.heap.size 0 Q from range_pre (range_of (by rw [← hpre]; exact NB)))
  have f1 : (w.alloc (.cells C.toArray 26)).cell? ⟨w.heap.size, 256, none⟩ = some (.slice na D.next.length ncap) := by rw [Lib.cell_of_heap NB]; simpa using h256
  have f2 : (w.alloc (.cells C.toArray 26)).cell? ⟨w.heap.size, 257, none⟩ = some (.slice ta D.tags.length tcap) := by rw [Lib.cell_of_heap NB]; simpa using h257
  have HF := Lib.hid ((Fr.refl none_ w).alloc (.cells C.toArray 26))
  have HR := Lib.hid hrow
  obtain ⟨N, hN⟩ : ∃ N, D.next.length = N := ⟨_, rfl⟩
  obtain ⟨M, hM⟩ : ∃ M, D.tags.length = M := ⟨_, rfl⟩
  have HN := Lib.hid hN
  have HM := Lib.hid hM
  obtain ⟨K, hK⟩ : ∃ K, (D.next.getD 0 []).length = K := ⟨_, rfl⟩
  have HVd := Lib.hid (show validM D = (decide (N ≠ 0) && decide (M = N) && D.next.all (rowOkM N K) && D.cls.all (clsOkM K)) by rw [validM, hN, hM, hK])
  have HK := Lib.hid hK
  rw [hN] at f1
  rw [hM] at f2
  clear hN hM hK hcl h256 h257 hpre hC hQ NB hrow h
  by_cases g1 : N = 0
  · have HV := Lib.hid (show validM D = false by rw [HVd.out]; simp [g1])
    subst g1
    go_enter Tryz.func58, Tryz.ntmps58
    go_wp2_with fail
    go_ret
    exact ⟨by rw [HV.out]; rfl, HF.out⟩
  have g1' : ((N : Int) == 0) = false := by rw [beq_eq_false_iff_ne]; omega
  by_cases g2 : M = N
  case neg =>
    have HV := Lib.hid (show validM D = false by rw [HVd.out]; simp [g2])
    have g2' : ((M : Int) != (N : Int)) = true := by simp; omega
    go_enter Tryz.func58, Tryz.ntmps58
    go_wp2_with fail
    go_ret
    exact ⟨by rw [HV.out]; rfl, HF.out⟩
  subst g2
  have hMs : M ≤ 9223372036854775807 := by have := HSM.out.1; rw [HN.out] at this; exact this
  obtain ⟨row0, hr0⟩ : ∃ r, D.next[0]? = some r := ⟨_, List.getElem?_eq_getElem (by rw [HN.out]; omega)⟩
  obtain ⟨ad, rv0, rfl, hcell0, ra0, rcap0, rfl, _⟩ := HR.out 0 row0 hr0
  have hk0 : row0.length = K := by rw [← HK.out]; simp [List.getD, hr0]
  rw [hk0] at hcell0
  have e0 : ad.add 0 = ad := by unfold Addr.add; split <;> simp_all
  have f3 := cell_move HF.out hcell0
  rw [e0] at f3
  clear e0
  have hM0 : (0 : Int) < (M : Int) := by omega
  clear hcell0 hk0 hr0
  go_enter Tryz.func58, Tryz.ntmps58
  go_wp2_with fail
  go_loopw [31] (fun x31 wr => ∃ i : Nat, i ≤ M ∧ x31 = .int .i64 i ∧ Aside ((D.next.take i).all (rowOkM M K) = true) ∧ Aside (Fr none_ (w.alloc (.cells C.toArray 26)) wr)) (fun x31 _ => M - (intOf x31).toNat)
  case atStart => exact ⟨0, Nat.zero_le _, rfl, rfl, Fr.refl _ _⟩
  case round =>
    obtain ⟨i, hi', rfl, hall, hfr⟩ := hrel
    have HA := Lib.hid hall.out
    have HFr := Lib.hid hfr.out
    clear hall hfr
    by_cases hlt : i < M
    · have hlt' : (i : Int) < (M : Int) := by omega
      have hi0 : (0 : Int) ≤ (i : Int) := by omega
      obtain ⟨row, hrow⟩ : ∃ r, D.next[i]? = some r := ⟨_, List.getElem?_eq_getElem (by rw [HN.out]; omega)⟩
      obtain ⟨ad2, rv, had, hcell, ra, rcap, rfl, hr⟩ := HR.out i row hrow
      have had2 : ad = ad2 := by simpa using had
      subst had2
      have hcell2 := cell_move (HF.out.tr HFr.out) hcell
      obtain ⟨L, hL⟩ : ∃ L, row.length = L := ⟨_, rfl⟩
      rw [hL] at hcell2
      have HRW := Lib.hid hr
      have HL := Lib.hid hL
      have hLs : L ≤ 9223372036854775807 := by have := HSM.out.2 row (List.mem_of_getElem? hrow); rw [hL] at this; exact this
      have HROW := Lib.hid hrow
      clear had hcell hr hL hrow
      obtain ⟨wb, hwb⟩ : ∃ x, x = wr := ⟨_, rfl⟩
      subst hwb
      go_wp2_with fail
      go_loopw [37] (fun x37 wr2 => ∃ j : Nat, j ≤ L ∧ x37 = .int .i64 j ∧ Aside ((row.take j).all (fun to => decide (-1 ≤ to) && decide (to < (M : Int))) = true) ∧ Aside (Fr none_ wb wr2)) (fun x37 _ => L - (intOf x37).toNat)
      case atStart => exact ⟨0, Nat.zero_le _, rfl, rfl, Fr.refl _ _⟩
      case round =>
        obtain ⟨j, hj', rfl, hall2, hfr2⟩ := hrel
        have HA2 := Lib.hid hall2.out
        have HFr2 := Lib.hid hfr2.out
        clear hall2 hfr2
        by_cases hjl : j < L
        · have hjl' : (j : Int) < (L : Int) := by omega
          have hj0 : (0 : Int) ≤ (j : Int) := by omega
          obtain ⟨to, hto⟩ : ∃ t, row[j]? = some t := ⟨_, List.getElem?_eq_getElem (by rw [HL.out]; omega)⟩
          obtain ⟨rad, rfl, hc3⟩ := HRW.out j to hto
          have hc4 := cell_move ((HF.out.tr HFr.out).tr HFr2.out) hc3
          have hbad : (decide (-1 ≤ to) && decide (to < (M : Int))) = false → validM D = false := by
            intro hb
            have h1 := all_take_false (p := fun to => decide (-1 ≤ to) && decide (to < (M : Int))) hto hb
            have h2 : rowOkM M K row = false := by rw [rowOkM, h1, Bool.false_and]
            rw [HVd.out, all_take_false HROW.out h2]; simp
          have HBAD := Lib.hid hbad
          have HGOOD := Lib.hid (fun hx => all_take_succ (p := fun to => decide (-1 ≤ to) && decide (to < (M : Int))) hto HA2.out hx)
          have FF := Lib.hid ((HF.out.tr HFr.out).tr HFr2.out)
          clear hbad hto hc3
          by_cases t1 : to < -1
          · have HV := Lib.hid (HBAD.out (by have : decide (-1 ≤ to) = false := by simp; omega
                                             rw [this]; rfl))
            go_wp2_with fail
            go_ret
            exact ⟨by rw [HV.out]; rfl, FF.out⟩
          by_cases t2 : (M : Int) ≤ to
          · have HV := Lib.hid (HBAD.out (by have : decide (to < (M : Int)) = false := by simp; omega
                                             rw [this, Bool.and_false]))
            have t1' : -1 ≤ to := by omega
            clear t1
            go_wp2_with fail
            go_ret
            exact ⟨by rw [HV.out]; rfl, FF.out⟩
          have t1' : -1 ≤ to := by omega
          have t2' : to < (M : Int) := by omega
          clear t1 t2
          go_wp2_with fail
          go_roundw
          case rel => exact ⟨j + 1, by omega, by go_num, HGOOD.out (by simp; omega), HFr2.out⟩
          case measure => simp [intOf]; omega
        · obtain rfl : j = L := by omega
          have FF := Lib.hid ((HF.out.tr HFr.out).tr HFr2.out)
          have HA3 := HA2.out
          rw [List.take_of_length_le (by rw [HL.out]; exact Nat.le_refl _)] at HA3
          have HA4 := Lib.hid HA3
          clear HA3
          by_cases t1 : j = K
          · have HGD := Lib.hid (all_take_succ HROW.out HA.out (show rowOkM M K row = true by rw [rowOkM, HA4.out, HL.out]; simp [t1]))
            have t1' : ((j : Int) != (K : Int)) = false := by simp [t1]
            clear t1
            go_wp2_with fail
            go_roundw
            case rel => exact ⟨i + 1, by omega, by go_num, HGD.out, HFr.out.tr HFr2.out⟩
            case measure => simp [intOf]; omega
          · have h2 : rowOkM M K row = false := by rw [rowOkM, HL.out]; simp [t1]
            have HV := Lib.hid (show validM D = false by rw [HVd.out, all_take_false HROW.out h2]; simp)
            have t1' : ((j : Int) != (K : Int)) = true := by simp; omega
            clear t1 h2
            go_wp2_with fail
            go_ret
            exact ⟨by rw [HV.out]; rfl, FF.out⟩
    · obtain rfl : i = M := by omega
      have HA3 := HA.out
      rw [List.take_of_length_le (by rw [HN.out]; exact Nat.le_refl _)] at HA3
      have HA4 := Lib.hid HA3
      have hbk := HFr.out.at_ HBK.out (fun h => h)
      have FF := Lib.hid (HF.out.tr HFr.out)
      obtain ⟨wa, hwa⟩ : ∃ x, x = wr := ⟨_, rfl⟩
      subst hwa
      clear HA3
      go_wp2_with (refine wpList_load_mid rfl 22 _ rfl w.heap.size 0 rfl Q _ (range_pre (range_of hbk)) Tryz.underlying22 rfl (by rw [hil]; exact arr_info) ?_)
      go_loopw [56] (fun x56 wr => ∃ b : Nat, b ≤ 256 ∧ x56 = .int .i64 b ∧ Aside ((D.cls.take b).all (clsOkM K) = true) ∧ Aside (Fr none_ wa wr)) (fun x56 _ => 256 - (intOf x56).toNat)
      case atStart => exact ⟨0, Nat.zero_le _, rfl, rfl, Fr.refl _ _⟩
      case round =>
        obtain ⟨b, hb', rfl, hall2, hfr2⟩ := hrel
        have HA2 := Lib.hid hall2.out
        have HFr2 := Lib.hid hfr2.out
        have FF2 := Lib.hid (FF.out.tr HFr2.out)
        clear hall2 hfr2
        by_cases hbl : b < 256
        · have hbl' : (b : Int) < 256 := by omega
          have hb0 : (0 : Int) ≤ (b : Int) := by omega
          obtain ⟨c, hcd⟩ : ∃ c, D.cls.getD b 0 = c := ⟨_, rfl⟩
          have hcq := HCA.out b hbl
          rw [hcd] at hcq
          have hcg : D.cls[b]? = some c := by
            have hbl2 : b < D.cls.length := by rw [HLn.out]; exact hbl
            rw [List.getElem?_eq_getElem hbl2, ← hcd]
            simp [List.getD, List.getElem?_eq_getElem hbl2]
          have hrun := fun (w : World) => run_arr Q.toArray b (.int .i64 c) hbl (by simpa using hcq) w
          have HBAD := Lib.hid (show clsOkM K c = false → validM D = false from fun hb => by rw [HVd.out, all_take_false hcg hb]; simp)
          have HGOOD := Lib.hid (fun hx => all_take_succ (p := clsOkM K) hcg HA2.out hx)
          clear hcd hcq hcg
          by_cases t1 : c < 0
          · have HV := Lib.hid (HBAD.out (by have : decide (0 ≤ c) = false := by simp; omega
                                             rw [clsOkM, this]; rfl))
            go_wp2_with fail
            go_ret
            exact ⟨by rw [HV.out]; rfl, FF2.out⟩
          by_cases t2 : (K : Int) ≤ c
          · have HV := Lib.hid (HBAD.out (by have : decide (c < (K : Int)) = false := by simp; omega
                                             rw [clsOkM, this, Bool.and_false]))
            have t1' : 0 ≤ c := by omega
            clear t1
            go_wp2_with fail
            go_ret
            exact ⟨by rw [HV.out]; rfl, FF2.out⟩
          have t1' : 0 ≤ c := by omega
          have t2' : c < (K : Int) := by omega
          have hok : clsOkM K c = true := by simp [clsOkM]; omega
          have HOK := Lib.hid hok
          clear t1 t2 hok
          go_wp2_with fail
          go_roundw
          case rel => exact ⟨b + 1, by omega, by go_num, HGOOD.out HOK.out, HFr2.out⟩
          case measure => simp [intOf]; omega
        · obtain rfl : b = 256 := by omega
          have HA3 := HA2.out
          rw [List.take_of_length_le (by rw [HLn.out]; exact Nat.le_refl _)] at HA3
          have HV := Lib.hid (show validM D = true by rw [HVd.out, HA4.out, HA3]; simp [g1])
          clear HA3
          go_wp2_with fail
          go_ret
          exact ⟨by rw [HV.out]; rfl, FF2.out⟩
end Go.Proofs.YtnenbihmokolpaaGreatDoor
