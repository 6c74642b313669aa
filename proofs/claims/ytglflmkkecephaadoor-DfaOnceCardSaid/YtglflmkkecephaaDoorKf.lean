/-
  The first bytes of all classes.
-/
import Derived.Test.YtglflmkkecephaaDoorKe
import Derived.ChangeKeysEq
namespace Go.Proofs.YtglflmkkecephaaDoor
open Go.RowKit

theorem u8_info : (Tryd.prog.info? 5).map (fun i => (i.zero, i.size, i.bytes)) = some (some (.int .u8 0), 1, 1) := by kernel_rfl
def bytesV (l : List Nat) : List Value := l.map fun (b : Nat) => Value.int .u8 (b : Int)
def BytesAt (w : World) (v : Value) (l : List Nat) : Prop := ∃ base, w.ownsRow base 5 1 v l.length (bytesV l)
theorem arr_info : (Tryd.prog.info? 25).map (·.size) = some 256 := by kernel_rfl
theorem arr_at {cls : List Nat} {b : Nat} (hb : b < cls.length) : (intsV (ints cls))[b]? = some (.int .i64 ((cls.getD b 0 : Nat) : Int)) := by
  simp [intsV, ints, List.getD, List.getElem?_eq_getElem hb]

theorem int_cells : Tryd.prog.cellsOf 3 = 1 := by kernel_rfl
theorem int_plain : Tryd.prog.plainKey 3 = true := by kernel_rfl
/-- 'class[b]' of an array by value. -/
theorem run_arr (C : Array Value) (i : Nat) (v : Value) (hi : i < 256) (h : C[i]? = some v) (w : World) : (Instr.index 25 (.agg C) (.int .i64 (i : Int))).run Tryd.prog w = .ok v w := by
  obtain ⟨i0, hii, _, _, _⟩ := info_parts int_info
  have hp := run_part_plain (P := Tryd.prog) w int_plain h
  have hs := run_sizeOf (P := Tryd.prog) w hii
  rw [int_cells] at hs
  have hu : (underlying 25).run Tryd.prog w = .ok (.array 256 3) w := run_underlying Tryd.underlying25 w
  have hb : (0 : Int) ≤ (i : Int) ∧ (i : Int) < ((256 : Nat) : Int) := by omega
  simp [Instr.index, asIntOf, hu, hb, hs, hp, h, hi, go_sem, Sem.run_pure]

set_option maxRecDepth 100000 in
set_option maxHeartbeats 4000000 in
theorem firsts_any (cls : List Nat) (w : World) (hl : cls.length = 256) :
    Calls Tryd.prog 24 #[.agg (intsV (ints cls)).toArray] w fun e w' => ∃ v, e = .returned v ∧ BytesAt w' v (firstsM cls 256) ∧ Fr none_ w w' := by
  have hz : (intsV (ints cls)).length = 256 := by rw [intsV_length, ints_length, hl]
  have HAt := Lib.hid (fun b (hb : b < cls.length) => arr_at hb)
  obtain ⟨C, hC⟩ : ∃ C, intsV (ints cls) = C := ⟨_, rfl⟩
  rw [hC] at hz HAt ⊢
  clear hC
  obtain ⟨i0, hi, hz0, hz1, hz2⟩ := info_parts u8_info
  have NB := Lib.hid (alloc_new w (.cells C.toArray 25))
  have HF := Lib.hid ((Fr.refl none_ w).alloc (.cells C.toArray 25))
  go_enter Tryd.func24, Tryd.ntmps24
  go_wp2_with (refine wpList_load_mid rfl 25 _ rfl _ _ rfl C _ (range_of NB.out) Tryd.underlying25 rfl (by rw [hz]; exact arr_info) ?_)
  go_loopw [3, 7] (fun x3 x7 wr => ∃ i : Nat, i ≤ 256 ∧ x7 = .int .i64 i ∧ Aside (wr.ownsRow (w.heap.size + 1) 5 1 x3 (firstsM cls i).length (bytesV (firstsM cls i))) ∧ Aside (Fr none_ w wr) ∧ Aside (w.heap.size + 1 ≤ wr.heap.size)) (fun _ x7 _ => 256 - (intOf x7).toNat)
  case atStart => exact ⟨0, Nat.zero_le _, rfl, World.ownsRow_nil _ _ _ _, HF.out, show w.heap.size + 1 ≤ (w.alloc (.cells C.toArray 25)).heap.size by simp⟩
  case round =>
    obtain ⟨i, hi', rfl, how, hfr, hsz⟩ := hrel
    have HO := Lib.hid how.out
    have HFr := Lib.hid hfr.out
    have hwr := hsz.out
    clear how hfr hsz
    obtain ⟨M, hM⟩ : ∃ M, firstsM cls i = M := ⟨_, rfl⟩
    have hml : M.length ≤ 256 := by rw [← hM]; have := firsts_le cls i; omega
    have HM := Lib.hid hM
    rw [hM] at HO
    obtain ⟨ax, cx, rfl, hcx⟩ := ownsRow_slice HO.out
    clear hM
    by_cases hlt : i < 256
    · have hil : (i : Int) < 256 := by omega
      have hi0 : (0 : Int) ≤ (i : Int) := by omega
      obtain ⟨c, hc⟩ : ∃ c, cls.getD i 0 = c := ⟨_, rfl⟩
      have hat := HAt.out i (by omega)
      rw [hc] at hat
      have hrun := fun (w : World) => run_arr C.toArray i (.int .i64 (c : Int)) hlt (by simpa using hat) w
      have HS := Lib.hid (show firstsM cls (i + 1) = if c = M.length then M ++ [i] else M by simp only [firstsM, hc, HM.out])
      clear hc hat
      by_cases he : c = M.length
      · have hsub := HS.out
        rw [if_pos he] at hsub
        have HT := Lib.hid hsub
        have he' : ((c : Int) == (M.length : Int)) = true := by simp [he]
        clear hsub HS he
        go_wp2_with (at_builtin; refine wpList_append_lies _ rfl (.tmp 15) (.tmp 18) 40 rfl (w.heap.size + 1) 5 i0 _ 1 1 Tryd.underlying40 hi hz0 hz1 hz2 rfl (by decide) _ M.length (bytesV M) rfl (HO.out.alloc _) ⟨wr.heap.size, 0, none⟩ 1 1 [.int .u8 (i : Int)] rfl rfl (getElem_block (alloc_new _ _)) ?c1 (by decide) ?c2 ?c3 ?c4 (wr.heap.size + 1) (by simp) ?_)
        case c1 => simp [Value.oneCell']
        case c2 => unfold maxLen; omega
        case c3 => omega
        case c4 => first | omega | (simp; omega)
        intro g2 cap2 w2 hown2 hgrow2 hat2 hlt2
        have FN := Lib.hid ((HFr.out.alloc (.cells #[.int .u8 (i : Int)] 5)).grown hgrow2 (fun k hk => .inr (by have := (HO.out.lt k hk).1; omega)))
        have HN2 := Lib.hid hown2
        have hs2 : w.heap.size + 1 ≤ w2.heap.size := by have := hgrow2.size; simp at this; omega
        have HS2 := Lib.hid hs2
        clear hown2 hgrow2 hat2 hlt2 hs2
        go_wp2_with fail
        go_roundw
        case rel =>
          refine ⟨i + 1, by omega, by go_num, ?_, FN.out, HS2.out⟩
          rw [HT.out, List.length_append]
          have e2 : bytesV (M ++ [i]) = bytesV M ++ [.int .u8 (i : Int)] := by simp [bytesV]
          rw [e2]
          exact HN2.out
        case measure => simp [intOf]; omega
      · have hsub := HS.out
        rw [if_neg he] at hsub
        have HT := Lib.hid hsub
        have he' : ((c : Int) == (M.length : Int)) = false := by rw [beq_eq_false_iff_ne]; omega
        clear hsub HS he
        go_wp2_with fail
        go_roundw
        case rel => exact ⟨i + 1, by omega, by go_num, by rw [HT.out]; exact HO.out, HFr.out, hwr⟩
        case measure => simp [intOf]; omega
    · obtain rfl : i = 256 := by omega
      go_wp2_with fail
      go_ret
      exact ⟨_, rfl, ⟨_, by rw [HM.out]; exact HO.out⟩, HFr.out⟩
end Go.Proofs.YtglflmkkecephaaDoor
