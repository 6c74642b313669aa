/-
  The walks over nfa: a state more, a way more.
-/
import Derived.Test.YtnenbihmokolpaaGreatDoorNw
import Derived.Test.YtnenbihmokolpaaGreatDoorPk
namespace Go.Proofs.YtnenbihmokolpaaGreatDoor set_option linter.unusedVariables false set_option linter.unusedSimpArgs false
open Go.RowKit

theorem st_info : (Tryz.prog.info? 155).map (fun i => (i.zero, i.size, i.bytes)) = some (some (.agg #[.slice none 0 0, .int .i64 0, .int .u64 0, .int .u64 0, .int .u64 0, .int .u64 0, .slice none 0 0, .int .i64 0, .int .i64 0]), 9, 104) := by kernel_rfl
theorem int_info : (Tryz.prog.info? 3).map (fun i => (i.zero, i.size, i.bytes)) = some (some (.int .i64 0), 1, 8) := by kernel_rfl

set_option maxRecDepth 100000 in
set_option maxHeartbeats 4000000 in
theorem add_st (dm : Nat) (S : Nat → Prop) (w : World) (l : List St) (starts : List Nat) (h : Mach dm S w l starts) (hl : l.length ≤ 100000) :
    Calls Tryz.prog 90 #[.pointer (some ⟨dm, 0, none⟩)] w fun e w' => e = .returned (.int .i64 l.length) ∧ Mach dm (fun k => S k ∨ w.heap.size ≤ k) w' (l ++ [St.none]) starts ∧ Fr (fun k => k = dm ∨ S k) w w' := by
  obtain ⟨i0, hi, hz0, hz1, hz2⟩ := info_parts st_info
  obtain ⟨vs, vt, fv, cells, hm⟩ := h
  have hdm := lt_of_block hm.head
  have c0 : w.cell? ⟨dm, 0, none⟩ = some vs := cell_of_block hm.head rfl
  have HM := Lib.hid hm
  clear hm
  go_enter Tryz.func90, Tryz.ntmps90
  go_wp2_with (at_builtin; refine wpList_append_lies _ rfl (.tmp 7) (.tmp 9) 149 rfl (dm + 1) 155 i0 _ 9 104 Tryz.underlying149 hi hz0 hz1 hz2 rfl (by decide) _ l.length cells rfl (HM.out.rows.alloc _) ⟨w.heap.size, 0, none⟩ 1 1 [.slice none 0 0, .int .i64 0, .int .u64 0, .int .u64 0, .int .u64 0, .int .u64 0, .slice none 0 0, .int .i64 (-1), .int .i64 (-1)] rfl rfl (getElem_block (alloc_new _ _)) ?c1 (by decide) ?c2 ?c3 ?c4 (w.heap.size + 1) (by simp) ?_)
  case c1 => simp [Value.oneCell']
  case c2 => unfold maxLen; omega
  case c3 => omega
  case c4 => simp; omega
  intro g gcap w1 hown1 hgrow hat hlt1
  have hvs := HM.out.rows.lt
  have hb1 : w1.heap[dm]? = some (.cells #[vs, vt] 151 (0, 0)) := by
    rw [hgrow.block dm (by simp; omega) (fun e => by have := (hvs dm e.symm).1; omega)]
    exact ((Fr.refl none_ w).alloc _).at_ HM.out.head (fun h => h)
  have LAW := Lib.hid ((HM.out.alloc _).add hown1 hgrow (by simpa using hat))
  have d0 : w1.cell? ⟨dm, 0, none⟩ = some vs := cell_of_block hb1 rfl
  have df : w1.frozen? ⟨dm, 0, none⟩ = false := free_of_block hb1
  clear hown1 hgrow hat hlt1 hvs hb1 c0
  go_wp2_with fail
  go_ret
  obtain ⟨L1, L2⟩ := LAW.out
  refine ⟨?_, ⟨_, _, _, _, L1.mono (fun k _ hk => ?_) (fun k hk => ?_)⟩, ?_⟩
  · rfl
  · rcases hk with hk | hk
    · exact .inl hk
    · simp at hk; exact .inr (by omega)
  · rcases hk with hk | hk
    · exact HM.out.sep k hk
    · omega
  · exact (((Fr.refl none_ w).alloc _).none (S := fun k => k = dm ∨ S k)).tr L2

set_option maxRecDepth 100000 in
set_option maxHeartbeats 4000000 in
theorem free_st (dm : Nat) (S : Nat → Prop) (w : World) (l : List St) (starts : List Nat) (from_ to : Nat) (h : Mach dm S w l starts) (hl : l.length ≤ 100000) (hf : from_ < l.length) (hs : Short 100000 l) :
    Calls Tryz.prog 103 #[.pointer (some ⟨dm, 0, none⟩), .int .i64 from_, .int .i64 to] w fun e w' => e = .returned (.tuple #[]) ∧ Mach dm (fun k => S k ∨ w.heap.size ≤ k) w' (freeM l from_ to) starts ∧ Fr (fun k => k = dm ∨ S k) w w' := by
  obtain ⟨i0, hi, hz0, hz1, hz2⟩ := info_parts int_info
  obtain ⟨vs, vt, fv, cells, hm⟩ := h
  have hdm := lt_of_block hm.head
  obtain ⟨g, cap, rfl, hg1, hg2⟩ := hm.form (by omega)
  have c0 : w.cell? ⟨dm, 0, none⟩ = some (.slice (some ⟨g, 0, none⟩) l.length cap) := cell_of_block hm.head rfl
  obtain ⟨st, hst⟩ := hm.at hf
  have hown := hm.free from_ st hst
  obtain ⟨cs, hcs, hcells⟩ := hm.data from_ st hst
  have hc9 : w.cell? ⟨g, from_ * 9, none⟩ = some (fv from_) := by
    have := hm.rows.cellAt (from_ * 9) (by omega)
    rw [this]
    exact hcells 0 _ rfl
  have hshort := hs st (List.mem_of_getElem? hst)
  have hlt : (from_ : Int) < (l.length : Int) := by omega
  have h0 : (0 : Int) ≤ (from_ : Int) := by omega
  have HM := Lib.hid hm
  have HOWN := Lib.hid hown
  have HST := Lib.hid hst
  have hne : ∀ b, (fv from_).ownBlock = some b → b ≠ g := fun b hb e => (hm.ap2 from_ b hf hb).1 (by rw [e]; rfl)
  have HFV := Lib.hid (show ∃ x, x = fv from_ from ⟨_, rfl⟩)
  have HM2 := Lib.hid (show ∀ w1 : World, (w.alloc (.cells #[.int .i64 to] 3)).drew.grownBy w1 (fv from_).ownBlock → w1.cell? ⟨g, from_ * 9, none⟩ = some (fv from_) from fun w1 hg => by
    rw [World.cell?_of_block (w := w) (by
      rw [hg.block g (by simp; omega) (fun e => hne g e.symm rfl)]
      exact Below.heap_alloc w _ g hg2)]
    exact hc9)
  have HM3 := Lib.hid (show ∀ w1 : World, (w.alloc (.cells #[.int .i64 to] 3)).drew.grownBy w1 (fv from_).ownBlock → w1.frozen? ⟨g, from_ * 9, none⟩ = false from fun w1 hg => by
    rw [World.frozen?_of_block (w := w) (by
      rw [hg.block g (by simp; omega) (fun e => hne g e.symm rfl)]
      exact Below.heap_alloc w _ g hg2)]
    exact hm.rows.frozenAt _)
  have HM4 := Lib.hid (show ∀ w1 : World, (w.alloc (.cells #[.int .i64 to] 3)).drew.grownBy w1 (fv from_).ownBlock → w1.cell? ⟨dm, 0, none⟩ = some (.slice (some ⟨g, 0, none⟩) l.length cap) from fun w1 hg => by
    rw [World.cell?_of_block (w := w) (by
      rw [hg.block dm (by simp; omega) (fun e => by have := (hm.flt hf e.symm).1; omega)]
      exact Below.heap_alloc w _ dm hdm)]
    exact c0)
  have HC := Lib.hid hcs
  have HCL := Lib.hid hcells
  clear hm hown hcs hcells hst hne HFV
  generalize hfv : fv from_ = fvi at hc9 HOWN HM2 HM3 HM4 HCL
  have HFV := Lib.hid hfv
  clear hfv
  go_enter Tryz.func103, Tryz.ntmps103
  go_wp2_with fail
  go_region_law (refine step_append_lies _ rfl (.tmp 18) (.tmp 20) 100 rfl (dm + 1) 3 i0 _ 1 8 Tryz.underlying100 hi hz0 hz1 hz2 rfl (by decide) _ st.free.length (nums st.free) rfl (HOWN.out.alloc _).drew ⟨w.heap.size, 0, none⟩ 1 1 [.int .i64 to] rfl rfl (getElem_block (w := (w.alloc _).drew) (alloc_new _ _)) (by simp [Value.oneCell']) (by decide) (by unfold maxLen; omega) (by omega) (by simp; omega) (w.heap.size + 1) (by simp) ?_
                 intro g2 cap2 w1 hown1 hgrow hat hlt1
                 have hb1 : w1.cell? ⟨g, from_ * 9, none⟩ = some fvi := HM2.out w1 hgrow
                 have hb2 : w1.frozen? ⟨g, from_ * 9, none⟩ = false := HM3.out w1 hgrow
                 have hb3 : w1.cell? ⟨dm, 0, none⟩ = some (.slice (some ⟨g, 0, none⟩) l.length cap) := HM4.out w1 hgrow
                 have HOWN1 := Lib.hid hown1
                 have HG1 : Hid ((w.alloc (.cells #[.int .i64 to] 3)).drew.grownBy w1 fvi.ownBlock) := Lib.hid hgrow
                 have HAT1 : Hid (fvi.ownBlock = some g2 ∨ g2 = w.heap.size + 1) := Lib.hid hat
                 clear hown1 hgrow hat hlt1)
  all_goals
    have H0 : MachD dm S (w.alloc (.cells #[.int .i64 to] 3)).drew l starts _ vt fv cells := (HM.out.alloc _).drew
    obtain ⟨L1, L2⟩ := H0.freed (i := from_) (to := to) HST.out HOWN1.out (by rw [HFV.out]; exact HG1.out) (by rw [HFV.out]; simpa using HAT1.out)
    have L3 : Fr (fun k => k = dm ∨ S k) w _ := ((((Fr.refl none_ w).alloc (.cells #[.int .i64 to] 3)).drew).none (S := fun k => k = dm ∨ S k)).tr L2
    have L4 : Mach dm (fun k => S k ∨ w.heap.size ≤ k) (w1.setCell ⟨g, from_ * 9, none⟩ (.slice (some ⟨g2, 0, none⟩) (st.free.length + 1) cap2)) (freeM l from_ to) starts := by
      obtain ⟨a, b, c, d, hh⟩ := L1
      exact ⟨a, b, c, d, hh.mono (fun k _ hk => by
        rcases hk with hk | hk
        · exact .inl hk
        · simp at hk; exact .inr (by omega)) (fun k hk => by
        rcases hk with hk | hk
        · exact HM.out.sep k hk
        · omega)⟩
    exact ⟨rfl, _, results_none rfl _ _ _, rfl, L4, L3⟩
end Go.Proofs.YtnenbihmokolpaaGreatDoor
