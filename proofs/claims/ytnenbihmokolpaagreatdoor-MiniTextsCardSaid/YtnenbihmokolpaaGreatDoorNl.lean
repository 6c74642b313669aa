/-
  The walk over nfa.lay.
-/
import Derived.Test.YtnenbihmokolpaaGreatDoorNa
import Derived.Test.YtnenbihmokolpaaGreatDoorNw
namespace Go.Proofs.YtnenbihmokolpaaGreatDoor set_option linter.unusedVariables false set_option linter.unusedSimpArgs false
open Go.RowKit

section
variable {dm : Nat} {S S' T : Nat → Prop} {w w' : World} {l : List St} {starts : List Nat}
theorem Mach.mono (h : Mach dm S w l starts) (hs : ∀ k, k < w.heap.size → S k → S' k) (hsep : ∀ k, S' k → dm < k) : Mach dm S' w l starts := by
  obtain ⟨a, b, c, d, hh⟩ := h
  exact ⟨a, b, c, d, hh.mono hs hsep⟩
theorem Mach.sep (h : Mach dm S w l starts) : ∀ k, S k → dm < k := by
  obtain ⟨a, b, c, d, hh⟩ := h
  exact hh.sep
theorem Mach.dlt (h : Mach dm S w l starts) : dm < w.heap.size := by
  obtain ⟨a, b, c, d, hh⟩ := h
  exact lt_of_block hh.head
theorem Mach.alloc (h : Mach dm S w l starts) (o : Obj) : Mach dm S (w.alloc o) l starts := by
  obtain ⟨a, b, c, d, hh⟩ := h
  exact ⟨a, b, c, d, hh.alloc o⟩
theorem Mach.move (h : Mach dm S w l starts) (hf : Fr T w w') (hT : ∀ k, T k → dm < k ∧ ¬ S k) : Mach dm S w' l starts := by
  obtain ⟨a, b, c, d, hh⟩ := h
  exact ⟨a, b, c, d, hh.move hf hT⟩
end
/-- What a call's own blocks are: those of S that there were, and all new ones but the first. -/
def keepB (S : Nat → Prop) (w : World) : Nat → Prop := fun k => (S k ∧ k < w.heap.size) ∨ w.heap.size + 1 ≤ k
theorem Mach.apart {dm : Nat} {S : Nat → Prop} {w : World} {l : List St} {starts : List Nat} (h : Mach dm S w l starts) (o : Obj) : Mach dm (keepB S w) (w.alloc o) l starts := by
  have hd := h.dlt
  have hsep := h.sep
  exact (h.mono (S' := keepB S w) (fun k hk hs => .inl ⟨hs, hk⟩) (fun k hk => by
    rcases hk with hk | hk
    · exact hsep k hk.1
    · omega)).alloc o
/-- Behind a call of the same machine. -/
theorem Mach.keep {dm a : Nat} {P : Nat → Prop} {w : World} {l : List St} {starts : List Nat} (h : Mach dm (fun k => P k ∨ a ≤ k) w l starts) (ha : ∀ k, a ≤ k → P k) (hsep : ∀ k, P k → dm < k) : Mach dm P w l starts :=
  h.mono (fun k _ hk => by rcases hk with hk | hk; exact hk; exact ha k hk) hsep
theorem keepB_new {S : Nat → Prop} {w w' : World} (h : w.heap.size + 1 ≤ w'.heap.size) : ∀ k, w'.heap.size ≤ k → keepB S w k := fun k hk => .inr (by omega)
theorem keepB_x {dm : Nat} {S : Nat → Prop} {w : World} (hd : dm < w.heap.size) : ¬ (w.heap.size = dm ∨ keepB S w w.heap.size) := by
  intro h
  rcases h with h | h | h <;> omega
theorem keepB_low {dm k : Nat} {S : Nat → Prop} {w : World} (hs : ∀ k, S k → dm < k) (hd : dm < w.heap.size) (hk : k < dm) : ¬ (k = dm ∨ keepB S w k) := by
  intro h
  rcases h with h | h | h
  · omega
  · have := hs k h.1; omega
  · omega
theorem Fr.save {dm : Nat} {S : Nat → Prop} {w wa wb : World} (h : Fr (fun k => k = dm ∨ S k) w wa) (k : Fr (fun k => k = dm ∨ keepB S w k) wa wb) : Fr (fun k => k = dm ∨ S k) w wb :=
  h.trans k (fun i hi hh => by
    rcases hh with hh | hh | hh
    · exact .inl hh
    · exact .inr hh.1
    · omega)

theorem catM_snoc : ∀ (a : List Rx) (k : Rx) (l : List St) (f : Nat), catM (a ++ [k]) l f = layM k (catM a l f).1 (catM a l f).2
  | [], k, l, f => by simp [catM]
  | x :: a, k, l, f => by simp only [List.cons_append, catM]; exact catM_snoc a k _ _
theorem altM_snoc : ∀ (a : List Rx) (k : Rx) (l : List St) (f fin : Nat), altM (a ++ [k]) l f fin = freeM (layM k (altM a l f fin) f).1 (layM k (altM a l f fin) f).2 fin
  | [], k, l, f, fin => by simp [altM]
  | x :: a, k, l, f, fin => by simp only [List.cons_append, altM]; exact altM_snoc a k _ _ _
theorem catM_lt : ∀ (a : List Rx) (l : List St) (f : Nat), f < l.length → (catM a l f).2 < (catM a l f).1.length
  | [], l, f, h => by simpa [catM] using h
  | x :: a, l, f, h => by
    simp only [catM]
    have := layM_facts x l f
    exact catM_lt a _ _ (by omega)

theorem add_stN (dm : Nat) (S : Nat → Prop) (w : World) (l : List St) (starts : List Nat) (N : Nat) (h : Mach dm S w l starts) (hl : l.length ≤ 100000) (hN : l.length = N) :
    Calls Tryz.prog 90 #[.pointer (some ⟨dm, 0, none⟩)] w fun e w' => e = .returned (.int .i64 N) ∧ Mach dm (fun k => S k ∨ w.heap.size ≤ k) w' (l ++ [St.none]) starts ∧ Fr (fun k => k = dm ∨ S k) w w' := by
  subst hN
  exact add_st dm S w l starts h hl

def LayC (r : Rx) : Prop := ∀ (dm : Nat) (S : Nat → Prop) (w : World) (l : List St) (starts : List Nat) (from_ n : Nat) (v : Value), Mach dm S w l starts → RxV (fun k => k < dm) w v r → from_ < l.length →
  l.length + 2 * r.size ≤ 50000 → Short n l → n + 4 * r.size ≤ 50000 →
  Calls Tryz.prog 91 #[.pointer (some ⟨dm, 0, none⟩), v, .int .i64 from_] w fun e w' => e = .returned (.int .i64 l.length) ∧ Mach dm (fun k => S k ∨ w.heap.size ≤ k) w' (layM r l from_).1 starts ∧ Fr (fun k => k = dm ∨ S k) w w'

theorem LayC.call {r : Rx} (h : LayC r) {dm : Nat} {S : Nat → Prop} {w : World} {l : List St} {starts : List Nat} {from_ n : Nat} {v : Value} (N : Nat) (hN : l.length = N) (hm : Mach dm S w l starts) (hv : RxV (fun k => k < dm) w v r) (hf : from_ < l.length)
    (hl : l.length + 2 * r.size ≤ 50000) (hn : Short n l) (hb : n + 4 * r.size ≤ 50000) :
    Calls Tryz.prog 91 #[.pointer (some ⟨dm, 0, none⟩), v, .int .i64 from_] w fun e w' => e = .returned (.int .i64 N) ∧ Mach dm (fun k => S k ∨ w.heap.size ≤ k) w' (layM r l from_).1 starts ∧ Fr (fun k => k = dm ∨ S k) w w' := by
  subst hN
  exact h dm S w l starts from_ n v hm hv hf hl hn hb

set_option maxRecDepth 100000 in
set_option maxHeartbeats 4000000 in
theorem lay_0 (b0 b1 b2 b3 : Nat) (kids : List Rx) : LayC (.mk 0 b0 b1 b2 b3 kids) := by
  intro dm S w l starts from_ n v hm hv hf hl hn hb
  have hsz : (Rx.mk 0 b0 b1 b2 b3 kids).size = 1 + Rx.sizes kids := by simp only [Rx.size]
  rw [hsz] at hl hb
  obtain ⟨a, cap, rfl, hc, hkl⟩ := hv.open_
  have hdm := hm.dlt
  have hsep := hm.sep
  have nx := alloc_new w (.cells #[.int .i64 0, .int .u64 b0, .int .u64 b1, .int .u64 b2, .int .u64 b3, .slice a kids.length cap] 53)
  have NX := Lib.hid nx
  have F0 := Lib.hid (((Fr.refl none_ w).alloc (.cells #[.int .i64 0, .int .u64 b0, .int .u64 b1, .int .u64 b2, .int .u64 b3, .slice a kids.length cap] 53)).none (S := fun k => k = dm ∨ S k))
  have HM := Lib.hid (hm.apart (.cells #[.int .i64 0, .int .u64 b0, .int .u64 b1, .int .u64 b2, .int .u64 b3, .slice a kids.length cap] 53))
  have BX := Lib.hid (keepB_x (S := S) hdm)
  have BSEP := Lib.hid (show ∀ k, keepB S w k → dm < k from HM.out.sep)
  have BLOW := Lib.hid (show ∀ k, k < dm → ¬ (k = dm ∨ keepB S w k) from fun k hk => keepB_low hsep hdm hk)
  have HK := Lib.hid (RxL.move (w' := w.alloc (.cells #[.int .i64 0, .int .u64 b0, .int .u64 b1, .int .u64 b2, .int .u64 b3, .slice a kids.length cap] 53)) (fun k _ hlt => Below.heap_alloc _ _ _ hlt) kids a 0 hkl)
  have hs0 : (w.alloc (.cells #[.int .i64 0, .int .u64 b0, .int .u64 b1, .int .u64 b2, .int .u64 b3, .slice a kids.length cap] 53)).heap.size = w.heap.size + 1 := by simp
  have HN := Lib.hid hn
  have HSEP := Lib.hid hsep
  clear nx hm hv hkl hn hsep
  go_enter Tryz.func91, Tryz.ntmps91
  go_wp2_with fail
  refine (add_st dm (keepB S w) _ l starts HM.out (by omega)).mono ?_
  rintro e wa ⟨rfl, Ma, Fa⟩
  have hsa : w.heap.size + 1 ≤ wa.heap.size := by have := Fa.size; omega
  have MA := Lib.hid (Ma.keep (fun k hk => by rw [hs0] at hk; exact .inr hk) BSEP.out)
  have NXa := Lib.hid (Fa.at_ NX.out BX.out)
  have FA := Lib.hid (F0.out.save Fa)
  have HKa := Lib.hid (RxL.move (fun k hk hlt => Fa.block k hlt (BLOW.out k hk)) kids a 0 HK.out)
  have c0 : wa.cell? ⟨w.heap.size, 0, none⟩ = some (.int .i64 0) := cell_of_block NXa.out rfl
  clear Ma Fa
  go_wp2_with fail
  refine (free_st dm (keepB S w) _ (l ++ [St.none]) starts from_ l.length MA.out (by simp only [List.length_append, List.length_cons, List.length_nil, freeM_length, bytesM_length]; omega) (by simp only [List.length_append, List.length_cons, List.length_nil, freeM_length, bytesM_length]; omega) ((HN.out.snoc).mono (by omega))).mono ?_
  rintro e wb ⟨rfl, Mb, Fb⟩
  have hsb : w.heap.size + 1 ≤ wb.heap.size := by have := Fb.size; omega
  have MMb := Lib.hid (Mb.keep (keepB_new (by omega)) BSEP.out)
  have NXb := Lib.hid (Fb.at_ NXa.out BX.out)
  have FFb := Lib.hid (FA.out.save Fb)
  have HKb := Lib.hid (RxL.move (fun k hk hlt => Fb.block k hlt (BLOW.out k hk)) _ _ _ HKa.out)
  clear Mb Fb
  go_wp2_with fail
  go_ret
  have hlay : (layM (.mk 0 b0 b1 b2 b3 kids) l from_).1 = freeM (l ++ [St.none]) from_ l.length := by simp [layM, headM]
  rw [hlay]
  exact ⟨rfl, MMb.out.mono (fun k _ hk => by
    rcases hk with hk | hk
    · exact .inl hk.1
    · exact .inr (by omega)) (fun k hk => by
    rcases hk with hk | hk
    · exact HSEP.out k hk
    · omega), FFb.out⟩
set_option maxRecDepth 100000 in
set_option maxHeartbeats 4000000 in
theorem lay_other (kind : Int) (b0 b1 b2 b3 : Nat) (kids : List Rx) (h0 : kind ≠ 0) (h1 : kind ≠ 1) (h2 : kind ≠ 2) (h3 : kind ≠ 3) (h4 : kind ≠ 4) : LayC (.mk kind b0 b1 b2 b3 kids) := by
  intro dm S w l starts from_ n v hm hv hf hl hn hb
  have hsz : (Rx.mk kind b0 b1 b2 b3 kids).size = 1 + Rx.sizes kids := by simp only [Rx.size]
  rw [hsz] at hl hb
  obtain ⟨a, cap, rfl, hc, hkl⟩ := hv.open_
  have hdm := hm.dlt
  have hsep := hm.sep
  have nx := alloc_new w (.cells #[.int .i64 kind, .int .u64 b0, .int .u64 b1, .int .u64 b2, .int .u64 b3, .slice a kids.length cap] 53)
  have NX := Lib.hid nx
  have F0 := Lib.hid (((Fr.refl none_ w).alloc (.cells #[.int .i64 kind, .int .u64 b0, .int .u64 b1, .int .u64 b2, .int .u64 b3, .slice a kids.length cap] 53)).none (S := fun k => k = dm ∨ S k))
  have HM := Lib.hid (hm.apart (.cells #[.int .i64 kind, .int .u64 b0, .int .u64 b1, .int .u64 b2, .int .u64 b3, .slice a kids.length cap] 53))
  have BX := Lib.hid (keepB_x (S := S) hdm)
  have BSEP := Lib.hid (show ∀ k, keepB S w k → dm < k from HM.out.sep)
  have BLOW := Lib.hid (show ∀ k, k < dm → ¬ (k = dm ∨ keepB S w k) from fun k hk => keepB_low hsep hdm hk)
  have HK := Lib.hid (RxL.move (w' := w.alloc (.cells #[.int .i64 kind, .int .u64 b0, .int .u64 b1, .int .u64 b2, .int .u64 b3, .slice a kids.length cap] 53)) (fun k _ hlt => Below.heap_alloc _ _ _ hlt) kids a 0 hkl)
  have hs0 : (w.alloc (.cells #[.int .i64 kind, .int .u64 b0, .int .u64 b1, .int .u64 b2, .int .u64 b3, .slice a kids.length cap] 53)).heap.size = w.heap.size + 1 := by simp
  have HN := Lib.hid hn
  have HSEP := Lib.hid hsep
  clear nx hm hv hkl hn hsep
  go_enter Tryz.func91, Tryz.ntmps91
  go_wp2_with fail
  refine (add_st dm (keepB S w) _ l starts HM.out (by omega)).mono ?_
  rintro e wa ⟨rfl, Ma, Fa⟩
  have hsa : w.heap.size + 1 ≤ wa.heap.size := by have := Fa.size; omega
  have MA := Lib.hid (Ma.keep (fun k hk => by rw [hs0] at hk; exact .inr hk) BSEP.out)
  have NXa := Lib.hid (Fa.at_ NX.out BX.out)
  have FA := Lib.hid (F0.out.save Fa)
  have HKa := Lib.hid (RxL.move (fun k hk hlt => Fa.block k hlt (BLOW.out k hk)) kids a 0 HK.out)
  have c0 : wa.cell? ⟨w.heap.size, 0, none⟩ = some (.int .i64 kind) := cell_of_block NXa.out rfl
  clear Ma Fa
  have e0 : (kind == 0) = false := by rw [beq_eq_false_iff_ne]; exact h0
  have e1 : (kind == 1) = false := by rw [beq_eq_false_iff_ne]; exact h1
  have e2 : (kind == 2) = false := by rw [beq_eq_false_iff_ne]; exact h2
  have e3 : (kind == 3) = false := by rw [beq_eq_false_iff_ne]; exact h3
  have e4 : (kind == 4) = false := by rw [beq_eq_false_iff_ne]; exact h4
  have hlay : (layM (.mk kind b0 b1 b2 b3 kids) l from_).1 = l ++ [St.none] := by simp [layM, h0, h1, h2, h3, h4]
  clear h0 h1 h2 h3 h4
  have HLAY := Lib.hid hlay
  clear hlay
  go_wp2_with fail
  go_ret
  rw [HLAY.out]
  exact ⟨rfl, MA.out.mono (fun k _ hk => by
    rcases hk with hk | hk
    · exact .inl hk.1
    · exact .inr (by omega)) (fun k hk => by
    rcases hk with hk | hk
    · exact HSEP.out k hk
    · omega), FA.out⟩
set_option maxRecDepth 100000 in
set_option maxHeartbeats 4000000 in
theorem lay_1 (b0 b1 b2 b3 : Nat) (kids : List Rx) : LayC (.mk 1 b0 b1 b2 b3 kids) := by
  intro dm S w l starts from_ n v hm hv hf hl hn hb
  have hsz : (Rx.mk 1 b0 b1 b2 b3 kids).size = 1 + Rx.sizes kids := by simp only [Rx.size]
  rw [hsz] at hl hb
  obtain ⟨a, cap, rfl, hc, hkl⟩ := hv.open_
  have hdm := hm.dlt
  have hsep := hm.sep
  have nx := alloc_new w (.cells #[.int .i64 1, .int .u64 b0, .int .u64 b1, .int .u64 b2, .int .u64 b3, .slice a kids.length cap] 53)
  have NX := Lib.hid nx
  have F0 := Lib.hid (((Fr.refl none_ w).alloc (.cells #[.int .i64 1, .int .u64 b0, .int .u64 b1, .int .u64 b2, .int .u64 b3, .slice a kids.length cap] 53)).none (S := fun k => k = dm ∨ S k))
  have HM := Lib.hid (hm.apart (.cells #[.int .i64 1, .int .u64 b0, .int .u64 b1, .int .u64 b2, .int .u64 b3, .slice a kids.length cap] 53))
  have BX := Lib.hid (keepB_x (S := S) hdm)
  have BSEP := Lib.hid (show ∀ k, keepB S w k → dm < k from HM.out.sep)
  have BLOW := Lib.hid (show ∀ k, k < dm → ¬ (k = dm ∨ keepB S w k) from fun k hk => keepB_low hsep hdm hk)
  have HK := Lib.hid (RxL.move (w' := w.alloc (.cells #[.int .i64 1, .int .u64 b0, .int .u64 b1, .int .u64 b2, .int .u64 b3, .slice a kids.length cap] 53)) (fun k _ hlt => Below.heap_alloc _ _ _ hlt) kids a 0 hkl)
  have hs0 : (w.alloc (.cells #[.int .i64 1, .int .u64 b0, .int .u64 b1, .int .u64 b2, .int .u64 b3, .slice a kids.length cap] 53)).heap.size = w.heap.size + 1 := by simp
  have HN := Lib.hid hn
  have HSEP := Lib.hid hsep
  clear nx hm hv hkl hn hsep
  go_enter Tryz.func91, Tryz.ntmps91
  go_wp2_with fail
  refine (add_st dm (keepB S w) _ l starts HM.out (by omega)).mono ?_
  rintro e wa ⟨rfl, Ma, Fa⟩
  have hsa : w.heap.size + 1 ≤ wa.heap.size := by have := Fa.size; omega
  have MA := Lib.hid (Ma.keep (fun k hk => by rw [hs0] at hk; exact .inr hk) BSEP.out)
  have NXa := Lib.hid (Fa.at_ NX.out BX.out)
  have FA := Lib.hid (F0.out.save Fa)
  have HKa := Lib.hid (RxL.move (fun k hk hlt => Fa.block k hlt (BLOW.out k hk)) kids a 0 HK.out)
  have c0 : wa.cell? ⟨w.heap.size, 0, none⟩ = some (.int .i64 1) := cell_of_block NXa.out rfl
  clear Ma Fa
  go_wp2_with fail
  obtain ⟨at_, hat_⟩ : ∃ at_ : Nat, (l ++ [St.none]).length = at_ := ⟨_, rfl⟩
  have Hat_ := Lib.hid hat_
  refine (add_stN dm (keepB S w) _ (l ++ [St.none]) starts at_ MA.out (by simp only [List.length_append, List.length_cons, List.length_nil, freeM_length, bytesM_length]; omega) hat_).mono ?_
  clear hat_
  rintro e wb ⟨rfl, Mb, Fb⟩
  have hsb : w.heap.size + 1 ≤ wb.heap.size := by have := Fb.size; omega
  have MMb := Lib.hid (Mb.keep (keepB_new (by omega)) BSEP.out)
  have NXb := Lib.hid (Fb.at_ NXa.out BX.out)
  have FFb := Lib.hid (FA.out.save Fb)
  have HKb := Lib.hid (RxL.move (fun k hk hlt => Fb.block k hlt (BLOW.out k hk)) _ _ _ HKa.out)
  clear Mb Fb
  go_wp2_with fail
  refine (free_st dm (keepB S w) _ (l ++ [St.none] ++ [St.none]) starts from_ at_ MMb.out (by simp only [List.length_append, List.length_cons, List.length_nil, freeM_length, bytesM_length]; omega) (by simp only [List.length_append, List.length_cons, List.length_nil, freeM_length, bytesM_length]; omega) ((HN.out.snoc.snoc).mono (by omega))).mono ?_
  rintro e wc ⟨rfl, Mc, Fc⟩
  have hsc : w.heap.size + 1 ≤ wc.heap.size := by have := Fc.size; omega
  have MMc := Lib.hid (Mc.keep (keepB_new (by omega)) BSEP.out)
  have NXc := Lib.hid (Fc.at_ NXb.out BX.out)
  have FFc := Lib.hid (FFb.out.save Fc)
  have HKc := Lib.hid (RxL.move (fun k hk hlt => Fc.block k hlt (BLOW.out k hk)) _ _ _ HKb.out)
  clear Mc Fc
  obtain ⟨z0, z1, z2, z3, z4, z5⟩ := six NXc.out
  go_wp2_with fail
  obtain ⟨vs, vt, fv, cells, hm⟩ := MMc.out
  obtain ⟨g, gcap, rfl, hg1, hg2⟩ := hm.form (by simp only [List.length_append, List.length_cons, List.length_nil, freeM_length]; omega)
  have hat : at_ < (freeM (l ++ [St.none] ++ [St.none]) from_ at_).length := by have := Hat_.out; simp only [List.length_append, List.length_cons, List.length_nil, freeM_length] at this ⊢; omega
  have y0 : wc.cell? ⟨dm, 0, none⟩ = some (.slice (some ⟨g, 0, none⟩) (freeM (l ++ [St.none] ++ [St.none]) from_ at_).length gcap) := cell_of_block hm.head rfl
  obtain ⟨st, hst⟩ := hm.at hat
  obtain ⟨cs, hcs, hcells⟩ := hm.data at_ st hst
  obtain ⟨k', q0, q1, q2, q3, qa, qc, hcs6⟩ : ∃ k' q0 q1 q2 q3 qa qc, cs = [.int .i64 k', .int .u64 (q0 : Nat), .int .u64 (q1 : Nat), .int .u64 (q2 : Nat), .int .u64 (q3 : Nat), .slice qa st.bytes.kids.length qc] := by
    cases hb : st.bytes with
    | mk k b0 b1 b2 b3 kids =>
    rw [hb] at hcs
    simp only [RxC] at hcs
    obtain ⟨a, cap, rfl, _⟩ := hcs
    exact ⟨_, _, _, _, _, _, _, rfl⟩
  subst hcs6
  have y : ∀ m u, m < 9 → (St.cells (fv at_) [.int .i64 k', .int .u64 (q0 : Nat), .int .u64 (q1 : Nat), .int .u64 (q2 : Nat), .int .u64 (q3 : Nat), .slice qa st.bytes.kids.length qc] st)[m]? = some u → wc.cell? ⟨g, at_ * 9 + m, none⟩ = some u := fun m u hm9 hu => by
    rw [hm.rows.cellAt (at_ * 9 + m) (by omega)]
    exact hcells m u hu
  have y1 := y 1 _ (by omega) rfl
  have y2 := y 2 _ (by omega) rfl
  have y3 := y 3 _ (by omega) rfl
  have y4 := y 4 _ (by omega) rfl
  have y5 := y 5 _ (by omega) rfl
  have y6 := y 6 _ (by omega) rfl
  have y7 := y 7 _ (by omega) rfl
  have yf : ∀ o, wc.frozen? ⟨g, o, none⟩ = false := fun o => hm.rows.frozenAt o
  have hxg : ¬ w.heap.size = g := fun e => BX.out (.inr (by rw [e]; exact hm.in1 g rfl))
  have hdg : ¬ dm = g := by omega
  have hat2 : (at_ : Int) < ((freeM (l ++ [St.none] ++ [St.none]) from_ at_).length : Int) := by omega
  have hat3 : (0 : Int) ≤ (at_ : Int) := by omega
  have HMD := Lib.hid hm
  generalize hL : (freeM (l ++ [St.none] ++ [St.none]) from_ at_) = L at *
  have HL := Lib.hid hL
  clear hL
  clear hm hst hcs hcells y c0
  go_region
  obtain ⟨L1, L2⟩ := HMD.out.byted hat (RxC.cells (k := 1) (b0 := b0) (b1 := b1) (b2 := b2) (b3 := b3) hc HKc.out) l.length
  have LX := FFc.out.save L2
  clear y0 y1 y2 y3 y4 y5 y6 y7 yf z0 z1 z2 z3 z4 z5 hxg hdg hat2 hat3 HMD HKc FFc
  have M9 := L1.keep (keepB_new (S := S) (by omega)) BSEP.out
  clear L1 L2
  generalize hW7 : (((((((wc.setCell ⟨g, at_ * 9 + 1, none⟩ (.int .i64 1)).setCell ⟨g, at_ * 9 + 2, none⟩ (.int .u64 b0)).setCell ⟨g, at_ * 9 + 3, none⟩ (.int .u64 b1)).setCell ⟨g, at_ * 9 + 4, none⟩ (.int .u64 b2)).setCell ⟨g, at_ * 9 + 5, none⟩ (.int .u64 b3)).setCell ⟨g, at_ * 9 + 6, none⟩ (.slice a kids.length cap)).setCell ⟨g, at_ * 9 + 7, none⟩ (.int .i64 l.length)) = W7 at *
  have M10 := Lib.hid M9
  have LX2 := Lib.hid LX
  clear hW7 M9 LX
  go_wp2_with fail
  go_ret
  have hlay : (layM (.mk 1 b0 b1 b2 b3 kids) l from_).1 = bytesM L at_ (.mk 1 b0 b1 b2 b3 kids) l.length := by
    rw [← HL.out, ← Hat_.out]
    simp [layM]
  rw [hlay]
  have M11 := M10.out.move (w' := W7.drew) ((Fr.refl none_ W7).drew) (fun _ h => h.elim)
  exact ⟨rfl, M11.mono (fun k _ hk => by
    rcases hk with hk | hk
    · exact .inl hk.1
    · exact .inr (by omega)) (fun k hk => by
    rcases hk with hk | hk
    · exact HSEP.out k hk
    · omega), LX2.out.drew⟩
set_option maxRecDepth 100000 in
set_option maxHeartbeats 4000000 in
theorem lay_4n (b0 b1 b2 b3 : Nat) : LayC (.mk 4 b0 b1 b2 b3 ([] : List Rx)) := by
  intro dm S w l starts from_ n v hm hv hf hl hn hb
  have hsz : (Rx.mk 4 b0 b1 b2 b3 ([] : List Rx)).size = 1 + Rx.sizes ([] : List Rx) := by simp only [Rx.size]
  rw [hsz] at hl hb
  obtain ⟨a, cap, rfl, hc, hkl⟩ := hv.open_
  have hdm := hm.dlt
  have hsep := hm.sep
  have nx := alloc_new w (.cells #[.int .i64 4, .int .u64 b0, .int .u64 b1, .int .u64 b2, .int .u64 b3, .slice a ([] : List Rx).length cap] 53)
  have NX := Lib.hid nx
  have F0 := Lib.hid (((Fr.refl none_ w).alloc (.cells #[.int .i64 4, .int .u64 b0, .int .u64 b1, .int .u64 b2, .int .u64 b3, .slice a ([] : List Rx).length cap] 53)).none (S := fun k => k = dm ∨ S k))
  have HM := Lib.hid (hm.apart (.cells #[.int .i64 4, .int .u64 b0, .int .u64 b1, .int .u64 b2, .int .u64 b3, .slice a ([] : List Rx).length cap] 53))
  have BX := Lib.hid (keepB_x (S := S) hdm)
  have BSEP := Lib.hid (show ∀ k, keepB S w k → dm < k from HM.out.sep)
  have BLOW := Lib.hid (show ∀ k, k < dm → ¬ (k = dm ∨ keepB S w k) from fun k hk => keepB_low hsep hdm hk)
  have HK := Lib.hid (RxL.move (w' := w.alloc (.cells #[.int .i64 4, .int .u64 b0, .int .u64 b1, .int .u64 b2, .int .u64 b3, .slice a ([] : List Rx).length cap] 53)) (fun k _ hlt => Below.heap_alloc _ _ _ hlt) ([] : List Rx) a 0 hkl)
  have hs0 : (w.alloc (.cells #[.int .i64 4, .int .u64 b0, .int .u64 b1, .int .u64 b2, .int .u64 b3, .slice a ([] : List Rx).length cap] 53)).heap.size = w.heap.size + 1 := by simp
  have HN := Lib.hid hn
  have HSEP := Lib.hid hsep
  clear nx hm hv hkl hn hsep
  go_enter Tryz.func91, Tryz.ntmps91
  go_wp2_with fail
  refine (add_st dm (keepB S w) _ l starts HM.out (by omega)).mono ?_
  rintro e wa ⟨rfl, Ma, Fa⟩
  have hsa : w.heap.size + 1 ≤ wa.heap.size := by have := Fa.size; omega
  have MA := Lib.hid (Ma.keep (fun k hk => by rw [hs0] at hk; exact .inr hk) BSEP.out)
  have NXa := Lib.hid (Fa.at_ NX.out BX.out)
  have FA := Lib.hid (F0.out.save Fa)
  have HKa := Lib.hid (RxL.move (fun k hk hlt => Fa.block k hlt (BLOW.out k hk)) ([] : List Rx) a 0 HK.out)
  have c0 : wa.cell? ⟨w.heap.size, 0, none⟩ = some (.int .i64 4) := cell_of_block NXa.out rfl
  clear Ma Fa
  go_wp2_with fail
  obtain ⟨loop, hloop⟩ : ∃ loop : Nat, (l ++ [St.none]).length = loop := ⟨_, rfl⟩
  have Hloop := Lib.hid hloop
  refine (add_stN dm (keepB S w) _ (l ++ [St.none]) starts loop MA.out (by simp only [List.length_append, List.length_cons, List.length_nil, freeM_length, bytesM_length]; omega) hloop).mono ?_
  clear hloop
  rintro e wb ⟨rfl, Mb, Fb⟩
  have hsb : w.heap.size + 1 ≤ wb.heap.size := by have := Fb.size; omega
  have MMb := Lib.hid (Mb.keep (keepB_new (by omega)) BSEP.out)
  have NXb := Lib.hid (Fb.at_ NXa.out BX.out)
  have FFb := Lib.hid (FA.out.save Fb)
  have HKb := Lib.hid (RxL.move (fun k hk hlt => Fb.block k hlt (BLOW.out k hk)) _ _ _ HKa.out)
  clear Mb Fb
  go_wp2_with fail
  refine (free_st dm (keepB S w) _ (l ++ [St.none] ++ [St.none]) starts from_ loop MMb.out (by simp only [List.length_append, List.length_cons, List.length_nil, freeM_length, bytesM_length]; omega) (by simp only [List.length_append, List.length_cons, List.length_nil, freeM_length, bytesM_length]; omega) ((HN.out.snoc.snoc).mono (by omega))).mono ?_
  rintro e wc ⟨rfl, Mc, Fc⟩
  have hsc : w.heap.size + 1 ≤ wc.heap.size := by have := Fc.size; omega
  have MMc := Lib.hid (Mc.keep (keepB_new (by omega)) BSEP.out)
  have NXc := Lib.hid (Fc.at_ NXb.out BX.out)
  have FFc := Lib.hid (FFb.out.save Fc)
  have HKc := Lib.hid (RxL.move (fun k hk hlt => Fc.block k hlt (BLOW.out k hk)) _ _ _ HKb.out)
  clear Mc Fc
  go_wp2_with fail
  refine (free_st dm (keepB S w) _ (freeM (l ++ [St.none] ++ [St.none]) from_ loop) starts loop l.length MMc.out (by have := Hloop.out; simp only [List.length_append, List.length_cons, List.length_nil, freeM_length] at this ⊢; omega) (by have := Hloop.out; simp only [List.length_append, List.length_cons, List.length_nil, freeM_length] at this ⊢; omega) (((HN.out.snoc.snoc).free _ _).mono (by omega))).mono ?_
  rintro e wd ⟨rfl, Md, Fd⟩
  have hsd : w.heap.size + 1 ≤ wd.heap.size := by have := Fd.size; omega
  have MMd := Lib.hid (Md.keep (keepB_new (by omega)) BSEP.out)
  have NXd := Lib.hid (Fd.at_ NXc.out BX.out)
  have FFd := Lib.hid (FFc.out.save Fd)
  have HKd := Lib.hid (RxL.move (fun k hk hlt => Fd.block k hlt (BLOW.out k hk)) _ _ _ HKc.out)
  clear Md Fd
  obtain ⟨z0, z1, z2, z3, z4, z5⟩ := six NXd.out
  go_wp2_with fail
  go_ret
  have hlay : (layM (.mk 4 b0 b1 b2 b3 []) l from_).1 = freeM (freeM (l ++ [St.none] ++ [St.none]) from_ loop) loop l.length := by simp [layM, headM, ← Hloop.out]
  rw [hlay]
  exact ⟨rfl, MMd.out.mono (fun k _ hk => by
    rcases hk with hk | hk
    · exact .inl hk.1
    · exact .inr (by omega)) (fun k hk => by
    rcases hk with hk | hk
    · exact HSEP.out k hk
    · omega), FFd.out⟩
set_option maxRecDepth 100000 in
set_option maxHeartbeats 4000000 in
theorem lay_4c (b0 b1 b2 b3 : Nat) (k : Int) (x0 x1 x2 x3 : Nat) (kk ks : List Rx) (ih : LayC (.mk k x0 x1 x2 x3 kk)) : LayC (.mk 4 b0 b1 b2 b3 (Rx.mk k x0 x1 x2 x3 kk :: ks)) := by
  intro dm S w l starts from_ n v hm hv hf hl hn hb
  have hsz : (Rx.mk 4 b0 b1 b2 b3 (Rx.mk k x0 x1 x2 x3 kk :: ks)).size = 1 + Rx.sizes (Rx.mk k x0 x1 x2 x3 kk :: ks) := by simp only [Rx.size]
  rw [hsz] at hl hb
  obtain ⟨a, cap, rfl, hc, hkl⟩ := hv.open_
  have hdm := hm.dlt
  have hsep := hm.sep
  have nx := alloc_new w (.cells #[.int .i64 4, .int .u64 b0, .int .u64 b1, .int .u64 b2, .int .u64 b3, .slice a (Rx.mk k x0 x1 x2 x3 kk :: ks).length cap] 53)
  have NX := Lib.hid nx
  have F0 := Lib.hid (((Fr.refl none_ w).alloc (.cells #[.int .i64 4, .int .u64 b0, .int .u64 b1, .int .u64 b2, .int .u64 b3, .slice a (Rx.mk k x0 x1 x2 x3 kk :: ks).length cap] 53)).none (S := fun k => k = dm ∨ S k))
  have HM := Lib.hid (hm.apart (.cells #[.int .i64 4, .int .u64 b0, .int .u64 b1, .int .u64 b2, .int .u64 b3, .slice a (Rx.mk k x0 x1 x2 x3 kk :: ks).length cap] 53))
  have BX := Lib.hid (keepB_x (S := S) hdm)
  have BSEP := Lib.hid (show ∀ k, keepB S w k → dm < k from HM.out.sep)
  have BLOW := Lib.hid (show ∀ k, k < dm → ¬ (k = dm ∨ keepB S w k) from fun k hk => keepB_low hsep hdm hk)
  have HK := Lib.hid (RxL.move (w' := w.alloc (.cells #[.int .i64 4, .int .u64 b0, .int .u64 b1, .int .u64 b2, .int .u64 b3, .slice a (Rx.mk k x0 x1 x2 x3 kk :: ks).length cap] 53)) (fun k _ hlt => Below.heap_alloc _ _ _ hlt) (Rx.mk k x0 x1 x2 x3 kk :: ks) a 0 hkl)
  have hs0 : (w.alloc (.cells #[.int .i64 4, .int .u64 b0, .int .u64 b1, .int .u64 b2, .int .u64 b3, .slice a (Rx.mk k x0 x1 x2 x3 kk :: ks).length cap] 53)).heap.size = w.heap.size + 1 := by simp
  have HN := Lib.hid hn
  have HSEP := Lib.hid hsep
  clear nx hm hv hkl hn hsep
  go_enter Tryz.func91, Tryz.ntmps91
  go_wp2_with fail
  refine (add_st dm (keepB S w) _ l starts HM.out (by omega)).mono ?_
  rintro e wa ⟨rfl, Ma, Fa⟩
  have hsa : w.heap.size + 1 ≤ wa.heap.size := by have := Fa.size; omega
  have MA := Lib.hid (Ma.keep (fun k hk => by rw [hs0] at hk; exact .inr hk) BSEP.out)
  have NXa := Lib.hid (Fa.at_ NX.out BX.out)
  have FA := Lib.hid (F0.out.save Fa)
  have HKa := Lib.hid (RxL.move (fun k hk hlt => Fa.block k hlt (BLOW.out k hk)) (Rx.mk k x0 x1 x2 x3 kk :: ks) a 0 HK.out)
  have c0 : wa.cell? ⟨w.heap.size, 0, none⟩ = some (.int .i64 4) := cell_of_block NXa.out rfl
  clear Ma Fa
  go_wp2_with fail
  obtain ⟨loop, hloop⟩ : ∃ loop : Nat, (l ++ [St.none]).length = loop := ⟨_, rfl⟩
  have Hloop := Lib.hid hloop
  refine (add_stN dm (keepB S w) _ (l ++ [St.none]) starts loop MA.out (by simp only [List.length_append, List.length_cons, List.length_nil, freeM_length, bytesM_length]; omega) hloop).mono ?_
  clear hloop
  rintro e wb ⟨rfl, Mb, Fb⟩
  have hsb : w.heap.size + 1 ≤ wb.heap.size := by have := Fb.size; omega
  have MMb := Lib.hid (Mb.keep (keepB_new (by omega)) BSEP.out)
  have NXb := Lib.hid (Fb.at_ NXa.out BX.out)
  have FFb := Lib.hid (FA.out.save Fb)
  have HKb := Lib.hid (RxL.move (fun k hk hlt => Fb.block k hlt (BLOW.out k hk)) _ _ _ HKa.out)
  clear Mb Fb
  go_wp2_with fail
  refine (free_st dm (keepB S w) _ (l ++ [St.none] ++ [St.none]) starts from_ loop MMb.out (by simp only [List.length_append, List.length_cons, List.length_nil, freeM_length, bytesM_length]; omega) (by simp only [List.length_append, List.length_cons, List.length_nil, freeM_length, bytesM_length]; omega) ((HN.out.snoc.snoc).mono (by omega))).mono ?_
  rintro e wc ⟨rfl, Mc, Fc⟩
  have hsc : w.heap.size + 1 ≤ wc.heap.size := by have := Fc.size; omega
  have MMc := Lib.hid (Mc.keep (keepB_new (by omega)) BSEP.out)
  have NXc := Lib.hid (Fc.at_ NXb.out BX.out)
  have FFc := Lib.hid (FFb.out.save Fc)
  have HKc := Lib.hid (RxL.move (fun k hk hlt => Fc.block k hlt (BLOW.out k hk)) _ _ _ HKb.out)
  clear Mc Fc
  go_wp2_with fail
  refine (free_st dm (keepB S w) _ (freeM (l ++ [St.none] ++ [St.none]) from_ loop) starts loop l.length MMc.out (by have := Hloop.out; simp only [List.length_append, List.length_cons, List.length_nil, freeM_length] at this ⊢; omega) (by have := Hloop.out; simp only [List.length_append, List.length_cons, List.length_nil, freeM_length] at this ⊢; omega) (((HN.out.snoc.snoc).free _ _).mono (by omega))).mono ?_
  rintro e wd ⟨rfl, Md, Fd⟩
  have hsd : w.heap.size + 1 ≤ wd.heap.size := by have := Fd.size; omega
  have MMd := Lib.hid (Md.keep (keepB_new (by omega)) BSEP.out)
  have NXd := Lib.hid (Fd.at_ NXc.out BX.out)
  have FFd := Lib.hid (FFc.out.save Fd)
  have HKd := Lib.hid (RxL.move (fun k hk hlt => Fd.block k hlt (BLOW.out k hk)) _ _ _ HKc.out)
  clear Md Fd
  obtain ⟨z0, z1, z2, z3, z4, z5⟩ := six NXd.out
  obtain ⟨ad, a', cap', rfl, hok, y0, y1, y2, y3, y4, y5, hc', hl'⟩ := HKd.out.elem (i := 0) rfl
  have ha0 : ad.add (0 * 6) = ad := by simp [Addr.add]
  rw [ha0] at y0 y1 y2 y3 y4 y5
  clear ha0
  have HL' := Lib.hid hl'
  have hks : Rx.sizes (Rx.mk k x0 x1 x2 x3 kk :: ks) = (Rx.mk k x0 x1 x2 x3 kk).size + Rx.sizes ks := by simp only [Rx.sizes]
  have HKS := Lib.hid hks
  have HIH := Lib.hid ih
  clear hl' hks ih
  go_wp2_with fail
  have HF4 := Lib.hid (layM_facts (.mk k x0 x1 x2 x3 kk) (freeM (freeM (l ++ [St.none] ++ [St.none]) from_ loop) loop l.length) loop)
  obtain ⟨e1, he1⟩ : ∃ e1 : Nat, (freeM (freeM (l ++ [St.none] ++ [St.none]) from_ loop) loop l.length).length = e1 := ⟨_, rfl⟩
  have He1 := Lib.hid he1
  refine (LayC.call HIH.out e1 he1 MMd.out (RxV.mk_ hc' HL'.out) (by have g1 := Hloop.out; have g2 := HKS.out; simp only [List.length_append, List.length_cons, List.length_nil, freeM_length] at g1 ⊢; omega) (by have g1 := Hloop.out; have g2 := HKS.out; simp only [List.length_append, List.length_cons, List.length_nil, freeM_length] at g1 ⊢; omega) (((HN.out.snoc.snoc).free _ _).free _ _) (by have g1 := Hloop.out; have g2 := HKS.out; simp only [List.length_append, List.length_cons, List.length_nil, freeM_length] at g1 ⊢; omega)).mono ?_
  clear he1
  rintro e we ⟨rfl, Me, Fe⟩
  have hse : w.heap.size + 1 ≤ we.heap.size := by have := Fe.size; omega
  have MMe := Lib.hid (Me.keep (keepB_new (by omega)) BSEP.out)
  have NXe := Lib.hid (Fe.at_ NXd.out BX.out)
  have FFe := Lib.hid (FFd.out.save Fe)
  have HKe := Lib.hid (RxL.move (fun k hk hlt => Fe.block k hlt (BLOW.out k hk)) _ _ _ HKd.out)
  clear Me Fe
  go_wp2_with fail
  have hsh := HF4.out.2.2.2 _ (((HN.out.snoc.snoc).free from_ loop).free loop l.length)
  have HSH := Lib.hid (hsh.mono (m := 50000) (by have g2 := HKS.out; omega))
  clear hsh
  refine (free_st dm (keepB S w) _ ((layM (.mk k x0 x1 x2 x3 kk) (freeM (freeM (l ++ [St.none] ++ [St.none]) from_ loop) loop l.length) loop).1) starts e1 loop MMe.out (by have g1 := Hloop.out; have g2 := HKS.out; have g3 := HF4.out; have g4 := He1.out; simp only [List.length_append, List.length_cons, List.length_nil, freeM_length] at g1 g3 g4 ⊢; omega) (by have g1 := Hloop.out; have g2 := HKS.out; have g3 := HF4.out; have g4 := He1.out; simp only [List.length_append, List.length_cons, List.length_nil, freeM_length] at g1 g3 g4 ⊢; omega) ((HSH.out).mono (by omega))).mono ?_
  rintro e wf ⟨rfl, Mf, Ff⟩
  have hsf : w.heap.size + 1 ≤ wf.heap.size := by have := Ff.size; omega
  have MMf := Lib.hid (Mf.keep (keepB_new (by omega)) BSEP.out)
  have NXf := Lib.hid (Ff.at_ NXe.out BX.out)
  have FFf := Lib.hid (FFe.out.save Ff)
  have HKf := Lib.hid (RxL.move (fun k hk hlt => Ff.block k hlt (BLOW.out k hk)) _ _ _ HKe.out)
  clear Mf Ff
  go_wp2_with fail
  go_ret
  have hlay : (layM (.mk 4 b0 b1 b2 b3 (Rx.mk k x0 x1 x2 x3 kk :: ks)) l from_).1 = freeM (layM (.mk k x0 x1 x2 x3 kk) (freeM (freeM (l ++ [St.none] ++ [St.none]) from_ loop) loop l.length) loop).1 e1 loop := by
    rw [← He1.out, ← HF4.out.2.2.1, ← Hloop.out]
    simp [layM, headM]
  rw [hlay]
  exact ⟨rfl, MMf.out.mono (fun k _ hk => by
    rcases hk with hk | hk
    · exact .inl hk.1
    · exact .inr (by omega)) (fun k hk => by
    rcases hk with hk | hk
    · exact HSEP.out k hk
    · omega), FFf.out⟩
set_option maxRecDepth 100000 in
set_option maxHeartbeats 4000000 in
theorem lay_2 (b0 b1 b2 b3 : Nat) (kids : List Rx) (ih : ∀ r ∈ kids, LayC r) : LayC (.mk 2 b0 b1 b2 b3 kids) := by
  intro dm S w l starts from_ n v hm hv hf hl hn hb
  have hsz : (Rx.mk 2 b0 b1 b2 b3 kids).size = 1 + Rx.sizes kids := by simp only [Rx.size]
  rw [hsz] at hl hb
  obtain ⟨a, cap, rfl, hc, hkl⟩ := hv.open_
  have hdm := hm.dlt
  have hsep := hm.sep
  have nx := alloc_new w (.cells #[.int .i64 2, .int .u64 b0, .int .u64 b1, .int .u64 b2, .int .u64 b3, .slice a kids.length cap] 53)
  have NX := Lib.hid nx
  have F0 := Lib.hid (((Fr.refl none_ w).alloc (.cells #[.int .i64 2, .int .u64 b0, .int .u64 b1, .int .u64 b2, .int .u64 b3, .slice a kids.length cap] 53)).none (S := fun k => k = dm ∨ S k))
  have HM := Lib.hid (hm.apart (.cells #[.int .i64 2, .int .u64 b0, .int .u64 b1, .int .u64 b2, .int .u64 b3, .slice a kids.length cap] 53))
  have BX := Lib.hid (keepB_x (S := S) hdm)
  have BSEP := Lib.hid (show ∀ k, keepB S w k → dm < k from HM.out.sep)
  have BLOW := Lib.hid (show ∀ k, k < dm → ¬ (k = dm ∨ keepB S w k) from fun k hk => keepB_low hsep hdm hk)
  have HK := Lib.hid (RxL.move (w' := w.alloc (.cells #[.int .i64 2, .int .u64 b0, .int .u64 b1, .int .u64 b2, .int .u64 b3, .slice a kids.length cap] 53)) (fun k _ hlt => Below.heap_alloc _ _ _ hlt) kids a 0 hkl)
  have hs0 : (w.alloc (.cells #[.int .i64 2, .int .u64 b0, .int .u64 b1, .int .u64 b2, .int .u64 b3, .slice a kids.length cap] 53)).heap.size = w.heap.size + 1 := by simp
  have HN := Lib.hid hn
  have HSEP := Lib.hid hsep
  clear nx hm hv hkl hn hsep
  go_enter Tryz.func91, Tryz.ntmps91
  go_wp2_with fail
  refine (add_st dm (keepB S w) _ l starts HM.out (by omega)).mono ?_
  rintro e wa ⟨rfl, Ma, Fa⟩
  have hsa : w.heap.size + 1 ≤ wa.heap.size := by have := Fa.size; omega
  have MA := Lib.hid (Ma.keep (fun k hk => by rw [hs0] at hk; exact .inr hk) BSEP.out)
  have NXa := Lib.hid (Fa.at_ NX.out BX.out)
  have FA := Lib.hid (F0.out.save Fa)
  have HKa := Lib.hid (RxL.move (fun k hk hlt => Fa.block k hlt (BLOW.out k hk)) kids a 0 HK.out)
  have c0 : wa.cell? ⟨w.heap.size, 0, none⟩ = some (.int .i64 2) := cell_of_block NXa.out rfl
  clear Ma Fa
  obtain ⟨z0, z1, z2, z3, z4, z5⟩ := six NXa.out
  have HIH := Lib.hid ih
  clear ih
  have hlen : kids.length ≤ 25000 := by have := Rx.length_le kids; omega
  go_wp2_with fail
  go_loopw [2, 53] (fun f x wr => ∃ i : Nat, i ≤ kids.length ∧ x = .int .i64 i ∧ ∃ N : Nat, Aside ((catM (kids.take i) (l ++ [St.none]) from_).2 = N) ∧ f = .int .i64 N ∧ Aside (Mach dm (keepB S w) wr (catM (kids.take i) (l ++ [St.none]) from_).1 starts) ∧
        Aside (wr.heap[w.heap.size]? = some (.cells #[.int .i64 2, .int .u64 b0, .int .u64 b1, .int .u64 b2, .int .u64 b3, .slice a kids.length cap] 53 (0, 0))) ∧ Aside (Fr (fun k => k = dm ∨ S k) w wr) ∧ Aside (RxL (fun k => k < dm) wr a 0 kids) ∧ Aside (w.heap.size + 1 ≤ wr.heap.size)) (fun _ x _ => kids.length - (intOf x).toNat)
  case atStart => exact ⟨0, Nat.zero_le _, rfl, from_, rfl, rfl, MA.out, NXa.out, FA.out, HKa.out, hsa⟩
  case round =>
    obtain ⟨i, hi, rfl, N, hN, rfl, hM, hNX, hFF, hHK, hsr⟩ := hrel
    have HNN := Lib.hid hN.out
    have MR := Lib.hid hM.out
    have NXr := Lib.hid hNX.out
    have FR := Lib.hid hFF.out
    have HKr := Lib.hid hHK.out
    have HSR := Lib.hid hsr.out
    clear hN hM hNX hFF hHK hsr z0 z1 z2 z3 z4 z5
    have HCF := Lib.hid (catM_facts (kids.take i) (l ++ [St.none]) from_)
    have hsle := Rx.sizes_le kids i
    have HSL := Lib.hid hsle
    clear hsle
    by_cases hlt : i < kids.length
    · obtain ⟨k, x0, x1, x2, x3, kk, hk'⟩ : ∃ k x0 x1 x2 x3 kk, kids[i] = Rx.mk k x0 x1 x2 x3 kk := by
        cases kids[i]; exact ⟨_, _, _, _, _, _, rfl⟩
      have hki : kids[i]? = some (Rx.mk k x0 x1 x2 x3 kk) := by rw [List.getElem?_eq_getElem hlt, hk']
      have htake : kids.take (i + 1) = kids.take i ++ [Rx.mk k x0 x1 x2 x3 kk] := by
        rw [List.take_add_one, hki]; rfl
      have HTAKE := Lib.hid htake
      obtain ⟨ad, a', cap', rfl, hok, y0, y1, y2, y3, y4, y5, hc', hl'⟩ := HKr.out.elem hki
      have hsum := Rx.sizes_take_succ kids i _ hki
      have hle := Rx.sizes_le kids (i + 1)
      have hsz2 : Rx.sizes (kids.take i) + (Rx.mk k x0 x1 x2 x3 kk).size ≤ Rx.sizes kids := by omega
      have HSZ := Lib.hid hsz2
      have HL' := Lib.hid hl'
      have HMEM := Lib.hid (List.mem_of_getElem? hki)
      clear hk' hki hl' hsum hle htake hsz2
      go_wp2_with fail
      have MRa := Lib.hid (MR.out.alloc (.cells #[.int .i64 k, .int .u64 x0, .int .u64 x1, .int .u64 x2, .int .u64 x3, .slice a' kk.length cap'] 53))
      have FRa := Lib.hid (FR.out.alloc (.cells #[.int .i64 k, .int .u64 x0, .int .u64 x1, .int .u64 x2, .int .u64 x3, .slice a' kk.length cap'] 53))
      have NXra := Lib.hid (((Fr.refl none_ wr).alloc (.cells #[.int .i64 k, .int .u64 x0, .int .u64 x1, .int .u64 x2, .int .u64 x3, .slice a' kk.length cap'] 53)).at_ NXr.out (fun h => h))
      have HKra := Lib.hid (RxL.move (w' := wr.alloc (.cells #[.int .i64 k, .int .u64 x0, .int .u64 x1, .int .u64 x2, .int .u64 x3, .slice a' kk.length cap'] 53)) (fun k _ hlt => Below.heap_alloc _ _ _ hlt) _ _ _ HKr.out)
      have HL2 := Lib.hid (RxL.move (w' := wr.alloc (.cells #[.int .i64 k, .int .u64 x0, .int .u64 x1, .int .u64 x2, .int .u64 x3, .slice a' kk.length cap'] 53)) (fun k _ hlt => Below.heap_alloc _ _ _ hlt) _ _ _ HL'.out)
      have hsra : w.heap.size + 1 ≤ (wr.alloc (.cells #[.int .i64 k, .int .u64 x0, .int .u64 x1, .int .u64 x2, .int .u64 x3, .slice a' kk.length cap'] 53)).heap.size := by have := HSR.out; simp; omega
      clear HL'
      have HLT := Lib.hid (show N < (catM (kids.take i) (l ++ [St.none]) from_).1.length by
        rw [← HNN.out]
        exact catM_lt _ _ _ (by simp; omega))
      obtain ⟨e1, he1⟩ : ∃ e1 : Nat, ((catM (kids.take i) (l ++ [St.none]) from_).1).length = e1 := ⟨_, rfl⟩
      have He1 := Lib.hid he1
      refine (LayC.call (HIH.out _ HMEM.out) e1 he1 MRa.out (RxV.mk_ hc' HL2.out) (by exact HLT.out) (by have g2 := HSZ.out; have g3 := HCF.out; have g4 := Rx.size_pos (.mk k x0 x1 x2 x3 kk); simp only [List.length_append, List.length_cons, List.length_nil] at g3 ⊢; omega) (HCF.out.2.2 _ HN.out.snoc) (by have g2 := HSZ.out; have g3 := HCF.out; have g4 := Rx.size_pos (.mk k x0 x1 x2 x3 kk); simp only [List.length_append, List.length_cons, List.length_nil] at g3 ⊢; omega)).mono ?_
      clear he1
      rintro e we ⟨rfl, Me, Fe⟩
      have hse : w.heap.size + 1 ≤ we.heap.size := by have := Fe.size; omega
      have MMe := Lib.hid (Me.keep (keepB_new (by omega)) BSEP.out)
      have NXe := Lib.hid (Fe.at_ NXra.out BX.out)
      have FFe := Lib.hid (FRa.out.save Fe)
      have HKe := Lib.hid (RxL.move (fun k hk hlt => Fe.block k hlt (BLOW.out k hk)) _ _ _ HKra.out)
      clear Me Fe
      go_wp2_with fail
      have hcat : catM (kids.take (i + 1)) (l ++ [St.none]) from_ = layM (.mk k x0 x1 x2 x3 kk) (catM (kids.take i) (l ++ [St.none]) from_).1 N := by
        rw [HTAKE.out, catM_snoc, HNN.out]
      have HCAT := Lib.hid hcat
      clear hcat
      go_roundw
      case rel =>
        refine ⟨i + 1, by omega, rfl, e1, ?_, rfl, ?_, NXe.out, FFe.out, HKe.out, hse⟩
        · show _ = e1
          rw [HCAT.out, ← He1.out]
          exact (layM_facts _ _ _).2.2.1
        · show Mach dm (keepB S w) we _ starts
          rw [HCAT.out]
          exact MMe.out
      case measure => simp [intOf]; omega
    · obtain rfl : i = kids.length := by omega
      have H : kids.take kids.length = kids := List.take_length
      have HNN2 := Lib.hid (show (catM kids (l ++ [St.none]) from_).2 = N by have := HNN.out; rwa [H] at this)
      have MR2 := Lib.hid (show Mach dm (keepB S w) wr (catM kids (l ++ [St.none]) from_).1 starts by have := MR.out; rwa [H] at this)
      have HCF2 := Lib.hid (catM_facts kids (l ++ [St.none]) from_)
      clear H MR HNN
      have hsr := HSR.out
      have HLT := Lib.hid (show N < (catM kids (l ++ [St.none]) from_).1.length by
        rw [← HNN2.out]
        exact catM_lt _ _ _ (by simp; omega))
      go_wp2_with fail
      refine (free_st dm (keepB S w) _ ((catM kids (l ++ [St.none]) from_).1) starts N l.length MR2.out (by have g3 := HCF2.out; simp only [List.length_append, List.length_cons, List.length_nil] at g3 ⊢; omega) (by exact HLT.out) ((HCF2.out.2.2 _ HN.out.snoc).mono (by have g3 := HCF2.out; simp only [List.length_append, List.length_cons, List.length_nil] at g3 ⊢; omega))).mono ?_
      rintro e wf ⟨rfl, Mf, Ff⟩
      have hsf : w.heap.size + 1 ≤ wf.heap.size := by have := Ff.size; omega
      have MMf := Lib.hid (Mf.keep (keepB_new (by omega)) BSEP.out)
      have NXf := Lib.hid (Ff.at_ NXr.out BX.out)
      have FFf := Lib.hid (FR.out.save Ff)
      have HKf := Lib.hid (RxL.move (fun k hk hlt => Ff.block k hlt (BLOW.out k hk)) _ _ _ HKr.out)
      clear Mf Ff
      go_wp2_with fail
      go_ret
      have hlay : (layM (.mk 2 b0 b1 b2 b3 kids) l from_).1 = freeM (catM kids (l ++ [St.none]) from_).1 N l.length := by
        rw [← HNN2.out]
        simp [layM]
      rw [hlay]
      exact ⟨rfl, MMf.out.mono (fun k _ hk => by
        rcases hk with hk | hk
        · exact .inl hk.1
        · exact .inr (by omega)) (fun k hk => by
        rcases hk with hk | hk
        · exact HSEP.out k hk
        · omega), FFf.out⟩
set_option maxRecDepth 100000 in
set_option maxHeartbeats 4000000 in
theorem lay_3 (b0 b1 b2 b3 : Nat) (kids : List Rx) (ih : ∀ r ∈ kids, LayC r) : LayC (.mk 3 b0 b1 b2 b3 kids) := by
  intro dm S w l starts from_ n v hm hv hf hl hn hb
  have hsz : (Rx.mk 3 b0 b1 b2 b3 kids).size = 1 + Rx.sizes kids := by simp only [Rx.size]
  rw [hsz] at hl hb
  obtain ⟨a, cap, rfl, hc, hkl⟩ := hv.open_
  have hdm := hm.dlt
  have hsep := hm.sep
  have nx := alloc_new w (.cells #[.int .i64 3, .int .u64 b0, .int .u64 b1, .int .u64 b2, .int .u64 b3, .slice a kids.length cap] 53)
  have NX := Lib.hid nx
  have F0 := Lib.hid (((Fr.refl none_ w).alloc (.cells #[.int .i64 3, .int .u64 b0, .int .u64 b1, .int .u64 b2, .int .u64 b3, .slice a kids.length cap] 53)).none (S := fun k => k = dm ∨ S k))
  have HM := Lib.hid (hm.apart (.cells #[.int .i64 3, .int .u64 b0, .int .u64 b1, .int .u64 b2, .int .u64 b3, .slice a kids.length cap] 53))
  have BX := Lib.hid (keepB_x (S := S) hdm)
  have BSEP := Lib.hid (show ∀ k, keepB S w k → dm < k from HM.out.sep)
  have BLOW := Lib.hid (show ∀ k, k < dm → ¬ (k = dm ∨ keepB S w k) from fun k hk => keepB_low hsep hdm hk)
  have HK := Lib.hid (RxL.move (w' := w.alloc (.cells #[.int .i64 3, .int .u64 b0, .int .u64 b1, .int .u64 b2, .int .u64 b3, .slice a kids.length cap] 53)) (fun k _ hlt => Below.heap_alloc _ _ _ hlt) kids a 0 hkl)
  have hs0 : (w.alloc (.cells #[.int .i64 3, .int .u64 b0, .int .u64 b1, .int .u64 b2, .int .u64 b3, .slice a kids.length cap] 53)).heap.size = w.heap.size + 1 := by simp
  have HN := Lib.hid hn
  have HSEP := Lib.hid hsep
  clear nx hm hv hkl hn hsep
  go_enter Tryz.func91, Tryz.ntmps91
  go_wp2_with fail
  refine (add_st dm (keepB S w) _ l starts HM.out (by omega)).mono ?_
  rintro e wa ⟨rfl, Ma, Fa⟩
  have hsa : w.heap.size + 1 ≤ wa.heap.size := by have := Fa.size; omega
  have MA := Lib.hid (Ma.keep (fun k hk => by rw [hs0] at hk; exact .inr hk) BSEP.out)
  have NXa := Lib.hid (Fa.at_ NX.out BX.out)
  have FA := Lib.hid (F0.out.save Fa)
  have HKa := Lib.hid (RxL.move (fun k hk hlt => Fa.block k hlt (BLOW.out k hk)) kids a 0 HK.out)
  have c0 : wa.cell? ⟨w.heap.size, 0, none⟩ = some (.int .i64 3) := cell_of_block NXa.out rfl
  clear Ma Fa
  obtain ⟨z0, z1, z2, z3, z4, z5⟩ := six NXa.out
  have HIH := Lib.hid ih
  clear ih
  have hlen : kids.length ≤ 25000 := by have := Rx.length_le kids; omega
  go_wp2_with fail
  go_loopw [71] (fun x wr => ∃ i : Nat, i ≤ kids.length ∧ x = .int .i64 i ∧ ∃ N : Nat, Aside (N = 0) ∧ True ∧ Aside (Mach dm (keepB S w) wr (altM (kids.take i) (l ++ [St.none]) from_ l.length) starts) ∧
        Aside (wr.heap[w.heap.size]? = some (.cells #[.int .i64 3, .int .u64 b0, .int .u64 b1, .int .u64 b2, .int .u64 b3, .slice a kids.length cap] 53 (0, 0))) ∧ Aside (Fr (fun k => k = dm ∨ S k) w wr) ∧ Aside (RxL (fun k => k < dm) wr a 0 kids) ∧ Aside (w.heap.size + 1 ≤ wr.heap.size)) (fun x _ => kids.length - (intOf x).toNat)
  case atStart => exact ⟨0, Nat.zero_le _, rfl, 0, rfl, trivial, MA.out, NXa.out, FA.out, HKa.out, hsa⟩
  case round =>
    obtain ⟨i, hi, rfl, N, hN, _, hM, hNX, hFF, hHK, hsr⟩ := hrel
    have HNN := Lib.hid hN.out
    have MR := Lib.hid hM.out
    have NXr := Lib.hid hNX.out
    have FR := Lib.hid hFF.out
    have HKr := Lib.hid hHK.out
    have HSR := Lib.hid hsr.out
    clear hN hM hNX hFF hHK hsr z0 z1 z2 z3 z4 z5
    have HCF := Lib.hid (altM_facts (kids.take i) (l ++ [St.none]) from_ l.length)
    have hsle := Rx.sizes_le kids i
    have HSL := Lib.hid hsle
    clear hsle
    by_cases hlt : i < kids.length
    · obtain ⟨k, x0, x1, x2, x3, kk, hk'⟩ : ∃ k x0 x1 x2 x3 kk, kids[i] = Rx.mk k x0 x1 x2 x3 kk := by
        cases kids[i]; exact ⟨_, _, _, _, _, _, rfl⟩
      have hki : kids[i]? = some (Rx.mk k x0 x1 x2 x3 kk) := by rw [List.getElem?_eq_getElem hlt, hk']
      have htake : kids.take (i + 1) = kids.take i ++ [Rx.mk k x0 x1 x2 x3 kk] := by
        rw [List.take_add_one, hki]; rfl
      have HTAKE := Lib.hid htake
      obtain ⟨ad, a', cap', rfl, hok, y0, y1, y2, y3, y4, y5, hc', hl'⟩ := HKr.out.elem hki
      have hsum := Rx.sizes_take_succ kids i _ hki
      have hle := Rx.sizes_le kids (i + 1)
      have hsz2 : Rx.sizes (kids.take i) + (Rx.mk k x0 x1 x2 x3 kk).size ≤ Rx.sizes kids := by omega
      have HSZ := Lib.hid hsz2
      have HL' := Lib.hid hl'
      have HMEM := Lib.hid (List.mem_of_getElem? hki)
      clear hk' hki hl' hsum hle htake hsz2
      go_wp2_with fail
      have MRa := Lib.hid (MR.out.alloc (.cells #[.int .i64 k, .int .u64 x0, .int .u64 x1, .int .u64 x2, .int .u64 x3, .slice a' kk.length cap'] 53))
      have FRa := Lib.hid (FR.out.alloc (.cells #[.int .i64 k, .int .u64 x0, .int .u64 x1, .int .u64 x2, .int .u64 x3, .slice a' kk.length cap'] 53))
      have NXra := Lib.hid (((Fr.refl none_ wr).alloc (.cells #[.int .i64 k, .int .u64 x0, .int .u64 x1, .int .u64 x2, .int .u64 x3, .slice a' kk.length cap'] 53)).at_ NXr.out (fun h => h))
      have HKra := Lib.hid (RxL.move (w' := wr.alloc (.cells #[.int .i64 k, .int .u64 x0, .int .u64 x1, .int .u64 x2, .int .u64 x3, .slice a' kk.length cap'] 53)) (fun k _ hlt => Below.heap_alloc _ _ _ hlt) _ _ _ HKr.out)
      have HL2 := Lib.hid (RxL.move (w' := wr.alloc (.cells #[.int .i64 k, .int .u64 x0, .int .u64 x1, .int .u64 x2, .int .u64 x3, .slice a' kk.length cap'] 53)) (fun k _ hlt => Below.heap_alloc _ _ _ hlt) _ _ _ HL'.out)
      have hsra : w.heap.size + 1 ≤ (wr.alloc (.cells #[.int .i64 k, .int .u64 x0, .int .u64 x1, .int .u64 x2, .int .u64 x3, .slice a' kk.length cap'] 53)).heap.size := by have := HSR.out; simp; omega
      clear HL'
      obtain ⟨e1, he1⟩ : ∃ e1 : Nat, ((altM (kids.take i) (l ++ [St.none]) from_ l.length)).length = e1 := ⟨_, rfl⟩
      have He1 := Lib.hid he1
      refine (LayC.call (HIH.out _ HMEM.out) e1 he1 MRa.out (RxV.mk_ hc' HL2.out) (by have g3 := HCF.out; simp only [List.length_append, List.length_cons, List.length_nil] at g3 ⊢; omega) (by have g2 := HSZ.out; have g3 := HCF.out; have g4 := Rx.size_pos (.mk k x0 x1 x2 x3 kk); simp only [List.length_append, List.length_cons, List.length_nil] at g3 ⊢; omega) (HCF.out.2.2 _ HN.out.snoc) (by have g2 := HSZ.out; have g3 := HCF.out; have g4 := Rx.size_pos (.mk k x0 x1 x2 x3 kk); simp only [List.length_append, List.length_cons, List.length_nil] at g3 ⊢; omega)).mono ?_
      clear he1
      rintro e we ⟨rfl, Me, Fe⟩
      have hse : w.heap.size + 1 ≤ we.heap.size := by have := Fe.size; omega
      have MMe := Lib.hid (Me.keep (keepB_new (by omega)) BSEP.out)
      have NXe := Lib.hid (Fe.at_ NXra.out BX.out)
      have FFe := Lib.hid (FRa.out.save Fe)
      have HKe := Lib.hid (RxL.move (fun k hk hlt => Fe.block k hlt (BLOW.out k hk)) _ _ _ HKra.out)
      clear Me Fe
      have HLF := Lib.hid (layM_facts (.mk k x0 x1 x2 x3 kk) (altM (kids.take i) (l ++ [St.none]) from_ l.length) from_)
      have hsh := HLF.out.2.2.2 _ (HCF.out.2.2 _ HN.out.snoc)
      have HSH := Lib.hid (hsh.mono (m := 50000) (by have g2 := HSZ.out; omega))
      clear hsh
      go_wp2_with fail
      refine (free_st dm (keepB S w) _ ((layM (.mk k x0 x1 x2 x3 kk) (altM (kids.take i) (l ++ [St.none]) from_ l.length) from_).1) starts e1 l.length MMe.out (by have g2 := HSZ.out; have g3 := HCF.out; have g5 := HLF.out; have g6 := He1.out; simp only [List.length_append, List.length_cons, List.length_nil] at g3 ⊢; omega) (by have g2 := HSZ.out; have g3 := HCF.out; have g5 := HLF.out; have g6 := He1.out; simp only [List.length_append, List.length_cons, List.length_nil] at g3 ⊢; omega) ((HSH.out).mono (by have g2 := HSZ.out; have g3 := HCF.out; have g5 := HLF.out; have g6 := He1.out; simp only [List.length_append, List.length_cons, List.length_nil] at g3 ⊢; omega))).mono ?_
      rintro e wf ⟨rfl, Mf, Ff⟩
      have hsf : w.heap.size + 1 ≤ wf.heap.size := by have := Ff.size; omega
      have MMf := Lib.hid (Mf.keep (keepB_new (by omega)) BSEP.out)
      have NXf := Lib.hid (Ff.at_ NXe.out BX.out)
      have FFf := Lib.hid (FFe.out.save Ff)
      have HKf := Lib.hid (RxL.move (fun k hk hlt => Ff.block k hlt (BLOW.out k hk)) _ _ _ HKe.out)
      clear Mf Ff
      go_wp2_with fail
      have halt : altM (kids.take (i + 1)) (l ++ [St.none]) from_ l.length = freeM (layM (.mk k x0 x1 x2 x3 kk) (altM (kids.take i) (l ++ [St.none]) from_ l.length) from_).1 e1 l.length := by
        rw [HTAKE.out, altM_snoc, HLF.out.2.2.1, He1.out]
      have HALT := Lib.hid halt
      clear halt
      go_roundw
      case rel =>
        refine ⟨i + 1, by omega, rfl, 0, rfl, trivial, ?_, NXf.out, FFf.out, HKf.out, hsf⟩
        show Mach dm (keepB S w) wf _ starts
        rw [HALT.out]
        exact MMf.out
      case measure => simp [intOf]; omega
    · obtain rfl : i = kids.length := by omega
      have H : kids.take kids.length = kids := List.take_length
      have MR2 := Lib.hid (show Mach dm (keepB S w) wr (altM kids (l ++ [St.none]) from_ l.length) starts by have := MR.out; rwa [H] at this)
      clear H MR
      go_wp2_with fail
      go_ret
      have hlay : (layM (.mk 3 b0 b1 b2 b3 kids) l from_).1 = altM kids (l ++ [St.none]) from_ l.length := by simp [layM]
      rw [hlay]
      exact ⟨rfl, MR2.out.mono (fun k _ hk => by
        rcases hk with hk | hk
        · exact .inl hk.1
        · exact .inr (by omega)) (fun k hk => by
        rcases hk with hk | hk
        · exact HSEP.out k hk
        · omega), FR.out⟩
theorem lay_all (n : Nat) : ∀ r : Rx, r.size ≤ n → LayC r := by
  induction n with
  | zero => intro r h; have := r.size_pos; omega
  | succ n ih =>
    rintro ⟨kind, b0, b1, b2, b3, kids⟩ hsz
    have hk : ∀ r ∈ kids, LayC r := by
      intro r hr
      refine ih r ?_
      have : r.size ≤ Rx.sizes kids := by
        clear hsz ih
        induction kids with
        | nil => simp at hr
        | cons x kids ih2 =>
          simp only [Rx.sizes]
          rcases List.mem_cons.1 hr with rfl | hr
          · omega
          · have := ih2 hr; omega
      simp only [Rx.size] at hsz
      omega
    by_cases h0 : kind = 0
    · subst h0; exact lay_0 b0 b1 b2 b3 kids
    by_cases h1 : kind = 1
    · subst h1; exact lay_1 b0 b1 b2 b3 kids
    by_cases h2 : kind = 2
    · subst h2; exact lay_2 b0 b1 b2 b3 kids hk
    by_cases h3 : kind = 3
    · subst h3; exact lay_3 b0 b1 b2 b3 kids hk
    by_cases h4 : kind = 4
    · subst h4
      cases kids with
      | nil => exact lay_4n b0 b1 b2 b3
      | cons x ks =>
        obtain ⟨k, x0, x1, x2, x3, kk⟩ := x
        exact lay_4c b0 b1 b2 b3 k x0 x1 x2 x3 kk ks (hk _ (by simp))
    · exact lay_other kind b0 b1 b2 b3 kids h0 h1 h2 h3 h4
theorem lay_any (r : Rx) : LayC r := lay_all r.size r (Nat.le_refl _)
end Go.Proofs.YtnenbihmokolpaaGreatDoor
