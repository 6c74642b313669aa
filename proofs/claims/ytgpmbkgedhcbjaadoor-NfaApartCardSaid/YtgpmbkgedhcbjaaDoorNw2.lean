/-
  A machine of regexes in memory: its bytes, its numbers.
-/
import Derived.Test.YtgpmbkgedhcbjaaDoorNw
namespace Go.Proofs.YtgpmbkgedhcbjaaDoor
open Go.RowKit
section
variable {dm : Nat} {S : Nat → Prop} {w : World} {l : List St} {starts : List Nat} {vs vt : Value} {fv : Nat → Value} {cells : List Value}

/-- A state gets its bytes, and where it goes by one of them. -/
theorem MachD.byted {g cap : Nat} (h : MachD dm S w l starts (.slice (some ⟨g, 0, none⟩) l.length cap) vt fv cells) {i : Nat} (hi : i < l.length) {k : Int} {b0 b1 b2 b3 n cap2 : Nat} {a : Option Addr} {r : Rx}
    (hr : RxC (fun j => j < dm) w r [.int .i64 k, .int .u64 b0, .int .u64 b1, .int .u64 b2, .int .u64 b3, .slice a n cap2]) (fin : Nat) :
    Mach dm (fun j => S j ∨ w.heap.size ≤ j) (((((((w.setCell ⟨g, i * 9 + 1, none⟩ (.int .i64 k)).setCell ⟨g, i * 9 + 2, none⟩ (.int .u64 b0)).setCell ⟨g, i * 9 + 3, none⟩ (.int .u64 b1)).setCell ⟨g, i * 9 + 4, none⟩ (.int .u64 b2)).setCell ⟨g, i * 9 + 5, none⟩ (.int .u64 b3)).setCell ⟨g, i * 9 + 6, none⟩ (.slice a n cap2)).setCell ⟨g, i * 9 + 7, none⟩ (.int .i64 fin)) (bytesM l i r fin) starts ∧
    Fr (fun j => j = dm ∨ S j) w (((((((w.setCell ⟨g, i * 9 + 1, none⟩ (.int .i64 k)).setCell ⟨g, i * 9 + 2, none⟩ (.int .u64 b0)).setCell ⟨g, i * 9 + 3, none⟩ (.int .u64 b1)).setCell ⟨g, i * 9 + 4, none⟩ (.int .u64 b2)).setCell ⟨g, i * 9 + 5, none⟩ (.int .u64 b3)).setCell ⟨g, i * 9 + 6, none⟩ (.slice a n cap2)).setCell ⟨g, i * 9 + 7, none⟩ (.int .i64 fin)) := by
  have hgS : S g := h.in1 g rfl
  have hgl := h.rows.lt g rfl
  have hcl : cells.length = l.length * 9 := h.rows.1
  have hrow := h.rows
  have r1 := (hrow.stored (i * 9 + 1) (.int .i64 k)).1
  have r2 := (r1.stored (i * 9 + 2) (.int .u64 b0)).1
  have r3 := (r2.stored (i * 9 + 3) (.int .u64 b1)).1
  have r4 := (r3.stored (i * 9 + 4) (.int .u64 b2)).1
  have r5 := (r4.stored (i * 9 + 5) (.int .u64 b3)).1
  have r6 := (r5.stored (i * 9 + 6) (.slice a n cap2)).1
  have r7 := (r6.stored (i * 9 + 7) (.int .i64 fin)).1
  have hheap : ∀ j, j ≠ g → (((((((w.setCell ⟨g, i * 9 + 1, none⟩ (.int .i64 k)).setCell ⟨g, i * 9 + 2, none⟩ (.int .u64 b0)).setCell ⟨g, i * 9 + 3, none⟩ (.int .u64 b1)).setCell ⟨g, i * 9 + 4, none⟩ (.int .u64 b2)).setCell ⟨g, i * 9 + 5, none⟩ (.int .u64 b3)).setCell ⟨g, i * 9 + 6, none⟩ (.slice a n cap2)).setCell ⟨g, i * 9 + 7, none⟩ (.int .i64 fin)).heap[j]? = w.heap[j]? := by
    intro j hj
    rw [Below.heap_setCell _ _ _ _ hj, Below.heap_setCell _ _ _ _ hj, Below.heap_setCell _ _ _ _ hj, Below.heap_setCell _ _ _ _ hj, Below.heap_setCell _ _ _ _ hj, Below.heap_setCell _ _ _ _ hj, Below.heap_setCell _ _ _ _ hj]
  obtain ⟨st, hst⟩ := h.at hi
  obtain ⟨cs, hc1, hc2⟩ := h.data i st hst
  have h6 : cs.length = 6 := by
    cases hs : st.bytes with
    | mk k b0 b1 b2 b3 kids =>
    rw [hs] at hc1
    simp only [RxC] at hc1
    obtain ⟨a, cap, rfl, _⟩ := hc1
    rfl
  have t0 := hc2 0 (fv i) rfl
  have t8 := hc2 8 (.int .i64 st.tag) (by
    match cs, h6 with
    | [_, _, _, _, _, _], _ => rfl)
  refine ⟨⟨_, _, _, _, h.put i (fun s => { s with bytes := r, to := fin }) hi (fvi := fv i) (fun j hj h1 h2 => hheap j (fun e => h1 (by rw [e]; rfl))) r7 ?_ ?_ ?_ (fun b hb => .inl hb)⟩, ?_⟩
  · intro j hj
    rw [List.getElem?_set_ne (by omega), List.getElem?_set_ne (by omega), List.getElem?_set_ne (by omega), List.getElem?_set_ne (by omega), List.getElem?_set_ne (by omega), List.getElem?_set_ne (by omega), List.getElem?_set_ne (by omega)]
  · intro s hs
    exact ownsRow_same (h.free i s hs) (fun b hb => hheap b (fun e => (h.ap2 i b hi hb).1 (by rw [e]; rfl)))
  · intro s hs
    have : st = s := by rw [hst] at hs; simpa using hs
    subst this
    refine ⟨_, RxC.move (fun j hj hlt => hheap j (by omega)) _ _ hr, fun m u hu => ?_⟩
    rcases m with _ | _ | _ | _ | _ | _ | _ | _ | _ | m
    · rw [List.getElem?_set_ne (by omega), List.getElem?_set_ne (by omega), List.getElem?_set_ne (by omega), List.getElem?_set_ne (by omega), List.getElem?_set_ne (by omega), List.getElem?_set_ne (by omega), List.getElem?_set_ne (by omega)]
      simp only [St.cells, List.getElem?_cons_zero, List.getElem?_cons_succ, List.cons_append, List.nil_append, Option.some.injEq] at hu
      subst hu
      exact t0
    · rw [List.getElem?_set_ne (by omega), List.getElem?_set_ne (by omega), List.getElem?_set_ne (by omega), List.getElem?_set_ne (by omega), List.getElem?_set_ne (by omega), List.getElem?_set_ne (by omega), List.getElem?_set_self (by first | omega | (simp only [List.length_set]; omega))]
      simpa [St.cells] using hu
    · rw [List.getElem?_set_ne (by omega), List.getElem?_set_ne (by omega), List.getElem?_set_ne (by omega), List.getElem?_set_ne (by omega), List.getElem?_set_ne (by omega), List.getElem?_set_self (by first | omega | (simp only [List.length_set]; omega))]
      simpa [St.cells] using hu
    · rw [List.getElem?_set_ne (by omega), List.getElem?_set_ne (by omega), List.getElem?_set_ne (by omega), List.getElem?_set_ne (by omega), List.getElem?_set_self (by first | omega | (simp only [List.length_set]; omega))]
      simpa [St.cells] using hu
    · rw [List.getElem?_set_ne (by omega), List.getElem?_set_ne (by omega), List.getElem?_set_ne (by omega), List.getElem?_set_self (by first | omega | (simp only [List.length_set]; omega))]
      simpa [St.cells] using hu
    · rw [List.getElem?_set_ne (by omega), List.getElem?_set_ne (by omega), List.getElem?_set_self (by first | omega | (simp only [List.length_set]; omega))]
      simpa [St.cells] using hu
    · rw [List.getElem?_set_ne (by omega), List.getElem?_set_self (by first | omega | (simp only [List.length_set]; omega))]
      simpa [St.cells] using hu
    · rw [List.getElem?_set_self (by first | omega | (simp only [List.length_set]; omega))]
      simpa [St.cells] using hu
    · rw [List.getElem?_set_ne (by omega), List.getElem?_set_ne (by omega), List.getElem?_set_ne (by omega), List.getElem?_set_ne (by omega), List.getElem?_set_ne (by omega), List.getElem?_set_ne (by omega), List.getElem?_set_ne (by omega)]
      simp only [St.cells, List.getElem?_cons_zero, List.getElem?_cons_succ, List.cons_append, List.nil_append, Option.some.injEq] at hu
      subst hu
      exact t8
    · simp [St.cells] at hu
  · exact ((((((((Fr.refl (fun j => j = dm ∨ S j) w).setCell (p := ⟨g, i * 9 + 1, none⟩) (.inl (.inr hgS)) (.int .i64 k)).setCell (p := ⟨g, i * 9 + 2, none⟩) (.inl (.inr hgS)) (.int .u64 b0)).setCell (p := ⟨g, i * 9 + 3, none⟩) (.inl (.inr hgS)) (.int .u64 b1)).setCell (p := ⟨g, i * 9 + 4, none⟩) (.inl (.inr hgS)) (.int .u64 b2)).setCell (p := ⟨g, i * 9 + 5, none⟩) (.inl (.inr hgS)) (.int .u64 b3)).setCell (p := ⟨g, i * 9 + 6, none⟩) (.inl (.inr hgS)) (.slice a n cap2)).setCell (p := ⟨g, i * 9 + 7, none⟩) (.inl (.inr hgS)) (.int .i64 fin))

/-- A state gets its number. -/
theorem MachD.tagged {g cap : Nat} (h : MachD dm S w l starts (.slice (some ⟨g, 0, none⟩) l.length cap) vt fv cells) {i : Nat} (hi : i < l.length) (tag : Nat) :
    Mach dm (fun j => S j ∨ w.heap.size ≤ j) (w.setCell ⟨g, i * 9 + 8, none⟩ (.int .i64 tag)) (tagM l i tag) starts ∧
    Fr (fun j => j = dm ∨ S j) w (w.setCell ⟨g, i * 9 + 8, none⟩ (.int .i64 tag)) := by
  have hgS : S g := h.in1 g rfl
  have hcl : cells.length = l.length * 9 := h.rows.1
  have r1 := (h.rows.stored (i * 9 + 8) (.int .i64 tag)).1
  have hheap : ∀ j, j ≠ g → (w.setCell ⟨g, i * 9 + 8, none⟩ (.int .i64 tag)).heap[j]? = w.heap[j]? := by
    intro j hj
    rw [Below.heap_setCell _ _ _ _ hj]
  obtain ⟨st, hst⟩ := h.at hi
  obtain ⟨cs, hc1, hc2⟩ := h.data i st hst
  have h6 : cs.length = 6 := by
    cases hs : st.bytes with
    | mk k b0 b1 b2 b3 kids =>
    rw [hs] at hc1
    simp only [RxC] at hc1
    obtain ⟨a, cap, rfl, _⟩ := hc1
    rfl
  refine ⟨⟨_, _, _, _, h.put i (fun s => { s with tag := tag }) hi (fvi := fv i) (fun j hj h1 h2 => hheap j (fun e => h1 (by rw [e]; rfl))) r1 ?_ ?_ ?_ (fun b hb => .inl hb)⟩, ?_⟩
  · intro j hj
    rw [List.getElem?_set_ne (by omega)]
  · intro s hs
    exact ownsRow_same (h.free i s hs) (fun b hb => hheap b (fun e => (h.ap2 i b hi hb).1 (by rw [e]; rfl)))
  · intro s hs
    have : st = s := by rw [hst] at hs; simpa using hs
    subst this
    refine ⟨cs, RxC.move (fun j hj hlt => hheap j (by have := (h.rows.lt g rfl).1; omega)) _ _ hc1, fun m u hu => ?_⟩
    by_cases hm8 : m = 8
    · subst hm8
      rw [List.getElem?_set_self (by omega)]
      match cs, h6 with
      | [_, _, _, _, _, _], _ => simpa [St.cells] using hu
    · have hm9 : m < 9 := by
        have := (List.getElem?_eq_some_iff.1 hu).1
        simp [St.cells, h6] at this
        omega
      rw [List.getElem?_set_ne (by omega)]
      refine hc2 m u ?_
      match cs, h6, m, hm8, hm9, hu with
      | [_, _, _, _, _, _], _, 0, _, _, hu => exact hu
      | [_, _, _, _, _, _], _, 1, _, _, hu => exact hu
      | [_, _, _, _, _, _], _, 2, _, _, hu => exact hu
      | [_, _, _, _, _, _], _, 3, _, _, hu => exact hu
      | [_, _, _, _, _, _], _, 4, _, _, hu => exact hu
      | [_, _, _, _, _, _], _, 5, _, _, hu => exact hu
      | [_, _, _, _, _, _], _, 6, _, _, hu => exact hu
      | [_, _, _, _, _, _], _, 7, _, _, hu => exact hu
      | [_, _, _, _, _, _], _, m + 8, hm8, hm9, hu => omega
  · exact ((Fr.refl (fun j => j = dm ∨ S j) w).setCell (p := ⟨g, i * 9 + 8, none⟩) (.inl (.inr hgS)) (.int .i64 tag))
end
end Go.Proofs.YtgpmbkgedhcbjaaDoor
