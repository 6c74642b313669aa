/-
  A machine of regexes in memory: where it begins; one that is empty.
-/
import Derived.Test.YtgpmbkgedhcbjaaDoorNw2
namespace Go.Proofs.YtgpmbkgedhcbjaaDoor
open Go.RowKit
section
variable {dm : Nat} {S : Nat → Prop} {w : World} {l : List St} {starts : List Nat} {vs vt : Value} {fv : Nat → Value} {cells : List Value}

theorem MachD.empty {w : World} {dm : Nat} (hb : w.heap[dm]? = some (.cells #[.slice none 0 0, .slice none 0 0] 51 (0, 0))) :
    MachD dm (fun k => dm < k) w [] [] (.slice none 0 0) (.slice none 0 0) (fun _ => .slice none 0 0) [] := by
  refine ⟨hb, World.ownsRow_nil _ _ _ _, World.ownsRow_nil _ (dm + 1) 3 1, ?_, ?_, ?_, ?_, ?_, ?_, ?_, ?_, fun k h => h⟩
  · intro i s h; simp at h
  · intro i s h; simp at h
  · intro b h; simp [Value.ownBlock] at h
  · intro b h; simp [Value.ownBlock] at h
  · intro i b h; simp at h
  · intro b h; simp [Value.ownBlock] at h
  · intro i b h; simp at h
  · intro i j b h; simp at h

/-- One beginning more. -/
theorem MachD.begun (h : MachD dm S w l starts vs vt fv cells) {n g cap : Nat} {w1 : World}
    (h3 : w1.ownsRow (dm + 1) 3 1 (.slice (some ⟨g, 0, none⟩) (starts.length + 1) cap) (starts.length + 1) (nums starts ++ [.int .i64 n]))
    (hg : w.grownBy w1 vt.ownBlock) (hat : vt.ownBlock = some g ∨ g = w.heap.size) :
    MachD dm (fun k => S k ∨ w.heap.size ≤ k) (w1.setCell ⟨dm, 1, none⟩ (.slice (some ⟨g, 0, none⟩) (starts.length + 1) cap)) l (starts ++ [n]) vs (.slice (some ⟨g, 0, none⟩) (starts.length + 1) cap) fv cells ∧
    Fr (fun k => k = dm ∨ S k) w (w1.setCell ⟨dm, 1, none⟩ (.slice (some ⟨g, 0, none⟩) (starts.length + 1) cap)) := by
  have hdm := lt_of_block h.head
  have hvt : ∀ b, vt.ownBlock = some b → dm + 1 ≤ b ∧ b < w.heap.size := h.begins.lt
  have hsame : ∀ b, b < w.heap.size → b ≠ dm → vt.ownBlock ≠ some b → (w1.setCell ⟨dm, 1, none⟩ (.slice (some ⟨g, 0, none⟩) (starts.length + 1) cap)).heap[b]? = w.heap[b]? := by
    intro b hb hne hvb
    rw [Below.heap_setCell _ _ _ _ hne]
    exact hg.block b hb (fun e => hvb e.symm)
  have hgs : S g ∨ w.heap.size ≤ g := by
    rcases hat with hat | hat
    · exact .inl (h.in2 g hat)
    · exact .inr (by omega)
  refine ⟨⟨?_, ?_, ?_, ?_, ?_, ?_, ?_, ?_, ?_, ?_, ?_, ?_⟩, ?_⟩
  · have := heap_setCell w1 (d := dm) (c := #[vs, vt]) (ty := 51) (fr := (0, 0)) (by rw [hg.block dm hdm (fun e => by have := (hvt dm e.symm).1; omega)]; exact h.head) 1 (.slice (some ⟨g, 0, none⟩) (starts.length + 1) cap)
    exact this
  · exact ownsRow_same h.rows (fun b hb => hsame b (h.rows.lt b hb).2 (by have := (h.rows.lt b hb).1; omega) (h.ap1 b hb))
  · rw [List.length_append, nums_snoc]
    exact ownsRow_setCell_below h3 (by simp) _
  · intro i s hs
    have hi : i < l.length := (List.getElem?_eq_some_iff.1 hs).1
    exact ownsRow_same (h.free i s hs) (fun b hb => hsame b (h.flt hi hb).2 (by have := (h.flt hi hb).1; omega) (h.ap2 i b hi hb).2)
  · intro i s hs
    obtain ⟨cs, h1, h2⟩ := h.data i s hs
    exact ⟨cs, RxC.move (fun k hk hlt => hsame k hlt (by omega) (fun e => by have := (hvt k e).1; omega)) _ cs h1, h2⟩
  · exact fun b hb => .inl (h.in1 b hb)
  · intro b hb
    simp only [Value.ownBlock, Option.some.injEq] at hb
    subst hb
    exact hgs
  · exact fun i b hi hb => .inl (h.in3 i b hi hb)
  · intro b hb hvb
    simp only [Value.ownBlock, Option.some.injEq] at hvb
    subst hvb
    rcases hat with hat | hat
    · exact h.ap1 _ hb hat
    · have := (h.rows.lt _ hb).2
      omega
  · intro i b hi hb
    refine ⟨(h.ap2 i b hi hb).1, fun e => ?_⟩
    simp only [Value.ownBlock, Option.some.injEq] at e
    subst e
    rcases hat with hat | hat
    · exact (h.ap2 i _ hi hb).2 hat
    · have := (h.flt hi hb).2
      omega
  · exact h.ap3
  · intro k hk
    rcases hk with hk | hk
    · exact h.sep k hk
    · omega
  · refine ⟨hg.os, hg.tape, hg.output, by simpa using hg.size, fun k hk hn => hsame k hk (fun e => hn (.inl e)) (fun e => hn (.inr (h.in2 k e)))⟩
end
end Go.Proofs.YtgpmbkgedhcbjaaDoor
