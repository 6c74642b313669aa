/-
  The builder of an automaton beside other rows: what stays while it turns.
-/
import Derived.Test.YtglflmkkecephaaDoorKl
namespace Go.Proofs.YtglflmkkecephaaDoor
open Go.RowKit
open Go.Maps

section
variable {w w' : World} {B d dm mb : Nat} {sv : Value} {vs : List Value} {D : DataW Unit} {sets : List (List Nat)}
theorem BldD.not (h : BldD w B d dm mb sv vs D sets) {k : Nat} {cs : Array Value} {t : TypeId} {fr : Nat × Nat} (hb : w.heap[k]? = some (.cells cs t fr)) (h1 : t ≠ 63) (h2 : t ≠ 52) : ¬ bldS d mb sv k := by
  rintro (rfl | rfl | hk)
  · rw [h.blk] at hb
    simp only [Option.some.injEq, Obj.cells.injEq] at hb
    exact h1 hb.2.1.symm
  · obtain ⟨es, clock, hm, _⟩ := h.map
    rw [hm] at hb; simp at hb
  · rcases h.row.2 with ⟨h3, _⟩ | ⟨g2, cap2, cur2, f1, _, f3, _⟩
    · rw [h3] at hk; simp [Value.ownBlock] at hk
    · rw [f1] at hk
      simp only [Value.ownBlock, Option.some.injEq] at hk
      subst hk
      rw [f3] at hb
      simp only [Option.some.injEq, Obj.cells.injEq] at hb
      exact h2 hb.2.1.symm
theorem BldD.at_over (h : BldD w B d dm mb sv vs D sets) (hf : Fr (bldS d mb sv) w w') {k : Nat} {cs : Array Value} {t : TypeId} {fr : Nat × Nat} (hb : w.heap[k]? = some (.cells cs t fr)) (h1 : t ≠ 63) (h2 : t ≠ 52) : w'.heap[k]? = some (.cells cs t fr) := hf.at_ hb (h.not hb h1 h2)
theorem BldD.row_over (h : BldD w B d dm mb sv vs D sets) (hf : Fr (bldS d mb sv) w w') {base : Nat} {e : TypeId} {size n : Nat} {v : Value} {xs : List Value} (hr : w.ownsRow base e size v n xs) (h1 : e ≠ 63) (h2 : e ≠ 52) : w'.ownsRow base e size v n xs := by
  refine ⟨hr.1, ?_⟩
  rcases hr.2 with h3 | ⟨g, cap, cur, e1, e2, e3, e4⟩
  · exact .inl h3
  · exact .inr ⟨g, cap, cur, e1, e2, h.at_over hf e3 h1 h2, e4⟩
theorem BldD.fresh (h : BldD w B d dm mb sv vs D sets) {a : World} (hf0 : Fr none_ a w) (hB : a.heap.size ≤ B) (hf : Fr (bldS d mb sv) w w') : Fr none_ a w' := by
  refine hf0.fresh hf ?_
  rintro i (rfl | rfl | hk)
  · exact Nat.le_trans hB h.hd
  · exact Nat.le_trans hB h.hm
  · have := (h.row.lt i hk).1; omega

/-- The rows of an automaton under way. -/
structure NextD (w : World) (B : Nat) (nv : Value) (vals : List Value) (next : List (List Int)) : Prop where
  row : w.ownsRow B 52 1 nv next.length vals
  at_ : ∀ (i : Nat) (r : List Int), next[i]? = some r → ∃ v, vals[i]? = some v ∧ IntsAt w v r
theorem NextD.move {nv : Value} {vals : List Value} {next : List (List Int)} (h : NextD w B nv vals next) (hf : Fr none_ w w') : NextD w' B nv vals next :=
  ⟨ownsRow_same h.row (fun b hb => hf.block b (h.row.lt b hb).2 (fun h => h)), fun i r hr => (h.at_ i r hr).elim fun v h1 => ⟨v, h1.1, h1.2.move hf⟩⟩
theorem NextD.over {B2 : Nat} {nv : Value} {vals : List Value} {next : List (List Int)} (h : NextD w B2 nv vals next) (hb : BldD w B d dm mb sv vs D sets) (hf : Fr (bldS d mb sv) w w') (hne : ∀ k, nv.ownBlock = some k → sv.ownBlock ≠ some k) : NextD w' B2 nv vals next := by
  refine ⟨ownsRow_same h.row (fun k hk => hf.block k (h.row.lt k hk).2 ?_), fun i r hr => (h.at_ i r hr).elim fun v h1 => ⟨v, h1.1, IntsAt.over hb hf h1.2⟩⟩
  rintro (rfl | rfl | h3)
  · rcases h.row.2 with ⟨h4, _⟩ | ⟨g, cap, cur, e1, e2, e3, e4⟩
    · rw [h4] at hk; simp [Value.ownBlock] at hk
    · rw [e1] at hk
      simp only [Value.ownBlock, Option.some.injEq] at hk
      subst hk
      rw [hb.blk] at e3
      simp at e3
  · rcases h.row.2 with ⟨h4, _⟩ | ⟨g, cap, cur, e1, e2, e3, e4⟩
    · rw [h4] at hk; simp [Value.ownBlock] at hk
    · rw [e1] at hk
      simp only [Value.ownBlock, Option.some.injEq] at hk
      subst hk
      obtain ⟨es, clock, hm, _⟩ := hb.map
      rw [hm] at e3
      simp at e3
  · exact hne k hk h3
theorem IntsAt.nums {v : Value} {r : List Int} (h : IntsAt w v r) : NumsIn w v r := by
  obtain ⟨a, cap, rfl, hc⟩ := h.slice
  refine ⟨a, cap, rfl, fun j z hz => ?_⟩
  obtain ⟨g, rfl, hcell⟩ := h.cell hz
  exact ⟨_, rfl, by rw [Addr.add_mid, Nat.zero_add]; exact hcell⟩
theorem row_cell {base : Nat} {e : TypeId} {n : Nat} {v : Value} {xs : List Value} (h : w.ownsRow base e 1 v n xs) : ∃ a cap, v = .slice a n cap ∧ ∀ j x, xs[j]? = some x → ∃ ad, a = some ad ∧ w.cell? (ad.add j) = some x := by
  obtain ⟨a, cap, rfl, hc⟩ := ownsRow_slice h
  refine ⟨a, cap, rfl, fun j x hx => ?_⟩
  have hj := (List.getElem?_eq_some_iff.1 hx).1
  have hl := h.1
  obtain ⟨g, cap', hg, _, _⟩ := h.form (by omega)
  have h' := h
  rw [hg] at h'
  cases hg
  exact ⟨_, rfl, by rw [Addr.add_mid, Nat.zero_add, h'.cellAt j (by omega)]; exact hx⟩
theorem NextD.rows {nv : Value} {vals : List Value} {next : List (List Int)} (h : NextD w B nv vals next) : RowsIn w nv next := by
  obtain ⟨a, cap, e, hc⟩ := row_cell h.row
  refine ⟨a, cap, e, fun j r hr => ?_⟩
  obtain ⟨v, h1, h2⟩ := h.at_ j r hr
  obtain ⟨ad, h3, h4⟩ := hc j v h1
  exact ⟨ad, v, h3, h4, h2.nums⟩
def setsV (l : List Nat) : List Value := l.map fun (z : Nat) => Value.int .u64 (z : Int)
theorem sets_in {tv : Value} {tags : List Nat} (h : w.ownsRow B 37 1 tv tags.length (setsV tags)) : SetsIn w tv tags := by
  obtain ⟨a, cap, e, hc⟩ := row_cell h
  refine ⟨a, cap, e, fun j z hz => ?_⟩
  obtain ⟨ad, h3, h4⟩ := hc j (.int .u64 (z : Int)) (by simp [setsV, hz])
  exact ⟨ad, h3, h4⟩
end
end Go.Proofs.YtglflmkkecephaaDoor
