/-
  Words of this set's proofs: what stays of a world, and small facts on blocks.
-/
import Derived.Test.YtjbmppbciiemkaaRows
import Derived.WalkKit
import Derived.WalkSpells
import Derived.WalkLawsBesides
import Derived.BigQuiet
import Derived.Deep.QuietTactic
import Derived.Deep.Draws
import Derived.Deep.RegionHeld3
import Derived.Recover
import Derived.Lib.Hide
namespace Go.Proofs.Ytjbmppbciiemkaa set_option linter.unusedVariables false set_option linter.unusedSimpArgs false
open Go.RowKit

/-- What stays: all blocks of w but those of S; nothing is told to the outside. -/
structure Fr (S : Nat → Prop) (w w' : World) : Prop where
  os : w'.os = w.os
  tape : w'.tape = w.tape
  output : w'.output = w.output
  size : w.heap.size ≤ w'.heap.size
  block : ∀ k, k < w.heap.size → ¬ S k → w'.heap[k]? = w.heap[k]?

abbrev none_ : Nat → Prop := fun _ => False
theorem Fr.refl (S : Nat → Prop) (w : World) : Fr S w w := ⟨rfl, rfl, rfl, Nat.le_refl _, fun _ _ _ => rfl⟩
theorem Fr.mono {S T : Nat → Prop} {w w' : World} (h : Fr S w w') (hs : ∀ k, k < w.heap.size → S k → T k) : Fr T w w' :=
  ⟨h.os, h.tape, h.output, h.size, fun k hk hn => h.block k hk (fun hh => hn (hs k hk hh))⟩
theorem Fr.trans {S T : Nat → Prop} {a b c : World} (h : Fr S a b) (k : Fr T b c) (ht : ∀ i, i < a.heap.size → T i → S i) : Fr S a c :=
  ⟨k.os.trans h.os, k.tape.trans h.tape, k.output.trans h.output, Nat.le_trans h.size k.size,
   fun i hi hn => (k.block i (Nat.lt_of_lt_of_le hi h.size) (fun hh => hn (ht i hi hh))).trans (h.block i hi hn)⟩
theorem Fr.tr {S : Nat → Prop} {a b c : World} (h : Fr S a b) (k : Fr S b c) : Fr S a c := h.trans k (fun _ _ h => h)
theorem Fr.drewN {S : Nat → Prop} {a w : World} (h : Fr S a w) (n : Nat) : Fr S a (w.drewN n) := ⟨h.os, h.tape, h.output, h.size, h.block⟩
theorem Fr.drew {S : Nat → Prop} {a w : World} (h : Fr S a w) : Fr S a w.drew := ⟨h.os, h.tape, h.output, h.size, h.block⟩
theorem Fr.alloc {S : Nat → Prop} {a w : World} (h : Fr S a w) (o : Obj) : Fr S a (w.alloc o) :=
  ⟨h.os, h.tape, h.output, Nat.le_trans h.size (by simp), fun k hk hn => (Below.heap_alloc w o k (Nat.lt_of_lt_of_le hk h.size)).trans (h.block k hk hn)⟩
theorem Fr.setCell {S : Nat → Prop} {a w : World} (h : Fr S a w) {p : Addr} (hp : S p.block ∨ a.heap.size ≤ p.block) (v : Value) : Fr S a (w.setCell p v) :=
  ⟨h.os, h.tape, h.output, Nat.le_trans h.size (by simp), fun k hk hn => (Below.heap_setCell w p v k (fun e => by
    subst e
    rcases hp with hp | hp
    · exact hn hp
    · omega)).trans (h.block k hk hn)⟩
theorem Fr.grown {S : Nat → Prop} {a w w' : World} (h : Fr S a w) {row : Option Nat} (hg : w.grownBy w' row) (hr : ∀ k, row = some k → S k ∨ a.heap.size ≤ k) : Fr S a w' :=
  ⟨hg.os.trans h.os, hg.tape.trans h.tape, hg.output.trans h.output, Nat.le_trans h.size hg.size, fun k hk hn =>
    (hg.block k (Nat.lt_of_lt_of_le hk h.size) (fun e => by
      rcases hr k e.symm with h1 | h1
      · exact hn h1
      · omega)).trans (h.block k hk hn)⟩
theorem Fr.below {w w' : World} (h : Fr none_ w w') : Below w.heap.size w w' := ⟨h.os, h.tape, h.output, h.size, fun k hk => h.block k hk (fun h => h)⟩
theorem Fr.of_below {w w' : World} (h : Below w.heap.size w w') : Fr none_ w w' := ⟨h.os, h.tape, h.output, h.size, fun k hk _ => h.block k hk⟩
theorem Fr.none {S : Nat → Prop} {w w' : World} (h : Fr none_ w w') : Fr S w w' := h.mono (fun _ _ h => h.elim)
/-- What has been touched is new: seen from the elder world nothing has. -/
theorem Fr.fresh {S : Nat → Prop} {a w w' : World} (h : Fr none_ a w) (k : Fr S w w') (hs : ∀ i, S i → a.heap.size ≤ i) : Fr none_ a w' :=
  h.trans k (fun i hi hh => by have := hs i hh; omega)

/-- One block alone. -/
def at1 (d : Nat) : Nat → Prop := fun k => k = d
theorem rd_set {d : Nat} {a w : World} (h : Fr none_ a w) (o : Nat) (v : Value) : Fr (at1 d) a (w.setCell ⟨d, o, none⟩ v) :=
  Fr.setCell (S := at1 d) (p := ⟨d, o, none⟩) h.none (.inl rfl) v
theorem rd_set1 {d : Nat} {a w : World} (h : Fr (at1 d) a w) (o : Nat) (v : Value) : Fr (at1 d) a (w.setCell ⟨d, o, none⟩ v) :=
  Fr.setCell (S := at1 d) (p := ⟨d, o, none⟩) h (.inl rfl) v

theorem lt_of_block {w : World} {d : Nat} {o : Obj} (h : w.heap[d]? = some o) : d < w.heap.size := by
  rcases Nat.lt_or_ge d w.heap.size with h' | h'
  · exact h'
  · simp [Array.getElem?_eq_none h'] at h
theorem heap_setCell (w : World) {d : Nat} {c : Array Value} {ty : TypeId} {fr : Nat × Nat} (h : w.heap[d]? = some (.cells c ty fr)) (o : Nat) (v : Value) :
    (w.setCell ⟨d, o, none⟩ v).heap[d]? = some (.cells (c.setIfInBounds o v) ty fr) := by
  simp [World.setCell, Array.getElem?_modify, h]
theorem cell_of_block {w : World} {d o : Nat} {c : Array Value} {ty : TypeId} {fr : Nat × Nat} {v : Value} (h : w.heap[d]? = some (.cells c ty fr)) (hv : c[o]? = some v) : w.cell? ⟨d, o, none⟩ = some v := by
  simp [World.cell?, h, hv]
theorem free_of_block {w : World} {d o : Nat} {c : Array Value} {ty : TypeId} (h : w.heap[d]? = some (.cells c ty (0, 0))) : w.frozen? ⟨d, o, none⟩ = false := by
  simp [World.frozen?, h]
theorem lt_of_cell {w : World} {d o : Nat} {v : Value} (h : w.cell? ⟨d, o, none⟩ = some v) : d < w.heap.size := World.block_lt_of_cell? w _ h
theorem Fr.cell {S : Nat → Prop} {w w' : World} (h : Fr S w w') {a : Addr} {v : Value} (hc : w.cell? a = some v) (hn : ¬ S a.block) : w'.cell? a = some v :=
  (World.cell?_of_block (h.block a.block (World.block_lt_of_cell? w a hc) hn)).trans hc
theorem Fr.at_ {S : Nat → Prop} {w w' : World} (h : Fr S w w') {d : Nat} {o : Obj} (hb : w.heap[d]? = some o) (hn : ¬ S d) : w'.heap[d]? = some o :=
  (h.block d (lt_of_block hb) hn).trans hb
end Go.Proofs.Ytjbmppbciiemkaa
