/-
  munch.Longest: plain, and the walk.
  munch.Win: plain, and the walk.
  munch.Win: the walk.
  munch.Pick: plain, and the walk.
  munch.each: all pieces; plain, and the walk of the iterator.
-/
import Derived.Test.YtnenbihmokolpaaGreatDoorUA
import Derived.Test.YtnenbihmokolpaaGreatDoorMD
namespace Go.Proofs.YtnenbihmokolpaaGreatDoor set_option linter.unusedVariables false set_option linter.unusedSimpArgs false
open Go.RowKit

/-- The longest piece, among those of no more than d bytes. -/
def longTo (D : Dfa) (bs : List Nat) (a may : Nat) : Nat → Nat × Nat
  | 0 => (0, a)
  | d + 1 => if runD D ((bs.drop a).take (d + 1)) &&& may = 0 then longTo D bs a may d else (runD D ((bs.drop a).take (d + 1)) &&& may, a + d + 1)
def longM (D : Dfa) (bs : List Nat) (at_ : Int) (may : Nat) : Nat × Int := if 0 ≤ at_ ∧ at_ < bs.length then ((longTo D bs at_.toNat may (bs.length - at_.toNat)).1, ((longTo D bs at_.toNat may (bs.length - at_.toNat)).2 : Int)) else (0, at_)
/-- Within the loop. -/
structure LgSt (w wr : World) (b : Nat) (C : List Value) (m to : Nat) : Prop where
  box : wr.heap[b]? = some (.cells C.toArray 26 (0, 0))
  res : wr.heap[b + 1]? = some (.cells #[.int .u64 0, .int .i64 0] 41 (0, 0))
  out : wr.heap[b + 1 + 1]? = some (.cells #[.int .u64 (m : Int), .int .i64 (to : Int)] 41 (0, 0))
  fr : Fr none_ w wr
  base : w.heap.size ≤ b
theorem LgSt.move {w wr wx : World} {b : Nat} {C : List Value} {m to : Nat} (h : LgSt w wr b C m to) (hf : Fr none_ wr wx) : LgSt w wx b C m to :=
  ⟨hf.at_ h.box (fun h => h), hf.at_ h.res (fun h => h), hf.at_ h.out (fun h => h), h.fr.tr hf, h.base⟩

theorem lg_end {wr : World} {b : Nat} {x y : Value} {t : TypeId} (h : wr.heap[b]? = some (.cells #[x, y] t (0, 0))) (p q : Value) : ((wr.setCell ⟨b, 0, none⟩ p).setCell ⟨b, 1, none⟩ q).heap[b]? = some (.cells #[p, q] t (0, 0)) := by
  have h1 := heap_setCell wr h 0 p
  have h2 := heap_setCell _ h1 1 q
  exact h2
theorem LgSt.put {w wr : World} {b : Nat} {C : List Value} {m to : Nat} (h : LgSt w wr b C m to) (m' to' : Nat) : LgSt w ((wr.setCell ⟨b + 1 + 1, 0, none⟩ (.int .u64 (m' : Int))).setCell ⟨b + 1 + 1, 1, none⟩ (.int .i64 (to' : Int))) b C m' to' := by
  have other : ∀ k, k ≠ b + 1 + 1 → ((wr.setCell ⟨b + 1 + 1, 0, none⟩ (.int .u64 (m' : Int))).setCell ⟨b + 1 + 1, 1, none⟩ (.int .i64 (to' : Int))).heap[k]? = wr.heap[k]? := fun k hk => by
    rw [Below.heap_setCell _ _ _ k hk, Below.heap_setCell _ _ _ k hk]
  refine ⟨(other _ (by omega)).trans h.box, (other _ (by omega)).trans h.res, lg_end h.out _ _, ?_, h.base⟩
  exact (h.fr.setCell (p := ⟨b + 1 + 1, 0, none⟩) (.inr (by have := h.base; show w.heap.size ≤ b + 1 + 1; omega)) _).setCell (p := ⟨b + 1 + 1, 1, none⟩) (.inr (by have := h.base; show w.heap.size ≤ b + 1 + 1; omega)) _

end Go.Proofs.YtnenbihmokolpaaGreatDoor

namespace Go.Proofs.YtnenbihmokolpaaGreatDoor set_option linter.unusedVariables false set_option linter.unusedSimpArgs false
open Go.RowKit

def hasM (s : Nat) (i : Int) : Bool := decide (0 ≤ i) && s.testBit i.toNat
def beatP (tags : Nat) (n : Int) (p : Int × Int) : Bool := decide (p.2 = n) && decide (p.1 ≠ n) && hasM tags p.1
def beatenM (tags : Nat) (ps : List (Int × Int)) (n : Int) : Bool := ps.any (beatP tags n)
def winM (tags : Nat) (ps : List (Int × Int)) : Nat := setM (((bitsL tags).filter fun (n : Nat) => !beatenM tags ps n).map fun (n : Nat) => (n : Int))
/-- A row of pairs. -/
def PairsIn (w : World) (a : Option Addr) (len : Nat) (ps : List (Int × Int)) : Prop := ps.length = len ∧ len ≤ 1000000 ∧ ∀ (j : Nat) (p : Int × Int), ps[j]? = some p → ∃ ad, a = some ad ∧ w.cell? (ad.add (j * 2)) = some (.int .i64 p.1) ∧ w.cell? (ad.add (j * 2 + 1)) = some (.int .i64 p.2)
theorem PairsIn.move {w w' : World} {a : Option Addr} {len : Nat} {ps : List (Int × Int)} (h : PairsIn w a len ps) (hf : Fr none_ w w') : PairsIn w' a len ps :=
  ⟨h.1, h.2.1, fun j p hp => (h.2.2 j p hp).elim fun ad q => ⟨ad, q.1, cell_move hf q.2.1, cell_move hf q.2.2⟩⟩

end Go.Proofs.YtnenbihmokolpaaGreatDoor

namespace Go.Proofs.YtnenbihmokolpaaGreatDoor set_option linter.unusedVariables false set_option linter.unusedSimpArgs false
open Go.RowKit

end Go.Proofs.YtnenbihmokolpaaGreatDoor

namespace Go.Proofs.YtnenbihmokolpaaGreatDoor set_option linter.unusedVariables false set_option linter.unusedSimpArgs false
open Go.RowKit

def pickOf (p : Nat × Int) (ps : List (Int × Int)) : Int × Int := if (bitsL (winM p.1 ps)).length = 1 then (((Lib.ctz 64 (winM p.1 ps) : Nat) : Int), p.2) else (-1, p.2)
def pickM (D : Dfa) (bs : List Nat) (at_ : Int) (may : Nat) (ps : List (Int × Int)) : Int × Int := pickOf (longM D bs at_ may) ps
theorem winM_lt (t : Nat) (ps : List (Int × Int)) : winM t ps < 18446744073709551616 := setM_lt _
end Go.Proofs.YtnenbihmokolpaaGreatDoor

namespace Go.Proofs.YtnenbihmokolpaaGreatDoor set_option linter.unusedVariables false set_option linter.unusedSimpArgs false
open Go.RowKit Go.Shelf
attribute [local go_sem] Oper.semAt_some

def allFrom (D : Dfa) (bs : List Nat) (may : Nat) (ps : List (Int × Int)) : Nat → Int → List (Nat × Int)
  | 0, _ => []
  | f + 1, at_ => if 0 ≤ (pickM D bs at_ may ps).1 then (bitM (pickM D bs at_ may ps).1, (pickM D bs at_ may ps).2) :: allFrom D bs may ps f (pickM D bs at_ may ps).2 else []
def allM (D : Dfa) (bs : List Nat) (may : Nat) (ps : List (Int × Int)) : List (Nat × Int) := allFrom D bs may ps (bs.length + 1) 0
theorem longTo_pos (D : Dfa) (bs : List Nat) (a may : Nat) : ∀ d, (longTo D bs a may d).1 ≠ 0 → a < (longTo D bs a may d).2 ∧ (longTo D bs a may d).2 ≤ a + d
  | 0 => fun h => absurd rfl h
  | d + 1 => by
    rw [longTo]
    split
    · intro h
      have := longTo_pos D bs a may d h
      omega
    · intro _
      show a < a + d + 1 ∧ a + d + 1 ≤ a + (d + 1)
      omega
theorem winM_zero (ps : List (Int × Int)) : winM 0 ps = 0 := by simp [winM, bitsL_zero, setM]
theorem pickOf_pos {p : Nat × Int} {ps : List (Int × Int)} (h : 0 ≤ (pickOf p ps).1) : p.1 ≠ 0 ∧ (pickOf p ps).1 < 64 ∧ (pickOf p ps).2 = p.2 := by
  have hw := winM_lt p.1 ps
  unfold pickOf at h ⊢
  split at h
  · rename_i h1
    rw [if_pos h1]
    have hw0 : winM p.1 ps ≠ 0 := fun e => by rw [e, bitsL_zero] at h1; simp at h1
    have hc := (low_form _ hw hw0).elim fun _ q => q.2
    refine ⟨fun e => hw0 (by rw [e]; exact winM_zero ps), ?_, rfl⟩
    show ((Lib.ctz 64 (winM p.1 ps) : Nat) : Int) < 64
    omega
  · exact absurd (show (0 : Int) ≤ -1 from h) (by decide)
theorem longM_pos {D : Dfa} {bs : List Nat} {at_ : Int} {may : Nat} (hp : (longM D bs at_ may).1 ≠ 0) : 0 ≤ at_ ∧ at_ < (longM D bs at_ may).2 ∧ (longM D bs at_ may).2 ≤ bs.length := by
  unfold longM at hp ⊢
  split at hp
  · rename_i h2
    rw [if_pos h2]
    obtain ⟨q1, q2⟩ := longTo_pos D bs at_.toNat may (bs.length - at_.toNat) hp
    refine ⟨h2.1, ?_, ?_⟩
    · show at_ < ((longTo D bs at_.toNat may (bs.length - at_.toNat)).2 : Int); omega
    · show ((longTo D bs at_.toNat may (bs.length - at_.toNat)).2 : Int) ≤ _; omega
  · exact absurd rfl hp
theorem pick_pos {D : Dfa} {bs : List Nat} {at_ : Int} {may : Nat} {ps : List (Int × Int)} (h : 0 ≤ (pickM D bs at_ may ps).1) : 0 ≤ at_ ∧ at_ < (pickM D bs at_ may ps).2 ∧ (pickM D bs at_ may ps).2 ≤ bs.length ∧ (pickM D bs at_ may ps).1 < 64 := by
  obtain ⟨h1, h2, h3⟩ := pickOf_pos (p := longM D bs at_ may) (ps := ps) h
  obtain ⟨q1, q2, q3⟩ := longM_pos h1
  exact ⟨q1, by rw [pickM, h3]; exact q2, by rw [pickM, h3]; exact q3, h2⟩

end Go.Proofs.YtnenbihmokolpaaGreatDoor
