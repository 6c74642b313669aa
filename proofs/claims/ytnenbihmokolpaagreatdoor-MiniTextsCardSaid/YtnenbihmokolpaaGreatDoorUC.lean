/-
  munch.All: the walk.
  The document's example of layer 7: plain.
  The document's example of layer 7: the walk.
  One set in another: plain, and the walk of bits.In.
  The table of math/bits, as the row lays it.
  A row of pairs that came in.
-/
import Derived.Test.YtnenbihmokolpaaGreatDoorUB
import Derived.LaidLaws
import Derived.Lib.LaidTab
import Derived.Test.YtnenbihmokolpaaGreatDoorRows
import Derived.Deep.Slices
namespace Go.Proofs.YtnenbihmokolpaaGreatDoor set_option linter.unusedVariables false set_option linter.unusedSimpArgs false
open Go.RowKit Go.Shelf
attribute [local go_sem] Oper.semAt_some

def piecesV (l : List (Nat × Int)) : List Value := l.flatMap fun p => [Value.int .u64 (p.1 : Int), Value.int .i64 p.2]
def endM (l : List (Nat × Int)) : Int := (l.getLast?.map (·.2)).getD 0
theorem endM_snoc (l : List (Nat × Int)) (p : Nat × Int) : endM (l ++ [p]) = p.2 := by simp [endM]

/-- Between two rounds of All. -/
structure AllJ (b k : Nat) (w : World) (rec : Loop) (C : List Value) (s : ByteArray) (may : Nat) (a : Option Addr) (len cap : Nat) (pre : List (Nat × Int)) (W : World) : Prop where
  lv : ∃ v, W.heap[b + 1]? = some (.cells #[v] 32 (0, 0)) ∧ W.ownsRow (k + 2) 41 2 v pre.length (piecesV pre)
  at_ : W.heap[b + 1 + 1]? = some (.cells #[.int .i64 (endM pre)] 3 (0, 0))
  loop : W.heap[k + 1]? = some (.loop rec)
  dfr : W.heap[k]? = some (.deferred (some []))
  fr : Fr none_ w W
  sz : k + 2 ≤ W.heap.size
  b3 : W.heap[b + 1 + 1 + 1]? = some (.cells C.toArray 26 (0, 0))
  b4 : W.heap[b + 1 + 1 + 1 + 1]? = some (.cells #[.string s] 9 (0, 0))
  b5 : W.heap[b + 1 + 1 + 1 + 1 + 1]? = some (.cells #[.int .u64 (may : Int)] 28 (0, 0))
  b6 : W.heap[b + 1 + 1 + 1 + 1 + 1 + 1]? = some (.cells #[.slice a len cap] 29 (0, 0))
theorem AllJ.move {b k : Nat} {w : World} {rec : Loop} {C : List Value} {s : ByteArray} {may : Nat} {a : Option Addr} {len cap : Nat} {pre : List (Nat × Int)} {W W' : World} (h : AllJ b k w rec C s may a len cap pre W) (hf : Fr none_ W W') : AllJ b k w rec C s may a len cap pre W' :=
  ⟨h.lv.elim fun v q => ⟨v, hf.at_ q.1 (fun h => h), row_keep q.2 hf (fun _ _ h => h)⟩, hf.at_ h.at_ (fun h => h), hf.at_ h.loop (fun h => h), hf.at_ h.dfr (fun h => h), h.fr.tr hf, by have := hf.size; have := h.sz; omega,
    hf.at_ h.b3 (fun h => h), hf.at_ h.b4 (fun h => h), hf.at_ h.b5 (fun h => h), hf.at_ h.b6 (fun h => h)⟩

end Go.Proofs.YtnenbihmokolpaaGreatDoor

namespace Go.Proofs.YtnenbihmokolpaaGreatDoor set_option linter.unusedVariables false set_option linter.unusedSimpArgs false
open Go.RowKit

end Go.Proofs.YtnenbihmokolpaaGreatDoor

namespace Go.Proofs.YtnenbihmokolpaaGreatDoor set_option linter.unusedVariables false set_option linter.unusedSimpArgs false
open Go.RowKit

theorem PairsIn.lit {w : World} {g : Nat} {x y : Int} {t : TypeId} (h : w.heap[g]? = some (.cells #[.int .i64 x, .int .i64 y] t (0, 0))) : PairsIn w (some ⟨g, 0, none⟩) 1 [(x, y)] := by
  refine ⟨rfl, by decide, fun j p hp => ?_⟩
  have hj : j = 0 := by
    have := (List.getElem?_eq_some_iff.1 hp).1
    simp at this; omega
  subst hj
  have e : (x, y) = p := by simpa using hp
  subst e
  exact ⟨_, rfl, by rw [Addr.add_mid]; exact cell_of_block h rfl, by rw [Addr.add_mid]; exact cell_of_block h rfl⟩
theorem PairsIn.nil (w : World) : PairsIn w none 0 [] := ⟨rfl, by decide, fun j p hp => by simp at hp⟩

end Go.Proofs.YtnenbihmokolpaaGreatDoor

namespace Go.Proofs.YtnenbihmokolpaaGreatDoor set_option linter.unusedVariables false set_option linter.unusedSimpArgs false
open Go.RowKit

end Go.Proofs.YtnenbihmokolpaaGreatDoor

namespace Go.Proofs.YtnenbihmokolpaaGreatDoor set_option linter.unusedVariables false set_option linter.unusedSimpArgs false
open Go.RowKit

end Go.Proofs.YtnenbihmokolpaaGreatDoor

namespace Go.Proofs.YtnenbihmokolpaaGreatDoor set_option linter.unusedVariables false set_option linter.unusedSimpArgs false
open Go.RowKit
open Go.Deep Go.ChangeShapes Go.WideShapes

end Go.Proofs.YtnenbihmokolpaaGreatDoor
