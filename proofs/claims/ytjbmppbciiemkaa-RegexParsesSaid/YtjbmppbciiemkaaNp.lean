/-
  The document's example of layer 4 answers true.
  Texts that came in; Over and Parsed of layer 4.
  Parsed of layer 4: the regexes of texts.
-/
import Derived.Test.YtjbmppbciiemkaaNA
import Derived.Test.YtjbmppbciiemkaaNw
import Derived.Test.YtjbmppbciiemkaaPe
import Derived.Test.YtjbmppbciiemkaaPq
namespace Go.Proofs.Ytjbmppbciiemkaa set_option linter.unusedVariables false set_option linter.unusedSimpArgs false
open Go.RowKit

theorem parse_ok (s : ByteArray) (hs : s.size < 9223372036854775808) (r : Rx) (hm : parseM s = .ok r) (w : World) :
    Calls Try.prog 5 #[.string s] w fun e w' => ∃ v, e = .returned (.tuple #[v, .int .i64 0]) ∧ RxV (fun k => w.heap.size ≤ k) w' v r ∧ Fr none_ w w' :=
  (parse_any s hs 604 (.ok r) (by rw [parseB_total, hm]) w).mono fun e w' h => h
theorem parse_no (s : ByteArray) (hs : s.size < 9223372036854775808) (n : Int) (hm : parseM s = .error n) (w : World) :
    Calls Try.prog 5 #[.string s] w fun e w' => e = .returned (.tuple #[.agg #[.int .i64 0, .int .u64 0, .int .u64 0, .int .u64 0, .int .u64 0, .slice none 0 0], .int .i64 n]) ∧ Fr none_ w w' :=
  (parse_any s hs 604 (.error n) (by rw [parseB_total, hm]) w).mono fun e w' h => h

/-- A row of whole numbers in memory. -/
def IntsAt (w : World) (v : Value) (A : List Int) : Prop := ∃ base, w.ownsRow base 3 1 v A.length (intsV A)
theorem IntsAt.nil (w : World) : IntsAt w (.slice none 0 0) [] := ⟨0, World.ownsRow_nil _ _ _ _⟩
theorem IntsAt.move {w w' : World} {v : Value} {A : List Int} (h : IntsAt w v A) (hf : Fr none_ w w') : IntsAt w' v A := by
  obtain ⟨b, h⟩ := h
  exact ⟨b, ownsRow_same h (fun b' hb => hf.block b' (h.lt b' hb).2 (fun h => h))⟩
theorem IntsAt.of {w : World} {v : Value} {l : List Nat} {base : Nat} (h : w.ownsRow base 3 1 v l.length (nums l)) : IntsAt w v (ints l) := by
  refine ⟨base, ?_⟩
  rw [ints_length, ← nums_eq]; exact h
theorem IntsAt.slice {w : World} {v : Value} {A : List Int} (h : IntsAt w v A) : ∃ a cap, v = .slice a A.length cap ∧ A.length ≤ cap := by
  obtain ⟨b, h⟩ := h
  exact ownsRow_slice h
end Go.Proofs.Ytjbmppbciiemkaa

namespace Go.Proofs.Ytjbmppbciiemkaa set_option linter.unusedVariables false set_option linter.unusedSimpArgs false
open Go.RowKit

theorem IntsAt.cell {w : World} {a : Option Addr} {n cap : Nat} {A : List Int} (h : IntsAt w (.slice a n cap) A) {i : Nat} {z : Int} (hz : A[i]? = some z) : ∃ g, a = some ⟨g, 0, none⟩ ∧ w.cell? ⟨g, i, none⟩ = some (.int .i64 z) := by
  obtain ⟨b, h⟩ := h
  have hi := (List.getElem?_eq_some_iff.1 hz).1
  obtain ⟨g, cap', hg, _, _⟩ := h.form (by omega)
  have h' := h
  rw [hg] at h'
  cases hg
  exact ⟨g, rfl, by rw [h'.cellAt i (by omega)]; simp [intsV, hz]⟩
/-- One more regex in a row of the call's own. -/
theorem RxOwn.push {B : Nat} {ok : Nat → Prop} {w w1 : World} {v : Value} {l : List Rx} {cells : List Value} {k : Int} {b0 b1 b2 b3 : Nat} {kids : List Rx} {a : Option Addr} {cap g gcap : Nat}
    (hrow : w.ownsRow B 28 6 v l.length cells)
    (hels : ∀ j r, l[j]? = some r → ∃ cs, cs.length = 6 ∧ (∀ m u, cs[m]? = some u → cells[j * 6 + m]? = some u) ∧ RxC (fun k => ok k ∧ some k ≠ v.ownBlock) w r cs)
    (hc : kids.length ≤ cap) (hkl : RxL (fun i => ok i ∧ some i ≠ v.ownBlock) w a 0 kids)
    (hown1 : w1.ownsRow B 28 6 (.slice (some ⟨g, 0, none⟩) (l.length + 1) gcap) (l.length + 1) (cells ++ [.int .i64 k, .int .u64 b0, .int .u64 b1, .int .u64 b2, .int .u64 b3, .slice a kids.length cap]))
    (hgrow : (w.alloc (.cells #[.int .i64 k, .int .u64 b0, .int .u64 b1, .int .u64 b2, .int .u64 b3, .slice a kids.length cap] 28)).grownBy w1 v.ownBlock)
    (hat : v.ownBlock = some g ∨ g = w.heap.size + 1) :
    RxOwn B ok w1 (.slice (some ⟨g, 0, none⟩) (l.length + 1) gcap) (l ++ [.mk k b0 b1 b2 b3 kids]) ∧ Fr (fun i => B ≤ i) w w1 := by
  have hub : ∀ i, v.ownBlock = some i → B ≤ i := fun i hi => (hrow.lt i hi).1
  constructor
  · exact RxOwn.snoc (B := B) (ok := ok) (w := w.alloc (.cells #[.int .i64 k, .int .u64 b0, .int .u64 b1, .int .u64 b2, .int .u64 b3, .slice a kids.length cap] 28)) (hrow.alloc _) (fun j r hj => by
      obtain ⟨cs, g1, g2, g3⟩ := hels j r hj
      exact ⟨cs, g1, g2, RxC.move (fun i _ hlt => Below.heap_alloc _ _ _ hlt) r cs g3⟩) rfl
      (RxC.cells (k := k) (b0 := b0) (b1 := b1) (b2 := b2) (b3 := b3) hc (RxL.move (fun i _ hlt => Below.heap_alloc _ _ _ hlt) kids a 0 hkl)) hown1 hgrow (by simpa using hat)
  · exact ((Fr.refl (fun i => B ≤ i) w).alloc _).grown hgrow (fun i hi => .inl (hub i hi))
end Go.Proofs.Ytjbmppbciiemkaa

namespace Go.Proofs.Ytjbmppbciiemkaa set_option linter.unusedVariables false set_option linter.unusedSimpArgs false
open Go.RowKit

end Go.Proofs.Ytjbmppbciiemkaa
