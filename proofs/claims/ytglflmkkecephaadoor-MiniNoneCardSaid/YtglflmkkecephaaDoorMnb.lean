/-
  MiniNone: for every input.
-/
import Derived.Test.YtglflmkkecephaaDoorMF
namespace Go.Proofs.YtglflmkkecephaaDoor
open Go.RowKit

theorem mininone_any (v : Value) (D : Dfa) (t : Int) (w : World) (h : DfaIn w v D ∧ (∀ t ∈ D.tags, t < 18446744073709551616) ∧ (∀ r ∈ D.next, ∀ z ∈ r, intDom z) ∧ D.tags.length ≤ 9223372036854775807) (ht : 0 ≤ t ∧ t ≤ 18446744073709551615) (hp : PowOk w) :
    Calls Tryd.prog 7 #[v, .int .u64 t] w fun e w' => e = .returned (.bool true) ∧ Below w.heap.size w w' := by
  obtain ⟨hD, htg, _, htl⟩ := h
  obtain ⟨tn, rfl⟩ := Int.eq_ofNat_of_zero_le ht.1
  have key : Calls Tryd.prog 7 #[v, .int .u64 (tn : Int)] w fun e w' => e = .returned (.bool true) ∧ Fr none_ w w' := by
    cases hl : littleM D with
    | false => exact mininone_big D v tn w hD htl hl hp
    | true =>
      cases hv : validM D with
      | false => exact mininone_bad D v tn w hD htl hl hv hp
      | true => exact mininone_good D v tn w hD htl htg (by omega) hl hv hp
  exact key.mono fun e w' h => ⟨h.1, h.2.below⟩
end Go.Proofs.YtglflmkkecephaaDoor
