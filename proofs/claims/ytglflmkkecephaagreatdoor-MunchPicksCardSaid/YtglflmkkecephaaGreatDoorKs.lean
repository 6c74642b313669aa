/-
  dfa.Build of any regexes; the document's example in numbers.
-/
import Derived.Test.YtglflmkkecephaaGreatDoorKo
import Derived.Test.YtglflmkkecephaaGreatDoorKv
namespace Go.Proofs.YtglflmkkecephaaGreatDoor
open Go.RowKit

def dfaX (rs : List Rx) : Option Dfa := if rs.length > 60 ∨ Rx.sizes rs > 3000 then none else dfaM rs
theorem dbuild_any (rs : List Rx) (a : Option Addr) (cap : Nat) (w : World) (ok : Nat → Prop) (hc : rs.length ≤ cap) (hsz : Rx.sizes rs < 4611686018427387904) (hl : RxL ok w a 0 rs) (hp : PowOk w) :
    Calls Tryz.prog 53 #[.slice a rs.length cap] w fun e w' => BuiltD e w' (dfaX rs) ∧ Fr none_ w w' := by
  by_cases h : rs.length > 60 ∨ Rx.sizes rs > 3000
  · refine (dbuild_many rs a cap w ok hsz hl h).mono ?_
    rintro e w' ⟨rfl, hf⟩
    rw [dfaX, if_pos h]
    exact ⟨rfl, hf⟩
  · rw [dfaX, if_neg h]
    exact dbuild_some rs a cap w ok hc hl (by omega) (by omega) hp
theorem dfaX_run (l : List Rx) {D : Dfa} (h : dfaX l = some D) (bs : List Nat) (hb : ∀ b ∈ bs, b < 256) : runD D bs = runM (buildM l 0 [] []).1 (buildM l 0 [] []).2 bs := by
  unfold dfaX at h
  split at h
  · cases h
  · exact dfa_run l h bs hb
def clsB : List Nat := classesM [rB]
def exB (D : Dfa) : Bool := validM D && decide (runD D [97, 98] = 1) && decide (runD D [97] = 0) && decide (runD D [98] = 0) && decide (0 ≤ goM D 0 97)
theorem cls_B : (classesM [rB]).getD 0 0 = 0 ∧ (classesM [rB]).getD 97 0 = 1 ∧ (classesM [rB]).getD 98 0 = 2 ∧ (classesM [rB]).getD 99 0 = 0 := by decide +kernel
theorem size_B : Rx.sizes [rB] ≤ 3000 := by decide +kernel
theorem dfa_B : ((dfaX [rB]).map exB) = some true := by decide +kernel
theorem dfa_B2 : ∃ D, dfaX [rB] = some D ∧ validM D = true ∧ runD D [97, 98] = 1 ∧ runD D [97] = 0 ∧ runD D [98] = 0 ∧ 0 ≤ goM D 0 97 := by
  have h := dfa_B
  cases hd : dfaX [rB] with
  | none => rw [hd] at h; simp at h
  | some D =>
    rw [hd] at h
    simp only [Option.map_some, Option.some.injEq, exB, Bool.and_eq_true, decide_eq_true_eq] at h
    exact ⟨D, rfl, h.1.1.1.1, h.1.1.1.2, h.1.1.2, h.1.2, h.2⟩
end Go.Proofs.YtglflmkkecephaaGreatDoor
