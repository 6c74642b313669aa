/-
  The reader's model: more rounds change nothing; a text inside a longer one is read alike.
  A text inside a longer one is read alike: classes, signs, ways.
  Texts put together of others in brackets: what they are read as.
  The law's texts: what they are read as.
  The law's other texts; what the regexes put together match.
  The last text; the contract of Parse, as the laws use it; the laws' texts as the program makes them.
-/
import Derived.Test.YtjbmppbciiemkaaRw
import Derived.Test.YtjbmppbciiemkaaNp
import Derived.Test.YtjbmppbciiemkaaNu

namespace Go.Proofs.Ytjbmppbciiemkaa set_option linter.unusedVariables false set_option linter.unusedSimpArgs false

end Go.Proofs.Ytjbmppbciiemkaa

namespace Go.Proofs.Ytjbmppbciiemkaa set_option linter.unusedVariables false set_option linter.unusedSimpArgs false
open Go.RowKit

/-- What Parse's two results are. -/
def parseR (s : ByteArray) : Rx := match parseM s with | .ok r => r | .error _ => .zero
def parseN (s : ByteArray) : Int := match parseM s with | .ok _ => 0 | .error n => n
theorem parseR_size (s : ByteArray) : (parseR s).size ≤ 500 := by
  unfold parseR
  cases h : parseM s with
  | ok r => exact (parseM_size h).1
  | error n => show Rx.size .zero ≤ 500; decide
theorem parse_un (s : ByteArray) (hs : s.size < 9223372036854775808) (w : World) :
    Calls Try.prog 5 #[.string s] w fun e w' => ∃ v, e = .returned (.tuple #[v, .int .i64 (parseN s)]) ∧ RxV (fun _ => True) w' v (parseR s) ∧ Fr none_ w w' := by
  unfold parseN parseR
  cases h : parseM s with
  | ok r =>
    refine (parse_ok s hs r h w).mono ?_
    rintro e w' ⟨v, rfl, h1, h2⟩
    exact ⟨v, rfl, h1.mono (fun _ _ => trivial), h2⟩
  | error n =>
    refine (parse_no s hs n h w).mono ?_
    rintro e w' ⟨rfl, h2⟩
    exact ⟨_, rfl, RxV.mk_ (kids := []) (Nat.le_refl _) trivial, h2⟩
end Go.Proofs.Ytjbmppbciiemkaa
