/-
  The walks over nfa: a state more, a way more.
  The walk over nfa.closed: its parts.
  The walk over nfa.closed.
  The walks over bits and regex.Has.
  The walks over nfa's machine at work: Begin, Step, Tags, Run.
  The walks over nfa's machine at work: Step, Tags, Run.
  The walks over nfa's machine at work: Tags, Run.
  How great a regex is: nfa's answer, and the document's.
  The walk over nfa.Build.
-/
import Derived.Test.YtjbmppbciiemkaaNw
import Derived.Test.YtjbmppbciiemkaaPk
import Derived.Test.YtjbmppbciiemkaaNr
import Derived.Deep.LoopGhost
import Derived.OwnWalk
import Derived.Maps.AppendAt
import Derived.Laws.AppendOwnNone
import Derived.Sort.OwnSortedInts
import Derived.Test.YtjbmppbciiemkaaShelf
import Derived.Test.YtjbmppbciiemkaaPz
namespace Go.Proofs.Ytjbmppbciiemkaa set_option linter.unusedVariables false set_option linter.unusedSimpArgs false
open Go.RowKit

theorem int_info : (Try.prog.info? 3).map (fun i => (i.zero, i.size, i.bytes)) = some (some (.int .i64 0), 1, 8) := by kernel_rfl

end Go.Proofs.Ytjbmppbciiemkaa

namespace Go.Proofs.Ytjbmppbciiemkaa set_option linter.unusedVariables false set_option linter.unusedSimpArgs false
open Go.RowKit

def intsV (l : List Int) : List Value := l.map (Value.int .i64)
theorem intsV_length (l : List Int) : (intsV l).length = l.length := by simp [intsV]
theorem nums_eq (l : List Nat) : nums l = intsV (ints l) := by simp [nums, intsV, ints]
end Go.Proofs.Ytjbmppbciiemkaa

namespace Go.Proofs.Ytjbmppbciiemkaa set_option linter.unusedVariables false set_option linter.unusedSimpArgs false
open Go.RowKit

theorem ownsRow_slice {w : World} {base : Nat} {e : TypeId} {size : Nat} {v : Value} {n : Nat} {xs : List Value} (h : w.ownsRow base e size v n xs) : ∃ a cap, v = .slice a n cap ∧ n ≤ cap := by
  rcases h.2 with ⟨rfl, rfl⟩ | ⟨g, cap, cur, rfl, _, _, hc, _⟩
  · exact ⟨none, 0, rfl, Nat.le_refl _⟩
  · exact ⟨_, _, rfl, hc⟩


end Go.Proofs.Ytjbmppbciiemkaa

namespace Go.Proofs.Ytjbmppbciiemkaa set_option linter.unusedVariables false set_option linter.unusedSimpArgs false
open Go.RowKit

theorem and_one (x : Nat) : bits BinOp.and IntKind.u64 (x : Int) 1 = ((x % 2 : Nat) : Int) := by
  have h1 : (BitVec.ofInt 64 (x : Int)).toNat = x % 2 ^ 64 := by
    rw [BitVec.ofInt_natCast, BitVec.toNat_ofNat]
  show IntKind.u64.wrap ((BitVec.ofInt 64 (x : Int) &&& BitVec.ofInt 64 1).toNat : Int) = _
  have h2 : (BitVec.ofInt 64 1).toNat = 1 := by decide
  rw [BitVec.toNat_and, h1, h2, IntKind.wrap_u64, Nat.and_one_is_mod]
  omega
theorem tb_of_div (x k : Nat) : ((bits BinOp.and IntKind.u64 ((x / 2 ^ k : Nat) : Int) 1) == 1) = x.testBit k := by
  rw [and_one, Nat.testBit_eq_decide_div_mod_eq]
  rcases Nat.mod_two_eq_zero_or_one (x / 2 ^ k) with h | h <;> rw [h] <;> rfl
set_option maxRecDepth 100000 in
theorem has_0 (b : Nat) (b0 b1 b2 b3 : Nat) (kids : List Rx) (a : Option Addr) (cap : Nat) (w : World) (hb : b < 256) (h4 : b / 64 = 0) :
    Calls Try.prog 10 #[.agg #[.int .i64 1, .int .u64 b0, .int .u64 b1, .int .u64 b2, .int .u64 b3, .slice a kids.length cap], .int .u8 b] w fun e w' => e = .returned (.bool ((Rx.mk 1 b0 b1 b2 b3 kids).has b)) ∧ Fr none_ w w' := by
  have hb' : (b : Int) < 256 := by omega
  have e63 : bits BinOp.and IntKind.u8 (b : Int) 63 = ((b % 64 : Nat) : Int) := and63 b hb
  have HH := Lib.hid (show (Rx.mk 1 b0 b1 b2 b3 kids).has b = (bits BinOp.and IntKind.u64 ((b0 / 2 ^ (b % 64) : Nat) : Int) 1 == 1) by rw [tb_of_div]; simp [Rx.has, h4])
  have hz : ((w.alloc (.cells #[.int .i64 1, .int .u64 b0, .int .u64 b1, .int .u64 b2, .int .u64 b3, .slice a kids.length cap] 28))).cell? ⟨w.heap.size, 1 + b / 64, none⟩ = some (.int .u64 b0) := by rw [h4]; exact cell_of_block (alloc_new _ _) rfl
  have H4 := Lib.hid h4
  clear h4
  go_enter Try.func10, Try.ntmps10
  go_wp2_with fail
  go_ret
  exact ⟨by rw [HH.out]; simp, (Fr.refl none_ w).alloc _⟩
set_option maxRecDepth 100000 in
theorem has_1 (b : Nat) (b0 b1 b2 b3 : Nat) (kids : List Rx) (a : Option Addr) (cap : Nat) (w : World) (hb : b < 256) (h4 : b / 64 = 1) :
    Calls Try.prog 10 #[.agg #[.int .i64 1, .int .u64 b0, .int .u64 b1, .int .u64 b2, .int .u64 b3, .slice a kids.length cap], .int .u8 b] w fun e w' => e = .returned (.bool ((Rx.mk 1 b0 b1 b2 b3 kids).has b)) ∧ Fr none_ w w' := by
  have hb' : (b : Int) < 256 := by omega
  have e63 : bits BinOp.and IntKind.u8 (b : Int) 63 = ((b % 64 : Nat) : Int) := and63 b hb
  have HH := Lib.hid (show (Rx.mk 1 b0 b1 b2 b3 kids).has b = (bits BinOp.and IntKind.u64 ((b1 / 2 ^ (b % 64) : Nat) : Int) 1 == 1) by rw [tb_of_div]; simp [Rx.has, h4])
  have hz : ((w.alloc (.cells #[.int .i64 1, .int .u64 b0, .int .u64 b1, .int .u64 b2, .int .u64 b3, .slice a kids.length cap] 28))).cell? ⟨w.heap.size, 1 + b / 64, none⟩ = some (.int .u64 b1) := by rw [h4]; exact cell_of_block (alloc_new _ _) rfl
  have H4 := Lib.hid h4
  clear h4
  go_enter Try.func10, Try.ntmps10
  go_wp2_with fail
  go_ret
  exact ⟨by rw [HH.out]; simp, (Fr.refl none_ w).alloc _⟩
set_option maxRecDepth 100000 in
theorem has_2 (b : Nat) (b0 b1 b2 b3 : Nat) (kids : List Rx) (a : Option Addr) (cap : Nat) (w : World) (hb : b < 256) (h4 : b / 64 = 2) :
    Calls Try.prog 10 #[.agg #[.int .i64 1, .int .u64 b0, .int .u64 b1, .int .u64 b2, .int .u64 b3, .slice a kids.length cap], .int .u8 b] w fun e w' => e = .returned (.bool ((Rx.mk 1 b0 b1 b2 b3 kids).has b)) ∧ Fr none_ w w' := by
  have hb' : (b : Int) < 256 := by omega
  have e63 : bits BinOp.and IntKind.u8 (b : Int) 63 = ((b % 64 : Nat) : Int) := and63 b hb
  have HH := Lib.hid (show (Rx.mk 1 b0 b1 b2 b3 kids).has b = (bits BinOp.and IntKind.u64 ((b2 / 2 ^ (b % 64) : Nat) : Int) 1 == 1) by rw [tb_of_div]; simp [Rx.has, h4])
  have hz : ((w.alloc (.cells #[.int .i64 1, .int .u64 b0, .int .u64 b1, .int .u64 b2, .int .u64 b3, .slice a kids.length cap] 28))).cell? ⟨w.heap.size, 1 + b / 64, none⟩ = some (.int .u64 b2) := by rw [h4]; exact cell_of_block (alloc_new _ _) rfl
  have H4 := Lib.hid h4
  clear h4
  go_enter Try.func10, Try.ntmps10
  go_wp2_with fail
  go_ret
  exact ⟨by rw [HH.out]; simp, (Fr.refl none_ w).alloc _⟩
set_option maxRecDepth 100000 in
theorem has_3 (b : Nat) (b0 b1 b2 b3 : Nat) (kids : List Rx) (a : Option Addr) (cap : Nat) (w : World) (hb : b < 256) (h4 : b / 64 = 3) :
    Calls Try.prog 10 #[.agg #[.int .i64 1, .int .u64 b0, .int .u64 b1, .int .u64 b2, .int .u64 b3, .slice a kids.length cap], .int .u8 b] w fun e w' => e = .returned (.bool ((Rx.mk 1 b0 b1 b2 b3 kids).has b)) ∧ Fr none_ w w' := by
  have hb' : (b : Int) < 256 := by omega
  have e63 : bits BinOp.and IntKind.u8 (b : Int) 63 = ((b % 64 : Nat) : Int) := and63 b hb
  have HH := Lib.hid (show (Rx.mk 1 b0 b1 b2 b3 kids).has b = (bits BinOp.and IntKind.u64 ((b3 / 2 ^ (b % 64) : Nat) : Int) 1 == 1) by rw [tb_of_div]; simp [Rx.has, h4])
  have hz : ((w.alloc (.cells #[.int .i64 1, .int .u64 b0, .int .u64 b1, .int .u64 b2, .int .u64 b3, .slice a kids.length cap] 28))).cell? ⟨w.heap.size, 1 + b / 64, none⟩ = some (.int .u64 b3) := by rw [h4]; exact cell_of_block (alloc_new _ _) rfl
  have H4 := Lib.hid h4
  clear h4
  go_enter Try.func10, Try.ntmps10
  go_wp2_with fail
  go_ret
  exact ⟨by rw [HH.out]; simp, (Fr.refl none_ w).alloc _⟩
set_option maxRecDepth 100000 in
theorem rhas_any (r : Rx) (b : Nat) (v : Value) (ok : Nat → Prop) (w : World) (hv : RxV ok w v r) (hb : b < 256) :
    Calls Try.prog 10 #[v, .int .u8 b] w fun e w' => e = .returned (.bool (r.has b)) ∧ Fr none_ w w' := by
  obtain ⟨k, b0, b1, b2, b3, kids⟩ := r
  obtain ⟨a, cap, rfl, hc, hl⟩ := hv.open_
  clear hv hl
  by_cases hk : k = 1
  · subst hk
    have : b / 64 = 0 ∨ b / 64 = 1 ∨ b / 64 = 2 ∨ b / 64 = 3 := by omega
    rcases this with h4 | h4 | h4 | h4
    · exact has_0 b b0 b1 b2 b3 kids a cap w hb h4
    · exact has_1 b b0 b1 b2 b3 kids a cap w hb h4
    · exact has_2 b b0 b1 b2 b3 kids a cap w hb h4
    · exact has_3 b b0 b1 b2 b3 kids a cap w hb h4
  · have hk' : (k == 1) = false := by simpa using hk
    have HH := Lib.hid (show (Rx.mk k b0 b1 b2 b3 kids).has b = false by simp [Rx.has, hk])
    clear hk
    go_enter Try.func10, Try.ntmps10
    go_wp2_with fail
    go_ret
    exact ⟨by rw [HH.out]; rfl, (Fr.refl none_ w).alloc _⟩
end Go.Proofs.Ytjbmppbciiemkaa

namespace Go.Proofs.Ytjbmppbciiemkaa set_option linter.unusedVariables false set_option linter.unusedSimpArgs false
open Go.RowKit

end Go.Proofs.Ytjbmppbciiemkaa

namespace Go.Proofs.Ytjbmppbciiemkaa set_option linter.unusedVariables false set_option linter.unusedSimpArgs false
open Go.RowKit

end Go.Proofs.Ytjbmppbciiemkaa

namespace Go.Proofs.Ytjbmppbciiemkaa set_option linter.unusedVariables false set_option linter.unusedSimpArgs false
open Go.RowKit

def bytesN (s : ByteArray) : List Nat := s.data.toList.map fun b => b.toNat
theorem bytesN_length (s : ByteArray) : (bytesN s).length = s.size := by simp [bytesN]
theorem bytesN_take (s : ByteArray) (i : Nat) (h : i < s.size) : (bytesN s).take (i + 1) = (bytesN s).take i ++ [byteAt s i] := by
  rw [List.take_add_one]
  congr 1
  have : (bytesN s)[i]? = some (byteAt s i) := by
    simp only [bytesN, List.getElem?_map, byteAt, h, dif_pos]
    have h2 : s.data.toList[i]? = some s[i] := by
      rw [Array.getElem?_toList]
      exact Array.getElem?_eq_getElem h
    rw [h2]; rfl
  rw [this]; rfl
theorem ints_length (l : List Nat) : (ints l).length = l.length := by simp [ints]

end Go.Proofs.Ytjbmppbciiemkaa

namespace Go.Proofs.Ytjbmppbciiemkaa set_option linter.unusedVariables false set_option linter.unusedSimpArgs false
open Go.RowKit

end Go.Proofs.Ytjbmppbciiemkaa

namespace Go.Proofs.Ytjbmppbciiemkaa set_option linter.unusedVariables false set_option linter.unusedSimpArgs false
open Go.RowKit

theorem buildM_snoc : ∀ (a : List Rx) (r : Rx) (i : Nat) (l : List St) (st : List Nat), buildM (a ++ [r]) i l st =
    (tagM (layM r ((buildM a i l st).1 ++ [St.none]) (buildM a i l st).1.length).1 (layM r ((buildM a i l st).1 ++ [St.none]) (buildM a i l st).1.length).2 (i + a.length), (buildM a i l st).2 ++ [(buildM a i l st).1.length])
  | [], r, i, l, st => by simp [buildM]
  | x :: a, r, i, l, st => by
    simp only [List.cons_append, buildM, List.length_cons]
    rw [buildM_snoc a r (i + 1)]
    rw [show i + 1 + a.length = i + (a.length + 1) by omega]
end Go.Proofs.Ytjbmppbciiemkaa
