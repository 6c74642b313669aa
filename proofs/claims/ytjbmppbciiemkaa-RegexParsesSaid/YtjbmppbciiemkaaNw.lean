/-
  A machine of some regexes as plain data: how it is made.
  A machine of regexes in memory: what it is made of, and what each change comes to.
  A machine of regexes in memory: its bytes, its numbers.
  A machine of regexes in memory: where it begins; one that is empty.
-/
import Derived.Test.YtjbmppbciiemkaaRx
import Derived.Deep.AppendLies
import Derived.Laws.OwnMore
namespace Go.Proofs.Ytjbmppbciiemkaa set_option linter.unusedVariables false set_option linter.unusedSimpArgs false

structure St where
  free : List Nat
  bytes : Rx
  to : Int
  tag : Int

def St.none : St := ⟨[], Rx.zero, -1, -1⟩
def freeM (l : List St) (i to : Nat) : List St := l.modify i (fun s => { s with free := s.free ++ [to] })
def bytesM (l : List St) (i : Nat) (r : Rx) (to : Nat) : List St := l.modify i (fun s => { s with bytes := r, to := to })
def tagM (l : List St) (i : Nat) (tag : Nat) : List St := l.modify i (fun s => { s with tag := tag })

mutual
/-- A regex laid from a state on; where it ends. -/
def layM : Rx → List St → Nat → List St × Nat
  | .mk kind b0 b1 b2 b3 kids, l, from_ =>
    let fin := l.length
    let l := l ++ [St.none]
    if kind = 0 then (freeM l from_ fin, fin)
    else if kind = 1 then
      let at_ := l.length
      let l := l ++ [St.none]
      (bytesM (freeM l from_ at_) at_ (.mk kind b0 b1 b2 b3 kids) fin, fin)
    else if kind = 2 then
      let y := catM kids l from_
      (freeM y.1 y.2 fin, fin)
    else if kind = 3 then (altM kids l from_ fin, fin)
    else if kind = 4 then
      let loop := l.length
      let l := freeM (freeM (l ++ [St.none]) from_ loop) loop fin
      (headM kids l loop, fin)
    else (l, fin)
def catM : List Rx → List St → Nat → List St × Nat
  | [], l, from_ => (l, from_)
  | k :: ks, l, from_ => let y := layM k l from_; catM ks y.1 y.2
def altM : List Rx → List St → Nat → Nat → List St
  | [], l, _, _ => l
  | k :: ks, l, from_, fin => let y := layM k l from_; altM ks (freeM y.1 y.2 fin) from_ fin
def headM : List Rx → List St → Nat → List St
  | [], l, _ => l
  | k :: _, l, loop => let y := layM k l loop; freeM y.1 y.2 loop
end

/-- All of some, one after the other, the i-th one by the number i. -/
def buildM : List Rx → Nat → List St → List Nat → List St × List Nat
  | [], _, l, starts => (l, starts)
  | r :: rs, i, l, starts =>
    let y := layM r (l ++ [St.none]) l.length
    buildM rs (i + 1) (tagM y.1 y.2 i) (starts ++ [l.length])

theorem freeM_length (l : List St) (i to : Nat) : (freeM l i to).length = l.length := by simp [freeM]
theorem bytesM_length (l : List St) (i : Nat) (r : Rx) (to : Nat) : (bytesM l i r to).length = l.length := by simp [bytesM]
/-- No row of ways by nothing is longer than that. -/
def Short (n : Nat) (l : List St) : Prop := ∀ s ∈ l, s.free.length ≤ n
theorem Short.mono {n m : Nat} {l : List St} (h : Short n l) (hnm : n ≤ m) : Short m l := fun s hs => Nat.le_trans (h s hs) hnm
theorem Short.snoc {n : Nat} {l : List St} (h : Short n l) : Short n (l ++ [St.none]) := by
  intro s hs
  rcases List.mem_append.1 hs with hs | hs
  · exact h s hs
  · simp at hs; subst hs; simp [St.none]
theorem mem_modify {α : Type} {f : α → α} : ∀ {l : List α} {i : Nat} {x : α}, x ∈ l.modify i f → x ∈ l ∨ ∃ y ∈ l, x = f y
  | [], i, x, h => by simp at h
  | a :: l, 0, x, h => by
    simp at h
    rcases h with h | h
    · exact .inr ⟨a, by simp, h⟩
    · exact .inl (by simp [h])
  | a :: l, i + 1, x, h => by
    simp at h
    rcases h with h | h
    · exact .inl (by simp [h])
    · rcases mem_modify h with h | ⟨y, hy, h⟩
      · exact .inl (by simp [h])
      · exact .inr ⟨y, by simp [hy], h⟩
theorem Short.free {n : Nat} {l : List St} (h : Short n l) (i to : Nat) : Short (n + 1) (freeM l i to) := by
  intro s hs
  rcases mem_modify hs with hs | ⟨y, hy, rfl⟩
  · have := h s hs; omega
  · have := h y hy; simp; omega
theorem Short.bytes {n : Nat} {l : List St} (h : Short n l) (i : Nat) (r : Rx) (to : Nat) : Short n (bytesM l i r to) := by
  intro s hs
  rcases mem_modify hs with hs | ⟨y, hy, rfl⟩
  · exact h s hs
  · exact h y hy
theorem Short.tag {n : Nat} {l : List St} (h : Short n l) (i tag : Nat) : Short n (tagM l i tag) := by
  intro s hs
  rcases mem_modify hs with hs | ⟨y, hy, rfl⟩
  · exact h s hs
  · exact h y hy

mutual
/-- How many states come to be, where it ends, how long rows of ways are. -/
theorem layM_facts : ∀ (r : Rx) (l : List St) (from_ : Nat), l.length + 1 ≤ (layM r l from_).1.length ∧ (layM r l from_).1.length ≤ l.length + 2 * r.size ∧ (layM r l from_).2 = l.length ∧
    ∀ n, Short n l → Short (n + (4 * r.size - 1)) (layM r l from_).1
  | .mk kind b0 b1 b2 b3 kids, l, from_ => by
    have hc := catM_facts kids (l ++ [St.none]) from_
    have ha := altM_facts kids (l ++ [St.none]) from_ l.length
    have hh := headM_facts kids (freeM (freeM (l ++ [St.none] ++ [St.none]) from_ (l.length + 1)) (l.length + 1) l.length) (l.length + 1)
    simp only [List.length_append, List.length_cons, List.length_nil, Nat.zero_add, freeM_length] at hc ha hh
    simp only [layM, Rx.size, List.length_append, List.length_cons, List.length_nil, Nat.zero_add]
    split
    · simp only [freeM_length, List.length_append, List.length_cons, List.length_nil]
      refine ⟨by omega, by omega, trivial, fun n hn => ?_⟩
      exact (hn.snoc.free _ _).mono (by omega)
    · split
      · simp only [freeM_length, bytesM_length, List.length_append, List.length_cons, List.length_nil]
        refine ⟨by omega, by omega, trivial, fun n hn => ?_⟩
        exact ((hn.snoc.snoc.free _ _).bytes _ _ _).mono (by omega)
      · split
        · simp only [freeM_length]
          refine ⟨by omega, by omega, trivial, fun n hn => ?_⟩
          exact ((hc.2.2 n hn.snoc).free _ _).mono (by omega)
        · split
          · simp only []
            refine ⟨by omega, by omega, trivial, fun n hn => ?_⟩
            exact (ha.2.2 n hn.snoc).mono (by omega)
          · split
            · simp only []
              refine ⟨by omega, by omega, trivial, fun n hn => ?_⟩
              exact (hh.2.2 (n + 2) ((hn.snoc.snoc.free _ _).free _ _)).mono (by omega)
            · simp only [List.length_append, List.length_cons, List.length_nil]
              refine ⟨by omega, by omega, trivial, fun n hn => ?_⟩
              exact hn.snoc.mono (by omega)
theorem catM_facts : ∀ (ks : List Rx) (l : List St) (from_ : Nat), l.length ≤ (catM ks l from_).1.length ∧ (catM ks l from_).1.length ≤ l.length + 2 * Rx.sizes ks ∧
    ∀ n, Short n l → Short (n + 4 * Rx.sizes ks) (catM ks l from_).1
  | [], l, from_ => by simp only [catM, Rx.sizes]; exact ⟨by omega, by omega, fun n hn => hn⟩
  | k :: ks, l, from_ => by
    have h1 := layM_facts k l from_
    have h2 := catM_facts ks (layM k l from_).1 (layM k l from_).2
    have := k.size_pos
    simp only [catM, Rx.sizes]
    refine ⟨by omega, by omega, fun n hn => ?_⟩
    exact (h2.2.2 _ (h1.2.2.2 n hn)).mono (by omega)
theorem altM_facts : ∀ (ks : List Rx) (l : List St) (from_ fin : Nat), l.length ≤ (altM ks l from_ fin).length ∧ (altM ks l from_ fin).length ≤ l.length + 2 * Rx.sizes ks ∧
    ∀ n, Short n l → Short (n + 4 * Rx.sizes ks) (altM ks l from_ fin)
  | [], l, from_, fin => by simp only [altM, Rx.sizes]; exact ⟨by omega, by omega, fun n hn => hn⟩
  | k :: ks, l, from_, fin => by
    have h1 := layM_facts k l from_
    have h2 := altM_facts ks (freeM (layM k l from_).1 (layM k l from_).2 fin) from_ fin
    have := k.size_pos
    simp only [freeM_length] at h2
    simp only [altM, Rx.sizes]
    refine ⟨by omega, by omega, fun n hn => ?_⟩
    exact (h2.2.2 _ ((h1.2.2.2 n hn).free _ _)).mono (by omega)
theorem headM_facts : ∀ (ks : List Rx) (l : List St) (loop : Nat), l.length ≤ (headM ks l loop).length ∧ (headM ks l loop).length ≤ l.length + 2 * Rx.sizes ks ∧
    ∀ n, Short n l → Short (n + 1 + 4 * Rx.sizes ks) (headM ks l loop)
  | [], l, loop => by simp only [headM, Rx.sizes]; exact ⟨by omega, by omega, fun n hn => hn.mono (by omega)⟩
  | k :: ks, l, loop => by
    have h1 := layM_facts k l loop
    have := k.size_pos
    simp only [headM, Rx.sizes, freeM_length]
    refine ⟨by omega, by omega, fun n hn => ?_⟩
    exact ((h1.2.2.2 n hn).free _ _).mono (by omega)
end
end Go.Proofs.Ytjbmppbciiemkaa

namespace Go.Proofs.Ytjbmppbciiemkaa set_option linter.unusedVariables false set_option linter.unusedSimpArgs false
open Go.RowKit

def St.cells (fv : Value) (cs : List Value) (s : St) : List Value := fv :: (cs ++ [.int .i64 s.to, .int .i64 s.tag])
def nums (l : List Nat) : List Value := l.map fun (n : Nat) => Value.int .i64 (n : Int)

theorem ownsRow_same {w w' : World} {base : Nat} {e : TypeId} {size : Nat} {v : Value} {n : Nat} {xs : List Value} (h : w.ownsRow base e size v n xs) (hb : ∀ b, v.ownBlock = some b → w'.heap[b]? = w.heap[b]?) : w'.ownsRow base e size v n xs := by
  refine ⟨h.1, ?_⟩
  rcases h.2 with hn | ⟨g, cap, cur, rfl, hb', hgg, rest⟩
  · exact .inl hn
  · exact .inr ⟨g, cap, cur, rfl, hb', by rw [hb g rfl]; exact hgg, rest⟩

section
variable {dm : Nat} {S : Nat → Prop} {w : World} {l : List St} {starts : List Nat} {vs vt : Value} {fv : Nat → Value} {cells : List Value}

theorem RxC.zero (ok : Nat → Prop) (w : World) : RxC ok w Rx.zero [.int .i64 0, .int .u64 0, .int .u64 0, .int .u64 0, .int .u64 0, .slice none 0 0] := by
  simp only [Rx.zero, RxC]
  exact ⟨none, 0, rfl, Nat.le_refl _, by simp only [RxL]⟩

end
end Go.Proofs.Ytjbmppbciiemkaa

namespace Go.Proofs.Ytjbmppbciiemkaa set_option linter.unusedVariables false set_option linter.unusedSimpArgs false
open Go.RowKit
section
variable {dm : Nat} {S : Nat → Prop} {w : World} {l : List St} {starts : List Nat} {vs vt : Value} {fv : Nat → Value} {cells : List Value}

end
end Go.Proofs.Ytjbmppbciiemkaa

namespace Go.Proofs.Ytjbmppbciiemkaa set_option linter.unusedVariables false set_option linter.unusedSimpArgs false
open Go.RowKit
section
variable {dm : Nat} {S : Nat → Prop} {w : World} {l : List St} {starts : List Nat} {vs vt : Value} {fv : Nat → Value} {cells : List Value}

end
end Go.Proofs.Ytjbmppbciiemkaa
