/-
  A machine of some regexes as plain data: how it is made.
  A machine of regexes in memory: what it is made of, and what each change comes to.
  A machine of regexes in memory: its bytes, its numbers.
  A machine of regexes in memory: where it begins; one that is empty.
-/
import Derived.Test.YtnenbihmokolpaaGreatDoorRx
import Derived.Deep.AppendLies
import Derived.Laws.OwnMore
namespace Go.Proofs.YtnenbihmokolpaaGreatDoor set_option linter.unusedVariables false set_option linter.unusedSimpArgs false

structure St where
  free : List Nat
  bytes : Rx
  to : Int
  tag : Int

def St.none : St := ⟨[], Rx.zero, -1, -1⟩
def freeM (l : List St) (i to : Nat) : List St := l.modify i (fun s => { s with free := s.free ++ [to] })
def bytesM (l : List St) (i : Nat) (r : Rx) (to : Nat) : List St := l.modify i (fun s => { s with bytes := r, to := to })
def tagM (l : List St) (i : Nat) (tag : Nat) : List St := l.modify i (fun s => { s with tag := tag })

mutual
/-- A regex laid from a state on; where it ends. -/
def layM : Rx → List St → Nat → List St × Nat
  | .mk kind b0 b1 b2 b3 kids, l, from_ =>
    let fin := l.length
    let l := l ++ [St.none]
    if kind = 0 then (freeM l from_ fin, fin)
    else if kind = 1 then
      let at_ := l.length
      let l := l ++ [St.none]
      (bytesM (freeM l from_ at_) at_ (.mk kind b0 b1 b2 b3 kids) fin, fin)
    else if kind = 2 then
      let y := catM kids l from_
      (freeM y.1 y.2 fin, fin)
    else if kind = 3 then (altM kids l from_ fin, fin)
    else if kind = 4 then
      let loop := l.length
      let l := freeM (freeM (l ++ [St.none]) from_ loop) loop fin
      (headM kids l loop, fin)
    else (l, fin)
def catM : List Rx → List St → Nat → List St × Nat
  | [], l, from_ => (l, from_)
  | k :: ks, l, from_ => let y := layM k l from_; catM ks y.1 y.2
def altM : List Rx → List St → Nat → Nat → List St
  | [], l, _, _ => l
  | k :: ks, l, from_, fin => let y := layM k l from_; altM ks (freeM y.1 y.2 fin) from_ fin
def headM : List Rx → List St → Nat → List St
  | [], l, _ => l
  | k :: _, l, loop => let y := layM k l loop; freeM y.1 y.2 loop
end

/-- All of some, one after the other, the i-th one by the number i. -/
def buildM : List Rx → Nat → List St → List Nat → List St × List Nat
  | [], _, l, starts => (l, starts)
  | r :: rs, i, l, starts =>
    let y := layM r (l ++ [St.none]) l.length
    buildM rs (i + 1) (tagM y.1 y.2 i) (starts ++ [l.length])

theorem freeM_length (l : List St) (i to : Nat) : (freeM l i to).length = l.length := by simp [freeM]
theorem bytesM_length (l : List St) (i : Nat) (r : Rx) (to : Nat) : (bytesM l i r to).length = l.length := by simp [bytesM]
theorem tagM_length (l : List St) (i tag : Nat) : (tagM l i tag).length = l.length := by simp [tagM]

/-- No row of ways by nothing is longer than that. -/
def Short (n : Nat) (l : List St) : Prop := ∀ s ∈ l, s.free.length ≤ n
theorem Short.mono {n m : Nat} {l : List St} (h : Short n l) (hnm : n ≤ m) : Short m l := fun s hs => Nat.le_trans (h s hs) hnm
theorem Short.snoc {n : Nat} {l : List St} (h : Short n l) : Short n (l ++ [St.none]) := by
  intro s hs
  rcases List.mem_append.1 hs with hs | hs
  · exact h s hs
  · simp at hs; subst hs; simp [St.none]
theorem mem_modify {α : Type} {f : α → α} : ∀ {l : List α} {i : Nat} {x : α}, x ∈ l.modify i f → x ∈ l ∨ ∃ y ∈ l, x = f y
  | [], i, x, h => by simp at h
  | a :: l, 0, x, h => by
    simp at h
    rcases h with h | h
    · exact .inr ⟨a, by simp, h⟩
    · exact .inl (by simp [h])
  | a :: l, i + 1, x, h => by
    simp at h
    rcases h with h | h
    · exact .inl (by simp [h])
    · rcases mem_modify h with h | ⟨y, hy, h⟩
      · exact .inl (by simp [h])
      · exact .inr ⟨y, by simp [hy], h⟩
theorem Short.free {n : Nat} {l : List St} (h : Short n l) (i to : Nat) : Short (n + 1) (freeM l i to) := by
  intro s hs
  rcases mem_modify hs with hs | ⟨y, hy, rfl⟩
  · have := h s hs; omega
  · have := h y hy; simp; omega
theorem Short.bytes {n : Nat} {l : List St} (h : Short n l) (i : Nat) (r : Rx) (to : Nat) : Short n (bytesM l i r to) := by
  intro s hs
  rcases mem_modify hs with hs | ⟨y, hy, rfl⟩
  · exact h s hs
  · exact h y hy
theorem Short.tag {n : Nat} {l : List St} (h : Short n l) (i tag : Nat) : Short n (tagM l i tag) := by
  intro s hs
  rcases mem_modify hs with hs | ⟨y, hy, rfl⟩
  · exact h s hs
  · exact h y hy

mutual
/-- How many states come to be, where it ends, how long rows of ways are. -/
theorem layM_facts : ∀ (r : Rx) (l : List St) (from_ : Nat), l.length + 1 ≤ (layM r l from_).1.length ∧ (layM r l from_).1.length ≤ l.length + 2 * r.size ∧ (layM r l from_).2 = l.length ∧
    ∀ n, Short n l → Short (n + (4 * r.size - 1)) (layM r l from_).1
  | .mk kind b0 b1 b2 b3 kids, l, from_ => by
    have hc := catM_facts kids (l ++ [St.none]) from_
    have ha := altM_facts kids (l ++ [St.none]) from_ l.length
    have hh := headM_facts kids (freeM (freeM (l ++ [St.none] ++ [St.none]) from_ (l.length + 1)) (l.length + 1) l.length) (l.length + 1)
    simp only [List.length_append, List.length_cons, List.length_nil, Nat.zero_add, freeM_length] at hc ha hh
    simp only [layM, Rx.size, List.length_append, List.length_cons, List.length_nil, Nat.zero_add]
    split
    · simp only [freeM_length, List.length_append, List.length_cons, List.length_nil]
      refine ⟨by omega, by omega, trivial, fun n hn => ?_⟩
      exact (hn.snoc.free _ _).mono (by omega)
    · split
      · simp only [freeM_length, bytesM_length, List.length_append, List.length_cons, List.length_nil]
        refine ⟨by omega, by omega, trivial, fun n hn => ?_⟩
        exact ((hn.snoc.snoc.free _ _).bytes _ _ _).mono (by omega)
      · split
        · simp only [freeM_length]
          refine ⟨by omega, by omega, trivial, fun n hn => ?_⟩
          exact ((hc.2.2 n hn.snoc).free _ _).mono (by omega)
        · split
          · simp only []
            refine ⟨by omega, by omega, trivial, fun n hn => ?_⟩
            exact (ha.2.2 n hn.snoc).mono (by omega)
          · split
            · simp only []
              refine ⟨by omega, by omega, trivial, fun n hn => ?_⟩
              exact (hh.2.2 (n + 2) ((hn.snoc.snoc.free _ _).free _ _)).mono (by omega)
            · simp only [List.length_append, List.length_cons, List.length_nil]
              refine ⟨by omega, by omega, trivial, fun n hn => ?_⟩
              exact hn.snoc.mono (by omega)
theorem catM_facts : ∀ (ks : List Rx) (l : List St) (from_ : Nat), l.length ≤ (catM ks l from_).1.length ∧ (catM ks l from_).1.length ≤ l.length + 2 * Rx.sizes ks ∧
    ∀ n, Short n l → Short (n + 4 * Rx.sizes ks) (catM ks l from_).1
  | [], l, from_ => by simp only [catM, Rx.sizes]; exact ⟨by omega, by omega, fun n hn => hn⟩
  | k :: ks, l, from_ => by
    have h1 := layM_facts k l from_
    have h2 := catM_facts ks (layM k l from_).1 (layM k l from_).2
    have := k.size_pos
    simp only [catM, Rx.sizes]
    refine ⟨by omega, by omega, fun n hn => ?_⟩
    exact (h2.2.2 _ (h1.2.2.2 n hn)).mono (by omega)
theorem altM_facts : ∀ (ks : List Rx) (l : List St) (from_ fin : Nat), l.length ≤ (altM ks l from_ fin).length ∧ (altM ks l from_ fin).length ≤ l.length + 2 * Rx.sizes ks ∧
    ∀ n, Short n l → Short (n + 4 * Rx.sizes ks) (altM ks l from_ fin)
  | [], l, from_, fin => by simp only [altM, Rx.sizes]; exact ⟨by omega, by omega, fun n hn => hn⟩
  | k :: ks, l, from_, fin => by
    have h1 := layM_facts k l from_
    have h2 := altM_facts ks (freeM (layM k l from_).1 (layM k l from_).2 fin) from_ fin
    have := k.size_pos
    simp only [freeM_length] at h2
    simp only [altM, Rx.sizes]
    refine ⟨by omega, by omega, fun n hn => ?_⟩
    exact (h2.2.2 _ ((h1.2.2.2 n hn).free _ _)).mono (by omega)
theorem headM_facts : ∀ (ks : List Rx) (l : List St) (loop : Nat), l.length ≤ (headM ks l loop).length ∧ (headM ks l loop).length ≤ l.length + 2 * Rx.sizes ks ∧
    ∀ n, Short n l → Short (n + 1 + 4 * Rx.sizes ks) (headM ks l loop)
  | [], l, loop => by simp only [headM, Rx.sizes]; exact ⟨by omega, by omega, fun n hn => hn.mono (by omega)⟩
  | k :: ks, l, loop => by
    have h1 := layM_facts k l loop
    have := k.size_pos
    simp only [headM, Rx.sizes, freeM_length]
    refine ⟨by omega, by omega, fun n hn => ?_⟩
    exact ((h1.2.2.2 n hn).free _ _).mono (by omega)
end
end Go.Proofs.YtnenbihmokolpaaGreatDoor

namespace Go.Proofs.YtnenbihmokolpaaGreatDoor set_option linter.unusedVariables false set_option linter.unusedSimpArgs false
open Go.RowKit

def St.cells (fv : Value) (cs : List Value) (s : St) : List Value := fv :: (cs ++ [.int .i64 s.to, .int .i64 s.tag])
def nums (l : List Nat) : List Value := l.map fun (n : Nat) => Value.int .i64 (n : Int)

/-- A machine in the block dm: its rows lie in blocks of S, each in one of its own; its regexes lead to blocks ahead of dm. -/
structure MachD (dm : Nat) (S : Nat → Prop) (w : World) (l : List St) (starts : List Nat) (vs vt : Value) (fv : Nat → Value) (cells : List Value) : Prop where
  head : w.heap[dm]? = some (.cells #[vs, vt] 151 (0, 0))
  rows : w.ownsRow (dm + 1) 155 9 vs l.length cells
  begins : w.ownsRow (dm + 1) 3 1 vt starts.length (nums starts)
  free : ∀ i s, l[i]? = some s → w.ownsRow (dm + 1) 3 1 (fv i) s.free.length (nums s.free)
  data : ∀ i s, l[i]? = some s → ∃ cs, RxC (fun k => k < dm) w s.bytes cs ∧ ∀ m u, (s.cells (fv i) cs)[m]? = some u → cells[i * 9 + m]? = some u
  in1 : ∀ b, vs.ownBlock = some b → S b
  in2 : ∀ b, vt.ownBlock = some b → S b
  in3 : ∀ i b, i < l.length → (fv i).ownBlock = some b → S b
  ap1 : ∀ b, vs.ownBlock = some b → vt.ownBlock ≠ some b
  ap2 : ∀ i b, i < l.length → (fv i).ownBlock = some b → vs.ownBlock ≠ some b ∧ vt.ownBlock ≠ some b
  ap3 : ∀ i j b, i < l.length → j < l.length → (fv i).ownBlock = some b → (fv j).ownBlock = some b → i = j
  sep : ∀ k, S k → dm < k
def Mach (dm : Nat) (S : Nat → Prop) (w : World) (l : List St) (starts : List Nat) : Prop := ∃ vs vt fv cells, MachD dm S w l starts vs vt fv cells

theorem ownsRow_same {w w' : World} {base : Nat} {e : TypeId} {size : Nat} {v : Value} {n : Nat} {xs : List Value} (h : w.ownsRow base e size v n xs) (hb : ∀ b, v.ownBlock = some b → w'.heap[b]? = w.heap[b]?) : w'.ownsRow base e size v n xs := by
  refine ⟨h.1, ?_⟩
  rcases h.2 with hn | ⟨g, cap, cur, rfl, hb', hgg, rest⟩
  · exact .inl hn
  · exact .inr ⟨g, cap, cur, rfl, hb', by rw [hb g rfl]; exact hgg, rest⟩

section
variable {dm : Nat} {S : Nat → Prop} {w : World} {l : List St} {starts : List Nat} {vs vt : Value} {fv : Nat → Value} {cells : List Value}

theorem MachD.at (h : MachD dm S w l starts vs vt fv cells) {i : Nat} (hi : i < l.length) : ∃ s, l[i]? = some s := ⟨l[i], by simp [hi]⟩
theorem MachD.flt (h : MachD dm S w l starts vs vt fv cells) {i b : Nat} (hi : i < l.length) (hb : (fv i).ownBlock = some b) : dm + 1 ≤ b ∧ b < w.heap.size := by
  obtain ⟨s, hs⟩ := h.at hi
  exact (h.free i s hs).lt b hb
theorem MachD.move {T : Nat → Prop} {w' : World} (h : MachD dm S w l starts vs vt fv cells) (hf : Fr T w w') (hT : ∀ k, T k → dm < k ∧ ¬ S k) : MachD dm S w' l starts vs vt fv cells := by
  have hsame : ∀ b, S b → b < w.heap.size → w'.heap[b]? = w.heap[b]? := fun b hb hlt => hf.block b hlt (fun ht => (hT b ht).2 hb)
  refine { h with head := ?_, rows := ?_, begins := ?_, free := ?_, data := ?_ }
  · exact hf.at_ h.head (fun ht => by have := (hT _ ht).1; omega)
  · exact ownsRow_same h.rows (fun b hb => hsame b (h.in1 b hb) (h.rows.lt b hb).2)
  · exact ownsRow_same h.begins (fun b hb => hsame b (h.in2 b hb) (h.begins.lt b hb).2)
  · intro i s hs
    have hi : i < l.length := (List.getElem?_eq_some_iff.1 hs).1
    exact ownsRow_same (h.free i s hs) (fun b hb => hsame b (h.in3 i b hi hb) (h.flt hi hb).2)
  · intro i s hs
    obtain ⟨cs, h1, h2⟩ := h.data i s hs
    exact ⟨cs, RxC.move (fun k hk hlt => hf.block k hlt (fun ht => by have := (hT _ ht).1; omega)) _ cs h1, h2⟩
theorem MachD.alloc (h : MachD dm S w l starts vs vt fv cells) (o : Obj) : MachD dm S (w.alloc o) l starts vs vt fv cells :=
  h.move (T := none_) ((Fr.refl _ w).alloc o) (fun _ h => h.elim)
theorem MachD.drew (h : MachD dm S w l starts vs vt fv cells) : MachD dm S w.drew l starts vs vt fv cells :=
  h.move (T := none_) ((Fr.refl _ w).drew) (fun _ h => h.elim)
theorem MachD.mono {S' : Nat → Prop} (h : MachD dm S w l starts vs vt fv cells) (hs : ∀ k, k < w.heap.size → S k → S' k) (hsep : ∀ k, S' k → dm < k) : MachD dm S' w l starts vs vt fv cells :=
  { h with
    in1 := fun b hb => hs b (h.rows.lt b hb).2 (h.in1 b hb)
    in2 := fun b hb => hs b (h.begins.lt b hb).2 (h.in2 b hb)
    in3 := fun i b hi hb => hs b (h.flt hi hb).2 (h.in3 i b hi hb)
    sep := hsep }
/-- A state's slice of ways, and its nine cells. -/
theorem MachD.form (h : MachD dm S w l starts vs vt fv cells) (hl : 0 < l.length) : ∃ g cap, vs = .slice (some ⟨g, 0, none⟩) l.length cap ∧ dm + 1 ≤ g ∧ g < w.heap.size := h.rows.form hl

theorem zero9 (m : Nat) (u : Value) (h : (St.none.cells (.slice none 0 0) [.int .i64 0, .int .u64 0, .int .u64 0, .int .u64 0, .int .u64 0, .slice none 0 0])[m]? = some u) :
    ([.slice none 0 0, .int .i64 0, .int .u64 0, .int .u64 0, .int .u64 0, .int .u64 0, .slice none 0 0, .int .i64 (-1), .int .i64 (-1)] : List Value)[m]? = some u := h
theorem RxC.zero (ok : Nat → Prop) (w : World) : RxC ok w Rx.zero [.int .i64 0, .int .u64 0, .int .u64 0, .int .u64 0, .int .u64 0, .slice none 0 0] := by
  simp only [Rx.zero, RxC]
  exact ⟨none, 0, rfl, Nat.le_refl _, by simp only [RxL]⟩

/-- One state more. -/
theorem MachD.add (h : MachD dm S w l starts vs vt fv cells) {g cap : Nat} {w1 : World}
    (h3 : w1.ownsRow (dm + 1) 155 9 (.slice (some ⟨g, 0, none⟩) (l.length + 1) cap) (l.length + 1) (cells ++ [.slice none 0 0, .int .i64 0, .int .u64 0, .int .u64 0, .int .u64 0, .int .u64 0, .slice none 0 0, .int .i64 (-1), .int .i64 (-1)]))
    (hg : w.grownBy w1 vs.ownBlock) (hat : vs.ownBlock = some g ∨ g = w.heap.size) :
    MachD dm (fun k => S k ∨ w.heap.size ≤ k) (w1.setCell ⟨dm, 0, none⟩ (.slice (some ⟨g, 0, none⟩) (l.length + 1) cap)) (l ++ [St.none]) starts (.slice (some ⟨g, 0, none⟩) (l.length + 1) cap) vt (fun i => if i < l.length then fv i else .slice none 0 0)
      (cells ++ [.slice none 0 0, .int .i64 0, .int .u64 0, .int .u64 0, .int .u64 0, .int .u64 0, .slice none 0 0, .int .i64 (-1), .int .i64 (-1)]) ∧
    Fr (fun k => k = dm ∨ S k) w (w1.setCell ⟨dm, 0, none⟩ (.slice (some ⟨g, 0, none⟩) (l.length + 1) cap)) := by
  have hdm := lt_of_block h.head
  have hvs : ∀ b, vs.ownBlock = some b → dm + 1 ≤ b ∧ b < w.heap.size := h.rows.lt
  have hsame : ∀ b, b < w.heap.size → b ≠ dm → vs.ownBlock ≠ some b → (w1.setCell ⟨dm, 0, none⟩ (.slice (some ⟨g, 0, none⟩) (l.length + 1) cap)).heap[b]? = w.heap[b]? := by
    intro b hb hne hvb
    rw [Below.heap_setCell _ _ _ _ hne]
    exact hg.block b hb (fun e => hvb e.symm)
  have hgd : dm + 1 ≤ g := by
    rcases hat with hat | hat
    · exact (hvs g hat).1
    · omega
  have hgs : S g ∨ w.heap.size ≤ g := by
    rcases hat with hat | hat
    · exact .inl (h.in1 g hat)
    · exact .inr (by omega)
  have hlen : (l ++ [St.none]).length = l.length + 1 := by simp
  have hcl : cells.length = l.length * 9 := h.rows.1
  refine ⟨⟨?_, ?_, ?_, ?_, ?_, ?_, ?_, ?_, ?_, ?_, ?_, ?_⟩, ?_⟩
  · have := heap_setCell w1 (d := dm) (c := #[vs, vt]) (ty := 151) (fr := (0, 0)) (by rw [hg.block dm hdm (fun e => by have := (hvs dm e.symm).1; omega)]; exact h.head) 0 (.slice (some ⟨g, 0, none⟩) (l.length + 1) cap)
    exact this
  · rw [hlen]
    exact ownsRow_setCell_below h3 (by simp) _
  · exact ownsRow_same h.begins (fun b hb => hsame b (h.begins.lt b hb).2 (by have := (h.begins.lt b hb).1; omega) (fun e => h.ap1 b e hb))
  · intro i s hs
    rcases Nat.lt_or_ge i l.length with hi | hi
    · rw [List.getElem?_append_left hi] at hs
      simp only [if_pos hi]
      exact ownsRow_same (h.free i s hs) (fun b hb => hsame b (h.flt hi hb).2 (by have := (h.flt hi hb).1; omega) (h.ap2 i b hi hb).1)
    · have hil : i = l.length := by
        have := (List.getElem?_eq_some_iff.1 hs).1
        simp at this
        omega
      subst hil
      have hx : St.none = s := by simpa using hs
      subst hx
      simp only [Nat.lt_irrefl, if_false]
      exact World.ownsRow_nil _ (dm + 1) 3 1
  · intro i s hs
    rcases Nat.lt_or_ge i l.length with hi | hi
    · rw [List.getElem?_append_left hi] at hs
      simp only [if_pos hi]
      obtain ⟨cs, h1, h2⟩ := h.data i s hs
      refine ⟨cs, RxC.move (fun k hk hlt => hsame k hlt (by omega) (fun e => by have := (hvs k e).1; omega)) _ cs h1, fun m u hu => ?_⟩
      have := h2 m u hu
      rw [List.getElem?_append_left (List.getElem?_eq_some_iff.1 this).1]
      exact this
    · have hil : i = l.length := by
        have := (List.getElem?_eq_some_iff.1 hs).1
        simp at this
        omega
      subst hil
      have hx : St.none = s := by simpa using hs
      subst hx
      simp only [Nat.lt_irrefl, if_false]
      refine ⟨_, RxC.zero _ _, fun m u hu => ?_⟩
      rw [List.getElem?_append_right (by omega), hcl, show l.length * 9 + m - l.length * 9 = m by omega]
      exact zero9 m u hu
  · intro b hb
    simp only [Value.ownBlock, Option.some.injEq] at hb
    subst hb
    exact hgs
  · exact fun b hb => .inl (h.in2 b hb)
  · intro i b hi hb
    rcases Nat.lt_or_ge i l.length with hi' | hi'
    · simp only [if_pos hi'] at hb
      exact .inl (h.in3 i b hi' hb)
    · simp only [if_neg (Nat.not_lt.2 hi'), Value.ownBlock] at hb
      cases hb
  · intro b hb hvt
    simp only [Value.ownBlock, Option.some.injEq] at hb
    subst hb
    rcases hat with hat | hat
    · exact h.ap1 _ hat hvt
    · have := (h.begins.lt _ hvt).2
      omega
  · intro i b hi hb
    rcases Nat.lt_or_ge i l.length with hi' | hi'
    · simp only [if_pos hi'] at hb
      refine ⟨fun e => ?_, (h.ap2 i b hi' hb).2⟩
      simp only [Value.ownBlock, Option.some.injEq] at e
      subst e
      rcases hat with hat | hat
      · exact (h.ap2 i _ hi' hb).1 hat
      · have := (h.flt hi' hb).2
        omega
    · simp only [if_neg (Nat.not_lt.2 hi'), Value.ownBlock] at hb
      cases hb
  · intro i j b hi hj hbi hbj
    rcases Nat.lt_or_ge i l.length with hi' | hi'
    · rcases Nat.lt_or_ge j l.length with hj' | hj'
      · simp only [if_pos hi'] at hbi
        simp only [if_pos hj'] at hbj
        exact h.ap3 i j b hi' hj' hbi hbj
      · simp only [if_neg (Nat.not_lt.2 hj'), Value.ownBlock] at hbj
        cases hbj
    · simp only [if_neg (Nat.not_lt.2 hi'), Value.ownBlock] at hbi
      cases hbi
  · intro k hk
    rcases hk with hk | hk
    · exact h.sep k hk
    · omega
  · refine ⟨hg.os, hg.tape, hg.output, by simpa using hg.size, fun k hk hn => hsame k hk (fun e => hn (.inl e)) (fun e => hn (.inr (h.in1 k e)))⟩

/-- One state changed. -/
theorem MachD.put (h : MachD dm S w l starts vs vt fv cells) (i : Nat) (f : St → St) (hi : i < l.length) {w' : World} {fvi : Value} {cells' : List Value}
    (hheap : ∀ k, k < w.heap.size → vs.ownBlock ≠ some k → (fv i).ownBlock ≠ some k → w'.heap[k]? = w.heap[k]?)
    (hrows : w'.ownsRow (dm + 1) 155 9 vs l.length cells')
    (hother : ∀ j, (j < i * 9 ∨ i * 9 + 9 ≤ j) → cells'[j]? = cells[j]?)
    (hfree : ∀ s, l[i]? = some s → w'.ownsRow (dm + 1) 3 1 fvi (f s).free.length (nums (f s).free))
    (hdata : ∀ s, l[i]? = some s → ∃ cs, RxC (fun k => k < dm) w' (f s).bytes cs ∧ ∀ m u, ((f s).cells fvi cs)[m]? = some u → cells'[i * 9 + m]? = some u)
    (hat : ∀ b, fvi.ownBlock = some b → (fv i).ownBlock = some b ∨ w.heap.size ≤ b) :
    MachD dm (fun k => S k ∨ w.heap.size ≤ k) w' (l.modify i f) starts vs vt (fun j => if j = i then fvi else fv j) cells' := by
  have hdm := lt_of_block h.head
  have hlen : (l.modify i f).length = l.length := by simp
  have hne : ∀ j s, j ≠ i → (l.modify i f)[j]? = some s → l[j]? = some s := by
    intro j s hj hs
    rw [List.getElem?_modify] at hs
    have : ¬ i = j := fun e => hj e.symm
    simpa [this] using hs
  have heq : ∀ s, (l.modify i f)[i]? = some s → ∃ s0, l[i]? = some s0 ∧ s = f s0 := by
    intro s hs
    rw [List.getElem?_modify] at hs
    cases h0 : l[i]? with
    | none => simp [h0] at hs
    | some s0 => simp [h0] at hs; exact ⟨s0, rfl, hs.symm⟩
  have hcs : ∀ (s : St) (v : Value) (cs : List Value) (W : World), RxC (fun k => k < dm) W s.bytes cs → ∀ m u, (s.cells v cs)[m]? = some u → m < 9 := by
    intro s v cs W hr m u hu
    have h6 : cs.length = 6 := by
      cases hs : s.bytes with
      | mk k b0 b1 b2 b3 kids =>
      rw [hs] at hr
      simp only [RxC] at hr
      obtain ⟨a, cap, rfl, _⟩ := hr
      rfl
    have := (List.getElem?_eq_some_iff.1 hu).1
    simp [St.cells, h6] at this
    omega
  refine ⟨?_, ?_, ?_, ?_, ?_, ?_, ?_, ?_, ?_, ?_, ?_, ?_⟩
  · rw [hheap dm hdm (fun e => by have := (h.rows.lt dm e).1; omega) (fun e => by have := (h.flt hi e).1; omega)]
    exact h.head
  · rw [hlen]; exact hrows
  · exact ownsRow_same h.begins (fun b hb => hheap b (h.begins.lt b hb).2 (fun e => h.ap1 b e hb) (fun e => (h.ap2 i b hi e).2 hb))
  · intro j s hs
    by_cases hj : j = i
    · subst hj
      obtain ⟨s0, h0, rfl⟩ := heq s hs
      simp only [if_true]
      exact hfree s0 h0
    · simp only [if_neg hj]
      have hs' := hne j s hj hs
      have hjl := (List.getElem?_eq_some_iff.1 hs').1
      exact ownsRow_same (h.free j s hs') (fun b hb => hheap b (h.flt hjl hb).2 (h.ap2 j b hjl hb).1 (fun e => hj (h.ap3 j i b hjl hi hb e)))
  · intro j s hs
    by_cases hj : j = i
    · subst hj
      obtain ⟨s0, h0, rfl⟩ := heq s hs
      simp only [if_true]
      exact hdata s0 h0
    · simp only [if_neg hj]
      have hs' := hne j s hj hs
      obtain ⟨cs, h1, h2⟩ := h.data j s hs'
      refine ⟨cs, RxC.move (fun k hk hlt => hheap k hlt (fun e => by have := (h.rows.lt k e).1; omega) (fun e => by have := (h.flt hi e).1; omega)) _ cs h1, fun m u hu => ?_⟩
      have hm := hcs s (fv j) cs w h1 m u hu
      rw [hother (j * 9 + m) (by omega)]
      exact h2 m u hu
  · exact fun b hb => .inl (h.in1 b hb)
  · exact fun b hb => .inl (h.in2 b hb)
  · intro j b hj hb
    rw [hlen] at hj
    by_cases hji : j = i
    · simp only [if_pos hji] at hb
      rcases hat b hb with h' | h'
      · exact .inl (h.in3 i b hi h')
      · exact .inr h'
    · simp only [if_neg hji] at hb
      exact .inl (h.in3 j b hj hb)
  · exact h.ap1
  · intro j b hj hb
    rw [hlen] at hj
    by_cases hji : j = i
    · simp only [if_pos hji] at hb
      rcases hat b hb with h' | h'
      · exact h.ap2 i b hi h'
      · exact ⟨fun e => by have := (h.rows.lt b e).2; omega, fun e => by have := (h.begins.lt b e).2; omega⟩
    · simp only [if_neg hji] at hb
      exact h.ap2 j b hj hb
  · intro j k b hj hk hbj hbk
    rw [hlen] at hj hk
    by_cases hji : j = i
    · by_cases hki : k = i
      · omega
      · simp only [if_pos hji] at hbj
        simp only [if_neg hki] at hbk
        rcases hat b hbj with h' | h'
        · exact absurd (h.ap3 k i b hk hi hbk h') hki
        · have := (h.flt hk hbk).2; omega
    · by_cases hki : k = i
      · simp only [if_neg hji] at hbj
        simp only [if_pos hki] at hbk
        rcases hat b hbk with h' | h'
        · exact absurd (h.ap3 j i b hj hi hbj h') hji
        · have := (h.flt hj hbj).2; omega
      · simp only [if_neg hji] at hbj
        simp only [if_neg hki] at hbk
        exact h.ap3 j k b hj hk hbj hbk
  · intro k hk
    rcases hk with hk | hk
    · exact h.sep k hk
    · omega

theorem nums_length (l : List Nat) : (nums l).length = l.length := by simp [nums]
theorem nums_snoc (l : List Nat) (n : Nat) : nums (l ++ [n]) = nums l ++ [.int .i64 n] := by simp [nums]

/-- One way more. -/
theorem MachD.freed {g cap : Nat} (h : MachD dm S w l starts (.slice (some ⟨g, 0, none⟩) l.length cap) vt fv cells) {i to : Nat} {st : St} (hst : l[i]? = some st) {g2 cap2 : Nat} {w1 : World}
    (hown : w1.ownsRow (dm + 1) 3 1 (.slice (some ⟨g2, 0, none⟩) (st.free.length + 1) cap2) (st.free.length + 1) (nums st.free ++ [.int .i64 to]))
    (hg : w.grownBy w1 (fv i).ownBlock) (hat : (fv i).ownBlock = some g2 ∨ g2 = w.heap.size) :
    Mach dm (fun k => S k ∨ w.heap.size ≤ k) (w1.setCell ⟨g, i * 9, none⟩ (.slice (some ⟨g2, 0, none⟩) (st.free.length + 1) cap2)) (freeM l i to) starts ∧
    Fr (fun k => k = dm ∨ S k) w (w1.setCell ⟨g, i * 9, none⟩ (.slice (some ⟨g2, 0, none⟩) (st.free.length + 1) cap2)) := by
  have hi : i < l.length := (List.getElem?_eq_some_iff.1 hst).1
  have hgS : S g := h.in1 g rfl
  have hgl := h.rows.lt g rfl
  have hne : ∀ b, (fv i).ownBlock = some b → b ≠ g := fun b hb e => (h.ap2 i b hi hb).1 (by rw [e]; rfl)
  have hg2g : g2 ≠ g := by
    rcases hat with hat | hat
    · exact hne g2 hat
    · omega
  have hrow1 : w1.ownsRow (dm + 1) 155 9 (.slice (some ⟨g, 0, none⟩) l.length cap) l.length cells :=
    ownsRow_same h.rows (fun b hb => hg.block b (h.rows.lt b hb).2 (fun e => by
      simp only [Value.ownBlock, Option.some.injEq] at hb
      exact hne b e.symm hb.symm))
  have hset := (hrow1.stored (i * 9) (.slice (some ⟨g2, 0, none⟩) (st.free.length + 1) cap2)).1
  have hheap : ∀ k, k < w.heap.size → (Value.slice (some ⟨g, 0, none⟩) l.length cap).ownBlock ≠ some k → (fv i).ownBlock ≠ some k → (w1.setCell ⟨g, i * 9, none⟩ (.slice (some ⟨g2, 0, none⟩) (st.free.length + 1) cap2)).heap[k]? = w.heap[k]? := by
    intro k hk h1 h2
    rw [Below.heap_setCell _ _ _ _ (fun e => h1 (by simp [Value.ownBlock, e]))]
    exact hg.block k hk (fun e => h2 e.symm)
  have hcl : cells.length = l.length * 9 := h.rows.1
  refine ⟨⟨_, _, _, _, h.put i (fun s => { s with free := s.free ++ [to] }) hi (w' := w1.setCell ⟨g, i * 9, none⟩ (.slice (some ⟨g2, 0, none⟩) (st.free.length + 1) cap2)) (fvi := .slice (some ⟨g2, 0, none⟩) (st.free.length + 1) cap2) hheap hset ?_ ?_ ?_ ?_⟩, ?_⟩
  · intro j hj
    rw [List.getElem?_set]
    split
    · omega
    · rfl
  · intro s hs
    have : st = s := by rw [hst] at hs; simpa using hs
    subst this
    simp only [List.length_append, List.length_cons, List.length_nil, Nat.zero_add, nums_snoc]
    exact ownsRow_same hown (fun b hb => by
      simp only [Value.ownBlock, Option.some.injEq] at hb
      subst hb
      exact Below.heap_setCell _ _ _ _ hg2g)
  · intro s hs
    have : st = s := by rw [hst] at hs; simpa using hs
    subst this
    obtain ⟨cs, h1, h2⟩ := h.data i st hst
    refine ⟨cs, RxC.move (fun k hk hlt => hheap k hlt (fun e => by have := (h.rows.lt k e).1; omega) (fun e => by have := (h.flt hi e).1; omega)) _ cs h1, fun m u hu => ?_⟩
    cases m with
    | zero =>
      simp only [St.cells, List.getElem?_cons_zero, Option.some.injEq] at hu
      subst hu
      rw [List.getElem?_set]
      simp only [Nat.add_zero, if_true]
      rw [if_pos (by omega)]
    | succ m =>
      rw [List.getElem?_set, if_neg (by omega)]
      exact h2 (m + 1) u (by simpa [St.cells] using hu)
  · intro b hb
    simp only [Value.ownBlock, Option.some.injEq] at hb
    subst hb
    rcases hat with hat | hat
    · exact .inl hat
    · exact .inr (by omega)
  · refine ⟨hg.os, hg.tape, hg.output, by simpa using hg.size, fun k hk hn => hheap k hk (fun e => hn (.inr ?_)) (fun e => hn (.inr (h.in3 i k hi e)))⟩
    simp only [Value.ownBlock, Option.some.injEq] at e
    subst e
    exact hgS
end
end Go.Proofs.YtnenbihmokolpaaGreatDoor

namespace Go.Proofs.YtnenbihmokolpaaGreatDoor set_option linter.unusedVariables false set_option linter.unusedSimpArgs false
open Go.RowKit
section
variable {dm : Nat} {S : Nat → Prop} {w : World} {l : List St} {starts : List Nat} {vs vt : Value} {fv : Nat → Value} {cells : List Value}

/-- A state gets its bytes, and where it goes by one of them. -/
theorem MachD.byted {g cap : Nat} (h : MachD dm S w l starts (.slice (some ⟨g, 0, none⟩) l.length cap) vt fv cells) {i : Nat} (hi : i < l.length) {k : Int} {b0 b1 b2 b3 n cap2 : Nat} {a : Option Addr} {r : Rx}
    (hr : RxC (fun j => j < dm) w r [.int .i64 k, .int .u64 b0, .int .u64 b1, .int .u64 b2, .int .u64 b3, .slice a n cap2]) (fin : Nat) :
    Mach dm (fun j => S j ∨ w.heap.size ≤ j) (((((((w.setCell ⟨g, i * 9 + 1, none⟩ (.int .i64 k)).setCell ⟨g, i * 9 + 2, none⟩ (.int .u64 b0)).setCell ⟨g, i * 9 + 3, none⟩ (.int .u64 b1)).setCell ⟨g, i * 9 + 4, none⟩ (.int .u64 b2)).setCell ⟨g, i * 9 + 5, none⟩ (.int .u64 b3)).setCell ⟨g, i * 9 + 6, none⟩ (.slice a n cap2)).setCell ⟨g, i * 9 + 7, none⟩ (.int .i64 fin)) (bytesM l i r fin) starts ∧
    Fr (fun j => j = dm ∨ S j) w (((((((w.setCell ⟨g, i * 9 + 1, none⟩ (.int .i64 k)).setCell ⟨g, i * 9 + 2, none⟩ (.int .u64 b0)).setCell ⟨g, i * 9 + 3, none⟩ (.int .u64 b1)).setCell ⟨g, i * 9 + 4, none⟩ (.int .u64 b2)).setCell ⟨g, i * 9 + 5, none⟩ (.int .u64 b3)).setCell ⟨g, i * 9 + 6, none⟩ (.slice a n cap2)).setCell ⟨g, i * 9 + 7, none⟩ (.int .i64 fin)) := by
  have hgS : S g := h.in1 g rfl
  have hgl := h.rows.lt g rfl
  have hcl : cells.length = l.length * 9 := h.rows.1
  have hrow := h.rows
  have r1 := (hrow.stored (i * 9 + 1) (.int .i64 k)).1
  have r2 := (r1.stored (i * 9 + 2) (.int .u64 b0)).1
  have r3 := (r2.stored (i * 9 + 3) (.int .u64 b1)).1
  have r4 := (r3.stored (i * 9 + 4) (.int .u64 b2)).1
  have r5 := (r4.stored (i * 9 + 5) (.int .u64 b3)).1
  have r6 := (r5.stored (i * 9 + 6) (.slice a n cap2)).1
  have r7 := (r6.stored (i * 9 + 7) (.int .i64 fin)).1
  have hheap : ∀ j, j ≠ g → (((((((w.setCell ⟨g, i * 9 + 1, none⟩ (.int .i64 k)).setCell ⟨g, i * 9 + 2, none⟩ (.int .u64 b0)).setCell ⟨g, i * 9 + 3, none⟩ (.int .u64 b1)).setCell ⟨g, i * 9 + 4, none⟩ (.int .u64 b2)).setCell ⟨g, i * 9 + 5, none⟩ (.int .u64 b3)).setCell ⟨g, i * 9 + 6, none⟩ (.slice a n cap2)).setCell ⟨g, i * 9 + 7, none⟩ (.int .i64 fin)).heap[j]? = w.heap[j]? := by
    intro j hj
    rw [Below.heap_setCell _ _ _ _ hj, Below.heap_setCell _ _ _ _ hj, Below.heap_setCell _ _ _ _ hj, Below.heap_setCell _ _ _ _ hj, Below.heap_setCell _ _ _ _ hj, Below.heap_setCell _ _ _ _ hj, Below.heap_setCell _ _ _ _ hj]
  obtain ⟨st, hst⟩ := h.at hi
  obtain ⟨cs, hc1, hc2⟩ := h.data i st hst
  have h6 : cs.length = 6 := by
    cases hs : st.bytes with
    | mk k b0 b1 b2 b3 kids =>
    rw [hs] at hc1
    simp only [RxC] at hc1
    obtain ⟨a, cap, rfl, _⟩ := hc1
    rfl
  have t0 := hc2 0 (fv i) rfl
  have t8 := hc2 8 (.int .i64 st.tag) (by
    match cs, h6 with
    | [_, _, _, _, _, _], _ => rfl)
  refine ⟨⟨_, _, _, _, h.put i (fun s => { s with bytes := r, to := fin }) hi (fvi := fv i) (fun j hj h1 h2 => hheap j (fun e => h1 (by rw [e]; rfl))) r7 ?_ ?_ ?_ (fun b hb => .inl hb)⟩, ?_⟩
  · intro j hj
    rw [List.getElem?_set_ne (by omega), List.getElem?_set_ne (by omega), List.getElem?_set_ne (by omega), List.getElem?_set_ne (by omega), List.getElem?_set_ne (by omega), List.getElem?_set_ne (by omega), List.getElem?_set_ne (by omega)]
  · intro s hs
    exact ownsRow_same (h.free i s hs) (fun b hb => hheap b (fun e => (h.ap2 i b hi hb).1 (by rw [e]; rfl)))
  · intro s hs
    have : st = s := by rw [hst] at hs; simpa using hs
    subst this
    refine ⟨_, RxC.move (fun j hj hlt => hheap j (by omega)) _ _ hr, fun m u hu => ?_⟩
    rcases m with _ | _ | _ | _ | _ | _ | _ | _ | _ | m
    · rw [List.getElem?_set_ne (by omega), List.getElem?_set_ne (by omega), List.getElem?_set_ne (by omega), List.getElem?_set_ne (by omega), List.getElem?_set_ne (by omega), List.getElem?_set_ne (by omega), List.getElem?_set_ne (by omega)]
      simp only [St.cells, List.getElem?_cons_zero, List.getElem?_cons_succ, List.cons_append, List.nil_append, Option.some.injEq] at hu
      subst hu
      exact t0
    · rw [List.getElem?_set_ne (by omega), List.getElem?_set_ne (by omega), List.getElem?_set_ne (by omega), List.getElem?_set_ne (by omega), List.getElem?_set_ne (by omega), List.getElem?_set_ne (by omega), List.getElem?_set_self (by first | omega | (simp only [List.length_set]; omega))]
      simpa [St.cells] using hu
    · rw [List.getElem?_set_ne (by omega), List.getElem?_set_ne (by omega), List.getElem?_set_ne (by omega), List.getElem?_set_ne (by omega), List.getElem?_set_ne (by omega), List.getElem?_set_self (by first | omega | (simp only [List.length_set]; omega))]
      simpa [St.cells] using hu
    · rw [List.getElem?_set_ne (by omega), List.getElem?_set_ne (by omega), List.getElem?_set_ne (by omega), List.getElem?_set_ne (by omega), List.getElem?_set_self (by first | omega | (simp only [List.length_set]; omega))]
      simpa [St.cells] using hu
    · rw [List.getElem?_set_ne (by omega), List.getElem?_set_ne (by omega), List.getElem?_set_ne (by omega), List.getElem?_set_self (by first | omega | (simp only [List.length_set]; omega))]
      simpa [St.cells] using hu
    · rw [List.getElem?_set_ne (by omega), List.getElem?_set_ne (by omega), List.getElem?_set_self (by first | omega | (simp only [List.length_set]; omega))]
      simpa [St.cells] using hu
    · rw [List.getElem?_set_ne (by omega), List.getElem?_set_self (by first | omega | (simp only [List.length_set]; omega))]
      simpa [St.cells] using hu
    · rw [List.getElem?_set_self (by first | omega | (simp only [List.length_set]; omega))]
      simpa [St.cells] using hu
    · rw [List.getElem?_set_ne (by omega), List.getElem?_set_ne (by omega), List.getElem?_set_ne (by omega), List.getElem?_set_ne (by omega), List.getElem?_set_ne (by omega), List.getElem?_set_ne (by omega), List.getElem?_set_ne (by omega)]
      simp only [St.cells, List.getElem?_cons_zero, List.getElem?_cons_succ, List.cons_append, List.nil_append, Option.some.injEq] at hu
      subst hu
      exact t8
    · simp [St.cells] at hu
  · exact ((((((((Fr.refl (fun j => j = dm ∨ S j) w).setCell (p := ⟨g, i * 9 + 1, none⟩) (.inl (.inr hgS)) (.int .i64 k)).setCell (p := ⟨g, i * 9 + 2, none⟩) (.inl (.inr hgS)) (.int .u64 b0)).setCell (p := ⟨g, i * 9 + 3, none⟩) (.inl (.inr hgS)) (.int .u64 b1)).setCell (p := ⟨g, i * 9 + 4, none⟩) (.inl (.inr hgS)) (.int .u64 b2)).setCell (p := ⟨g, i * 9 + 5, none⟩) (.inl (.inr hgS)) (.int .u64 b3)).setCell (p := ⟨g, i * 9 + 6, none⟩) (.inl (.inr hgS)) (.slice a n cap2)).setCell (p := ⟨g, i * 9 + 7, none⟩) (.inl (.inr hgS)) (.int .i64 fin))

/-- A state gets its number. -/
theorem MachD.tagged {g cap : Nat} (h : MachD dm S w l starts (.slice (some ⟨g, 0, none⟩) l.length cap) vt fv cells) {i : Nat} (hi : i < l.length) (tag : Nat) :
    Mach dm (fun j => S j ∨ w.heap.size ≤ j) (w.setCell ⟨g, i * 9 + 8, none⟩ (.int .i64 tag)) (tagM l i tag) starts ∧
    Fr (fun j => j = dm ∨ S j) w (w.setCell ⟨g, i * 9 + 8, none⟩ (.int .i64 tag)) := by
  have hgS : S g := h.in1 g rfl
  have hcl : cells.length = l.length * 9 := h.rows.1
  have r1 := (h.rows.stored (i * 9 + 8) (.int .i64 tag)).1
  have hheap : ∀ j, j ≠ g → (w.setCell ⟨g, i * 9 + 8, none⟩ (.int .i64 tag)).heap[j]? = w.heap[j]? := by
    intro j hj
    rw [Below.heap_setCell _ _ _ _ hj]
  obtain ⟨st, hst⟩ := h.at hi
  obtain ⟨cs, hc1, hc2⟩ := h.data i st hst
  have h6 : cs.length = 6 := by
    cases hs : st.bytes with
    | mk k b0 b1 b2 b3 kids =>
    rw [hs] at hc1
    simp only [RxC] at hc1
    obtain ⟨a, cap, rfl, _⟩ := hc1
    rfl
  refine ⟨⟨_, _, _, _, h.put i (fun s => { s with tag := tag }) hi (fvi := fv i) (fun j hj h1 h2 => hheap j (fun e => h1 (by rw [e]; rfl))) r1 ?_ ?_ ?_ (fun b hb => .inl hb)⟩, ?_⟩
  · intro j hj
    rw [List.getElem?_set_ne (by omega)]
  · intro s hs
    exact ownsRow_same (h.free i s hs) (fun b hb => hheap b (fun e => (h.ap2 i b hi hb).1 (by rw [e]; rfl)))
  · intro s hs
    have : st = s := by rw [hst] at hs; simpa using hs
    subst this
    refine ⟨cs, RxC.move (fun j hj hlt => hheap j (by have := (h.rows.lt g rfl).1; omega)) _ _ hc1, fun m u hu => ?_⟩
    by_cases hm8 : m = 8
    · subst hm8
      rw [List.getElem?_set_self (by omega)]
      match cs, h6 with
      | [_, _, _, _, _, _], _ => simpa [St.cells] using hu
    · have hm9 : m < 9 := by
        have := (List.getElem?_eq_some_iff.1 hu).1
        simp [St.cells, h6] at this
        omega
      rw [List.getElem?_set_ne (by omega)]
      refine hc2 m u ?_
      match cs, h6, m, hm8, hm9, hu with
      | [_, _, _, _, _, _], _, 0, _, _, hu => exact hu
      | [_, _, _, _, _, _], _, 1, _, _, hu => exact hu
      | [_, _, _, _, _, _], _, 2, _, _, hu => exact hu
      | [_, _, _, _, _, _], _, 3, _, _, hu => exact hu
      | [_, _, _, _, _, _], _, 4, _, _, hu => exact hu
      | [_, _, _, _, _, _], _, 5, _, _, hu => exact hu
      | [_, _, _, _, _, _], _, 6, _, _, hu => exact hu
      | [_, _, _, _, _, _], _, 7, _, _, hu => exact hu
      | [_, _, _, _, _, _], _, m + 8, hm8, hm9, hu => omega
  · exact ((Fr.refl (fun j => j = dm ∨ S j) w).setCell (p := ⟨g, i * 9 + 8, none⟩) (.inl (.inr hgS)) (.int .i64 tag))
end
end Go.Proofs.YtnenbihmokolpaaGreatDoor

namespace Go.Proofs.YtnenbihmokolpaaGreatDoor set_option linter.unusedVariables false set_option linter.unusedSimpArgs false
open Go.RowKit
section
variable {dm : Nat} {S : Nat → Prop} {w : World} {l : List St} {starts : List Nat} {vs vt : Value} {fv : Nat → Value} {cells : List Value}

theorem MachD.empty {w : World} {dm : Nat} (hb : w.heap[dm]? = some (.cells #[.slice none 0 0, .slice none 0 0] 151 (0, 0))) :
    MachD dm (fun k => dm < k) w [] [] (.slice none 0 0) (.slice none 0 0) (fun _ => .slice none 0 0) [] := by
  refine ⟨hb, World.ownsRow_nil _ _ _ _, World.ownsRow_nil _ (dm + 1) 3 1, ?_, ?_, ?_, ?_, ?_, ?_, ?_, ?_, fun k h => h⟩
  · intro i s h; simp at h
  · intro i s h; simp at h
  · intro b h; simp [Value.ownBlock] at h
  · intro b h; simp [Value.ownBlock] at h
  · intro i b h; simp at h
  · intro b h; simp [Value.ownBlock] at h
  · intro i b h; simp at h
  · intro i j b h; simp at h

/-- One beginning more. -/
theorem MachD.begun (h : MachD dm S w l starts vs vt fv cells) {n g cap : Nat} {w1 : World}
    (h3 : w1.ownsRow (dm + 1) 3 1 (.slice (some ⟨g, 0, none⟩) (starts.length + 1) cap) (starts.length + 1) (nums starts ++ [.int .i64 n]))
    (hg : w.grownBy w1 vt.ownBlock) (hat : vt.ownBlock = some g ∨ g = w.heap.size) :
    MachD dm (fun k => S k ∨ w.heap.size ≤ k) (w1.setCell ⟨dm, 1, none⟩ (.slice (some ⟨g, 0, none⟩) (starts.length + 1) cap)) l (starts ++ [n]) vs (.slice (some ⟨g, 0, none⟩) (starts.length + 1) cap) fv cells ∧
    Fr (fun k => k = dm ∨ S k) w (w1.setCell ⟨dm, 1, none⟩ (.slice (some ⟨g, 0, none⟩) (starts.length + 1) cap)) := by
  have hdm := lt_of_block h.head
  have hvt : ∀ b, vt.ownBlock = some b → dm + 1 ≤ b ∧ b < w.heap.size := h.begins.lt
  have hsame : ∀ b, b < w.heap.size → b ≠ dm → vt.ownBlock ≠ some b → (w1.setCell ⟨dm, 1, none⟩ (.slice (some ⟨g, 0, none⟩) (starts.length + 1) cap)).heap[b]? = w.heap[b]? := by
    intro b hb hne hvb
    rw [Below.heap_setCell _ _ _ _ hne]
    exact hg.block b hb (fun e => hvb e.symm)
  have hgs : S g ∨ w.heap.size ≤ g := by
    rcases hat with hat | hat
    · exact .inl (h.in2 g hat)
    · exact .inr (by omega)
  refine ⟨⟨?_, ?_, ?_, ?_, ?_, ?_, ?_, ?_, ?_, ?_, ?_, ?_⟩, ?_⟩
  · have := heap_setCell w1 (d := dm) (c := #[vs, vt]) (ty := 151) (fr := (0, 0)) (by rw [hg.block dm hdm (fun e => by have := (hvt dm e.symm).1; omega)]; exact h.head) 1 (.slice (some ⟨g, 0, none⟩) (starts.length + 1) cap)
    exact this
  · exact ownsRow_same h.rows (fun b hb => hsame b (h.rows.lt b hb).2 (by have := (h.rows.lt b hb).1; omega) (h.ap1 b hb))
  · rw [List.length_append, nums_snoc]
    exact ownsRow_setCell_below h3 (by simp) _
  · intro i s hs
    have hi : i < l.length := (List.getElem?_eq_some_iff.1 hs).1
    exact ownsRow_same (h.free i s hs) (fun b hb => hsame b (h.flt hi hb).2 (by have := (h.flt hi hb).1; omega) (h.ap2 i b hi hb).2)
  · intro i s hs
    obtain ⟨cs, h1, h2⟩ := h.data i s hs
    exact ⟨cs, RxC.move (fun k hk hlt => hsame k hlt (by omega) (fun e => by have := (hvt k e).1; omega)) _ cs h1, h2⟩
  · exact fun b hb => .inl (h.in1 b hb)
  · intro b hb
    simp only [Value.ownBlock, Option.some.injEq] at hb
    subst hb
    exact hgs
  · exact fun i b hi hb => .inl (h.in3 i b hi hb)
  · intro b hb hvb
    simp only [Value.ownBlock, Option.some.injEq] at hvb
    subst hvb
    rcases hat with hat | hat
    · exact h.ap1 _ hb hat
    · have := (h.rows.lt _ hb).2
      omega
  · intro i b hi hb
    refine ⟨(h.ap2 i b hi hb).1, fun e => ?_⟩
    simp only [Value.ownBlock, Option.some.injEq] at e
    subst e
    rcases hat with hat | hat
    · exact (h.ap2 i _ hi hb).2 hat
    · have := (h.flt hi hb).2
      omega
  · exact h.ap3
  · intro k hk
    rcases hk with hk | hk
    · exact h.sep k hk
    · omega
  · refine ⟨hg.os, hg.tape, hg.output, by simpa using hg.size, fun k hk hn => hsame k hk (fun e => hn (.inl e)) (fun e => hn (.inr (h.in2 k e)))⟩
end
end Go.Proofs.YtnenbihmokolpaaGreatDoor
