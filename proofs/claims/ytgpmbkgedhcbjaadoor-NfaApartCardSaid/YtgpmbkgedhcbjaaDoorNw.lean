/-
  A machine of regexes in memory: what it is made of, and what each change comes to.
-/
import Derived.Test.YtgpmbkgedhcbjaaDoorNm
import Derived.Deep.AppendLies
import Derived.Laws.OwnMore
namespace Go.Proofs.YtgpmbkgedhcbjaaDoor
open Go.RowKit

def St.cells (fv : Value) (cs : List Value) (s : St) : List Value := fv :: (cs ++ [.int .i64 s.to, .int .i64 s.tag])
def nums (l : List Nat) : List Value := l.map fun (n : Nat) => Value.int .i64 (n : Int)

/-- A machine in the block dm: its rows lie in blocks of S, each in one of its own; its regexes lead to blocks ahead of dm. -/
structure MachD (dm : Nat) (S : Nat → Prop) (w : World) (l : List St) (starts : List Nat) (vs vt : Value) (fv : Nat → Value) (cells : List Value) : Prop where
  head : w.heap[dm]? = some (.cells #[vs, vt] 51 (0, 0))
  rows : w.ownsRow (dm + 1) 55 9 vs l.length cells
  begins : w.ownsRow (dm + 1) 3 1 vt starts.length (nums starts)
  free : ∀ i s, l[i]? = some s → w.ownsRow (dm + 1) 3 1 (fv i) s.free.length (nums s.free)
  data : ∀ i s, l[i]? = some s → ∃ cs, RxC (fun k => k < dm) w s.bytes cs ∧ ∀ m u, (s.cells (fv i) cs)[m]? = some u → cells[i * 9 + m]? = some u
  in1 : ∀ b, vs.ownBlock = some b → S b
  in2 : ∀ b, vt.ownBlock = some b → S b
  in3 : ∀ i b, i < l.length → (fv i).ownBlock = some b → S b
  ap1 : ∀ b, vs.ownBlock = some b → vt.ownBlock ≠ some b
  ap2 : ∀ i b, i < l.length → (fv i).ownBlock = some b → vs.ownBlock ≠ some b ∧ vt.ownBlock ≠ some b
  ap3 : ∀ i j b, i < l.length → j < l.length → (fv i).ownBlock = some b → (fv j).ownBlock = some b → i = j
  sep : ∀ k, S k → dm < k
def Mach (dm : Nat) (S : Nat → Prop) (w : World) (l : List St) (starts : List Nat) : Prop := ∃ vs vt fv cells, MachD dm S w l starts vs vt fv cells

theorem ownsRow_same {w w' : World} {base : Nat} {e : TypeId} {size : Nat} {v : Value} {n : Nat} {xs : List Value} (h : w.ownsRow base e size v n xs) (hb : ∀ b, v.ownBlock = some b → w'.heap[b]? = w.heap[b]?) : w'.ownsRow base e size v n xs := by
  refine ⟨h.1, ?_⟩
  rcases h.2 with hn | ⟨g, cap, cur, rfl, hb', hgg, rest⟩
  · exact .inl hn
  · exact .inr ⟨g, cap, cur, rfl, hb', by rw [hb g rfl]; exact hgg, rest⟩

section
variable {dm : Nat} {S : Nat → Prop} {w : World} {l : List St} {starts : List Nat} {vs vt : Value} {fv : Nat → Value} {cells : List Value}

theorem MachD.at (h : MachD dm S w l starts vs vt fv cells) {i : Nat} (hi : i < l.length) : ∃ s, l[i]? = some s := ⟨l[i], by simp [hi]⟩
theorem MachD.flt (h : MachD dm S w l starts vs vt fv cells) {i b : Nat} (hi : i < l.length) (hb : (fv i).ownBlock = some b) : dm + 1 ≤ b ∧ b < w.heap.size := by
  obtain ⟨s, hs⟩ := h.at hi
  exact (h.free i s hs).lt b hb
theorem MachD.move {T : Nat → Prop} {w' : World} (h : MachD dm S w l starts vs vt fv cells) (hf : Fr T w w') (hT : ∀ k, T k → dm < k ∧ ¬ S k) : MachD dm S w' l starts vs vt fv cells := by
  have hsame : ∀ b, S b → b < w.heap.size → w'.heap[b]? = w.heap[b]? := fun b hb hlt => hf.block b hlt (fun ht => (hT b ht).2 hb)
  refine { h with head := ?_, rows := ?_, begins := ?_, free := ?_, data := ?_ }
  · exact hf.at_ h.head (fun ht => by have := (hT _ ht).1; omega)
  · exact ownsRow_same h.rows (fun b hb => hsame b (h.in1 b hb) (h.rows.lt b hb).2)
  · exact ownsRow_same h.begins (fun b hb => hsame b (h.in2 b hb) (h.begins.lt b hb).2)
  · intro i s hs
    have hi : i < l.length := (List.getElem?_eq_some_iff.1 hs).1
    exact ownsRow_same (h.free i s hs) (fun b hb => hsame b (h.in3 i b hi hb) (h.flt hi hb).2)
  · intro i s hs
    obtain ⟨cs, h1, h2⟩ := h.data i s hs
    exact ⟨cs, RxC.move (fun k hk hlt => hf.block k hlt (fun ht => by have := (hT _ ht).1; omega)) _ cs h1, h2⟩
theorem MachD.alloc (h : MachD dm S w l starts vs vt fv cells) (o : Obj) : MachD dm S (w.alloc o) l starts vs vt fv cells :=
  h.move (T := none_) ((Fr.refl _ w).alloc o) (fun _ h => h.elim)
theorem MachD.drew (h : MachD dm S w l starts vs vt fv cells) : MachD dm S w.drew l starts vs vt fv cells :=
  h.move (T := none_) ((Fr.refl _ w).drew) (fun _ h => h.elim)
theorem MachD.mono {S' : Nat → Prop} (h : MachD dm S w l starts vs vt fv cells) (hs : ∀ k, k < w.heap.size → S k → S' k) (hsep : ∀ k, S' k → dm < k) : MachD dm S' w l starts vs vt fv cells :=
  { h with
    in1 := fun b hb => hs b (h.rows.lt b hb).2 (h.in1 b hb)
    in2 := fun b hb => hs b (h.begins.lt b hb).2 (h.in2 b hb)
    in3 := fun i b hi hb => hs b (h.flt hi hb).2 (h.in3 i b hi hb)
    sep := hsep }
/-- A state's slice of ways, and its nine cells. -/
theorem MachD.form (h : MachD dm S w l starts vs vt fv cells) (hl : 0 < l.length) : ∃ g cap, vs = .slice (some ⟨g, 0, none⟩) l.length cap ∧ dm + 1 ≤ g ∧ g < w.heap.size := h.rows.form hl

theorem zero9 (m : Nat) (u : Value) (h : (St.none.cells (.slice none 0 0) [.int .i64 0, .int .u64 0, .int .u64 0, .int .u64 0, .int .u64 0, .slice none 0 0])[m]? = some u) :
    ([.slice none 0 0, .int .i64 0, .int .u64 0, .int .u64 0, .int .u64 0, .int .u64 0, .slice none 0 0, .int .i64 (-1), .int .i64 (-1)] : List Value)[m]? = some u := h
theorem RxC.zero (ok : Nat → Prop) (w : World) : RxC ok w Rx.zero [.int .i64 0, .int .u64 0, .int .u64 0, .int .u64 0, .int .u64 0, .slice none 0 0] := by
  simp only [Rx.zero, RxC]
  exact ⟨none, 0, rfl, Nat.le_refl _, by simp only [RxL]⟩

/-- One state more. -/
theorem MachD.add (h : MachD dm S w l starts vs vt fv cells) {g cap : Nat} {w1 : World}
    (h3 : w1.ownsRow (dm + 1) 55 9 (.slice (some ⟨g, 0, none⟩) (l.length + 1) cap) (l.length + 1) (cells ++ [.slice none 0 0, .int .i64 0, .int .u64 0, .int .u64 0, .int .u64 0, .int .u64 0, .slice none 0 0, .int .i64 (-1), .int .i64 (-1)]))
    (hg : w.grownBy w1 vs.ownBlock) (hat : vs.ownBlock = some g ∨ g = w.heap.size) :
    MachD dm (fun k => S k ∨ w.heap.size ≤ k) (w1.setCell ⟨dm, 0, none⟩ (.slice (some ⟨g, 0, none⟩) (l.length + 1) cap)) (l ++ [St.none]) starts (.slice (some ⟨g, 0, none⟩) (l.length + 1) cap) vt (fun i => if i < l.length then fv i else .slice none 0 0)
      (cells ++ [.slice none 0 0, .int .i64 0, .int .u64 0, .int .u64 0, .int .u64 0, .int .u64 0, .slice none 0 0, .int .i64 (-1), .int .i64 (-1)]) ∧
    Fr (fun k => k = dm ∨ S k) w (w1.setCell ⟨dm, 0, none⟩ (.slice (some ⟨g, 0, none⟩) (l.length + 1) cap)) := by
  have hdm := lt_of_block h.head
  have hvs : ∀ b, vs.ownBlock = some b → dm + 1 ≤ b ∧ b < w.heap.size := h.rows.lt
  have hsame : ∀ b, b < w.heap.size → b ≠ dm → vs.ownBlock ≠ some b → (w1.setCell ⟨dm, 0, none⟩ (.slice (some ⟨g, 0, none⟩) (l.length + 1) cap)).heap[b]? = w.heap[b]? := by
    intro b hb hne hvb
    rw [Below.heap_setCell _ _ _ _ hne]
    exact hg.block b hb (fun e => hvb e.symm)
  have hgd : dm + 1 ≤ g := by
    rcases hat with hat | hat
    · exact (hvs g hat).1
    · omega
  have hgs : S g ∨ w.heap.size ≤ g := by
    rcases hat with hat | hat
    · exact .inl (h.in1 g hat)
    · exact .inr (by omega)
  have hlen : (l ++ [St.none]).length = l.length + 1 := by simp
  have hcl : cells.length = l.length * 9 := h.rows.1
  refine ⟨⟨?_, ?_, ?_, ?_, ?_, ?_, ?_, ?_, ?_, ?_, ?_, ?_⟩, ?_⟩
  · have := heap_setCell w1 (d := dm) (c := #[vs, vt]) (ty := 51) (fr := (0, 0)) (by rw [hg.block dm hdm (fun e => by have := (hvs dm e.symm).1; omega)]; exact h.head) 0 (.slice (some ⟨g, 0, none⟩) (l.length + 1) cap)
    exact this
  · rw [hlen]
    exact ownsRow_setCell_below h3 (by simp) _
  · exact ownsRow_same h.begins (fun b hb => hsame b (h.begins.lt b hb).2 (by have := (h.begins.lt b hb).1; omega) (fun e => h.ap1 b e hb))
  · intro i s hs
    rcases Nat.lt_or_ge i l.length with hi | hi
    · rw [List.getElem?_append_left hi] at hs
      simp only [if_pos hi]
      exact ownsRow_same (h.free i s hs) (fun b hb => hsame b (h.flt hi hb).2 (by have := (h.flt hi hb).1; omega) (h.ap2 i b hi hb).1)
    · have hil : i = l.length := by
        have := (List.getElem?_eq_some_iff.1 hs).1
        simp at this
        omega
      subst hil
      have hx : St.none = s := by simpa using hs
      subst hx
      simp only [Nat.lt_irrefl, if_false]
      exact World.ownsRow_nil _ (dm + 1) 3 1
  · intro i s hs
    rcases Nat.lt_or_ge i l.length with hi | hi
    · rw [List.getElem?_append_left hi] at hs
      simp only [if_pos hi]
      obtain ⟨cs, h1, h2⟩ := h.data i s hs
      refine ⟨cs, RxC.move (fun k hk hlt => hsame k hlt (by omega) (fun e => by have := (hvs k e).1; omega)) _ cs h1, fun m u hu => ?_⟩
      have := h2 m u hu
      rw [List.getElem?_append_left (List.getElem?_eq_some_iff.1 this).1]
      exact this
    · have hil : i = l.length := by
        have := (List.getElem?_eq_some_iff.1 hs).1
        simp at this
        omega
      subst hil
      have hx : St.none = s := by simpa using hs
      subst hx
      simp only [Nat.lt_irrefl, if_false]
      refine ⟨_, RxC.zero _ _, fun m u hu => ?_⟩
      rw [List.getElem?_append_right (by omega), hcl, show l.length * 9 + m - l.length * 9 = m by omega]
      exact zero9 m u hu
  · intro b hb
    simp only [Value.ownBlock, Option.some.injEq] at hb
    subst hb
    exact hgs
  · exact fun b hb => .inl (h.in2 b hb)
  · intro i b hi hb
    rcases Nat.lt_or_ge i l.length with hi' | hi'
    · simp only [if_pos hi'] at hb
      exact .inl (h.in3 i b hi' hb)
    · simp only [if_neg (Nat.not_lt.2 hi'), Value.ownBlock] at hb
      cases hb
  · intro b hb hvt
    simp only [Value.ownBlock, Option.some.injEq] at hb
    subst hb
    rcases hat with hat | hat
    · exact h.ap1 _ hat hvt
    · have := (h.begins.lt _ hvt).2
      omega
  · intro i b hi hb
    rcases Nat.lt_or_ge i l.length with hi' | hi'
    · simp only [if_pos hi'] at hb
      refine ⟨fun e => ?_, (h.ap2 i b hi' hb).2⟩
      simp only [Value.ownBlock, Option.some.injEq] at e
      subst e
      rcases hat with hat | hat
      · exact (h.ap2 i _ hi' hb).1 hat
      · have := (h.flt hi' hb).2
        omega
    · simp only [if_neg (Nat.not_lt.2 hi'), Value.ownBlock] at hb
      cases hb
  · intro i j b hi hj hbi hbj
    rcases Nat.lt_or_ge i l.length with hi' | hi'
    · rcases Nat.lt_or_ge j l.length with hj' | hj'
      · simp only [if_pos hi'] at hbi
        simp only [if_pos hj'] at hbj
        exact h.ap3 i j b hi' hj' hbi hbj
      · simp only [if_neg (Nat.not_lt.2 hj'), Value.ownBlock] at hbj
        cases hbj
    · simp only [if_neg (Nat.not_lt.2 hi'), Value.ownBlock] at hbi
      cases hbi
  · intro k hk
    rcases hk with hk | hk
    · exact h.sep k hk
    · omega
  · refine ⟨hg.os, hg.tape, hg.output, by simpa using hg.size, fun k hk hn => hsame k hk (fun e => hn (.inl e)) (fun e => hn (.inr (h.in1 k e)))⟩

/-- One state changed. -/
theorem MachD.put (h : MachD dm S w l starts vs vt fv cells) (i : Nat) (f : St → St) (hi : i < l.length) {w' : World} {fvi : Value} {cells' : List Value}
    (hheap : ∀ k, k < w.heap.size → vs.ownBlock ≠ some k → (fv i).ownBlock ≠ some k → w'.heap[k]? = w.heap[k]?)
    (hrows : w'.ownsRow (dm + 1) 55 9 vs l.length cells')
    (hother : ∀ j, (j < i * 9 ∨ i * 9 + 9 ≤ j) → cells'[j]? = cells[j]?)
    (hfree : ∀ s, l[i]? = some s → w'.ownsRow (dm + 1) 3 1 fvi (f s).free.length (nums (f s).free))
    (hdata : ∀ s, l[i]? = some s → ∃ cs, RxC (fun k => k < dm) w' (f s).bytes cs ∧ ∀ m u, ((f s).cells fvi cs)[m]? = some u → cells'[i * 9 + m]? = some u)
    (hat : ∀ b, fvi.ownBlock = some b → (fv i).ownBlock = some b ∨ w.heap.size ≤ b) :
    MachD dm (fun k => S k ∨ w.heap.size ≤ k) w' (l.modify i f) starts vs vt (fun j => if j = i then fvi else fv j) cells' := by
  have hdm := lt_of_block h.head
  have hlen : (l.modify i f).length = l.length := by simp
  have hne : ∀ j s, j ≠ i → (l.modify i f)[j]? = some s → l[j]? = some s := by
    intro j s hj hs
    rw [List.getElem?_modify] at hs
    have : ¬ i = j := fun e => hj e.symm
    simpa [this] using hs
  have heq : ∀ s, (l.modify i f)[i]? = some s → ∃ s0, l[i]? = some s0 ∧ s = f s0 := by
    intro s hs
    rw [List.getElem?_modify] at hs
    cases h0 : l[i]? with
    | none => simp [h0] at hs
    | some s0 => simp [h0] at hs; exact ⟨s0, rfl, hs.symm⟩
  have hcs : ∀ (s : St) (v : Value) (cs : List Value) (W : World), RxC (fun k => k < dm) W s.bytes cs → ∀ m u, (s.cells v cs)[m]? = some u → m < 9 := by
    intro s v cs W hr m u hu
    have h6 : cs.length = 6 := by
      cases hs : s.bytes with
      | mk k b0 b1 b2 b3 kids =>
      rw [hs] at hr
      simp only [RxC] at hr
      obtain ⟨a, cap, rfl, _⟩ := hr
      rfl
    have := (List.getElem?_eq_some_iff.1 hu).1
    simp [St.cells, h6] at this
    omega
  refine ⟨?_, ?_, ?_, ?_, ?_, ?_, ?_, ?_, ?_, ?_, ?_, ?_⟩
  · rw [hheap dm hdm (fun e => by have := (h.rows.lt dm e).1; omega) (fun e => by have := (h.flt hi e).1; omega)]
    exact h.head
  · rw [hlen]; exact hrows
  · exact ownsRow_same h.begins (fun b hb => hheap b (h.begins.lt b hb).2 (fun e => h.ap1 b e hb) (fun e => (h.ap2 i b hi e).2 hb))
  · intro j s hs
    by_cases hj : j = i
    · subst hj
      obtain ⟨s0, h0, rfl⟩ := heq s hs
      simp only [if_true]
      exact hfree s0 h0
    · simp only [if_neg hj]
      have hs' := hne j s hj hs
      have hjl := (List.getElem?_eq_some_iff.1 hs').1
      exact ownsRow_same (h.free j s hs') (fun b hb => hheap b (h.flt hjl hb).2 (h.ap2 j b hjl hb).1 (fun e => hj (h.ap3 j i b hjl hi hb e)))
  · intro j s hs
    by_cases hj : j = i
    · subst hj
      obtain ⟨s0, h0, rfl⟩ := heq s hs
      simp only [if_true]
      exact hdata s0 h0
    · simp only [if_neg hj]
      have hs' := hne j s hj hs
      obtain ⟨cs, h1, h2⟩ := h.data j s hs'
      refine ⟨cs, RxC.move (fun k hk hlt => hheap k hlt (fun e => by have := (h.rows.lt k e).1; omega) (fun e => by have := (h.flt hi e).1; omega)) _ cs h1, fun m u hu => ?_⟩
      have hm := hcs s (fv j) cs w h1 m u hu
      rw [hother (j * 9 + m) (by omega)]
      exact h2 m u hu
  · exact fun b hb => .inl (h.in1 b hb)
  · exact fun b hb => .inl (h.in2 b hb)
  · intro j b hj hb
    rw [hlen] at hj
    by_cases hji : j = i
    · simp only [if_pos hji] at hb
      rcases hat b hb with h' | h'
      · exact .inl (h.in3 i b hi h')
      · exact .inr h'
    · simp only [if_neg hji] at hb
      exact .inl (h.in3 j b hj hb)
  · exact h.ap1
  · intro j b hj hb
    rw [hlen] at hj
    by_cases hji : j = i
    · simp only [if_pos hji] at hb
      rcases hat b hb with h' | h'
      · exact h.ap2 i b hi h'
      · exact ⟨fun e => by have := (h.rows.lt b e).2; omega, fun e => by have := (h.begins.lt b e).2; omega⟩
    · simp only [if_neg hji] at hb
      exact h.ap2 j b hj hb
  · intro j k b hj hk hbj hbk
    rw [hlen] at hj hk
    by_cases hji : j = i
    · by_cases hki : k = i
      · omega
      · simp only [if_pos hji] at hbj
        simp only [if_neg hki] at hbk
        rcases hat b hbj with h' | h'
        · exact absurd (h.ap3 k i b hk hi hbk h') hki
        · have := (h.flt hk hbk).2; omega
    · by_cases hki : k = i
      · simp only [if_neg hji] at hbj
        simp only [if_pos hki] at hbk
        rcases hat b hbk with h' | h'
        · exact absurd (h.ap3 j i b hj hi hbj h') hji
        · have := (h.flt hj hbj).2; omega
      · simp only [if_neg hji] at hbj
        simp only [if_neg hki] at hbk
        exact h.ap3 j k b hj hk hbj hbk
  · intro k hk
    rcases hk with hk | hk
    · exact h.sep k hk
    · omega

theorem nums_length (l : List Nat) : (nums l).length = l.length := by simp [nums]
theorem nums_snoc (l : List Nat) (n : Nat) : nums (l ++ [n]) = nums l ++ [.int .i64 n] := by simp [nums]

/-- One way more. -/
theorem MachD.freed {g cap : Nat} (h : MachD dm S w l starts (.slice (some ⟨g, 0, none⟩) l.length cap) vt fv cells) {i to : Nat} {st : St} (hst : l[i]? = some st) {g2 cap2 : Nat} {w1 : World}
    (hown : w1.ownsRow (dm + 1) 3 1 (.slice (some ⟨g2, 0, none⟩) (st.free.length + 1) cap2) (st.free.length + 1) (nums st.free ++ [.int .i64 to]))
    (hg : w.grownBy w1 (fv i).ownBlock) (hat : (fv i).ownBlock = some g2 ∨ g2 = w.heap.size) :
    Mach dm (fun k => S k ∨ w.heap.size ≤ k) (w1.setCell ⟨g, i * 9, none⟩ (.slice (some ⟨g2, 0, none⟩) (st.free.length + 1) cap2)) (freeM l i to) starts ∧
    Fr (fun k => k = dm ∨ S k) w (w1.setCell ⟨g, i * 9, none⟩ (.slice (some ⟨g2, 0, none⟩) (st.free.length + 1) cap2)) := by
  have hi : i < l.length := (List.getElem?_eq_some_iff.1 hst).1
  have hgS : S g := h.in1 g rfl
  have hgl := h.rows.lt g rfl
  have hne : ∀ b, (fv i).ownBlock = some b → b ≠ g := fun b hb e => (h.ap2 i b hi hb).1 (by rw [e]; rfl)
  have hg2g : g2 ≠ g := by
    rcases hat with hat | hat
    · exact hne g2 hat
    · omega
  have hrow1 : w1.ownsRow (dm + 1) 55 9 (.slice (some ⟨g, 0, none⟩) l.length cap) l.length cells :=
    ownsRow_same h.rows (fun b hb => hg.block b (h.rows.lt b hb).2 (fun e => by
      simp only [Value.ownBlock, Option.some.injEq] at hb
      exact hne b e.symm hb.symm))
  have hset := (hrow1.stored (i * 9) (.slice (some ⟨g2, 0, none⟩) (st.free.length + 1) cap2)).1
  have hheap : ∀ k, k < w.heap.size → (Value.slice (some ⟨g, 0, none⟩) l.length cap).ownBlock ≠ some k → (fv i).ownBlock ≠ some k → (w1.setCell ⟨g, i * 9, none⟩ (.slice (some ⟨g2, 0, none⟩) (st.free.length + 1) cap2)).heap[k]? = w.heap[k]? := by
    intro k hk h1 h2
    rw [Below.heap_setCell _ _ _ _ (fun e => h1 (by simp [Value.ownBlock, e]))]
    exact hg.block k hk (fun e => h2 e.symm)
  have hcl : cells.length = l.length * 9 := h.rows.1
  refine ⟨⟨_, _, _, _, h.put i (fun s => { s with free := s.free ++ [to] }) hi (w' := w1.setCell ⟨g, i * 9, none⟩ (.slice (some ⟨g2, 0, none⟩) (st.free.length + 1) cap2)) (fvi := .slice (some ⟨g2, 0, none⟩) (st.free.length + 1) cap2) hheap hset ?_ ?_ ?_ ?_⟩, ?_⟩
  · intro j hj
    rw [List.getElem?_set]
    split
    · omega
    · rfl
  · intro s hs
    have : st = s := by rw [hst] at hs; simpa using hs
    subst this
    simp only [List.length_append, List.length_cons, List.length_nil, Nat.zero_add, nums_snoc]
    exact ownsRow_same hown (fun b hb => by
      simp only [Value.ownBlock, Option.some.injEq] at hb
      subst hb
      exact Below.heap_setCell _ _ _ _ hg2g)
  · intro s hs
    have : st = s := by rw [hst] at hs; simpa using hs
    subst this
    obtain ⟨cs, h1, h2⟩ := h.data i st hst
    refine ⟨cs, RxC.move (fun k hk hlt => hheap k hlt (fun e => by have := (h.rows.lt k e).1; omega) (fun e => by have := (h.flt hi e).1; omega)) _ cs h1, fun m u hu => ?_⟩
    cases m with
    | zero =>
      simp only [St.cells, List.getElem?_cons_zero, Option.some.injEq] at hu
      subst hu
      rw [List.getElem?_set]
      simp only [Nat.add_zero, if_true]
      rw [if_pos (by omega)]
    | succ m =>
      rw [List.getElem?_set, if_neg (by omega)]
      exact h2 (m + 1) u (by simpa [St.cells] using hu)
  · intro b hb
    simp only [Value.ownBlock, Option.some.injEq] at hb
    subst hb
    rcases hat with hat | hat
    · exact .inl hat
    · exact .inr (by omega)
  · refine ⟨hg.os, hg.tape, hg.output, by simpa using hg.size, fun k hk hn => hheap k hk (fun e => hn (.inr ?_)) (fun e => hn (.inr (h.in3 i k hi e)))⟩
    simp only [Value.ownBlock, Option.some.injEq] at e
    subst e
    exact hgS
end
end Go.Proofs.YtgpmbkgedhcbjaaDoor
