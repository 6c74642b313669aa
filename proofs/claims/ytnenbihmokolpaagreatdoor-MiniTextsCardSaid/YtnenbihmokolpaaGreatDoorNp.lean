/-
  The document's example of layer 4 answers true.
  Texts that came in; Over and Parsed of layer 4.
  Parsed of layer 4: the regexes of texts.
-/
import Derived.Test.YtnenbihmokolpaaGreatDoorNi
import Derived.Test.YtnenbihmokolpaaGreatDoorNb2
import Derived.Test.YtnenbihmokolpaaGreatDoorPe
import Derived.Test.YtnenbihmokolpaaGreatDoorPq
namespace Go.Proofs.YtnenbihmokolpaaGreatDoor set_option linter.unusedVariables false set_option linter.unusedSimpArgs false
open Go.RowKit

theorem fit_build (rs : List Rx) (h : Rx.sizes rs ≤ 3000) : Fit (buildM rs 0 [] []).1 := by
  obtain ⟨h1, h2, h3⟩ := buildM_facts rs 0 [] []
  have hs := h3 0 (fun s h => by simp at h)
  simp only [List.length_nil, Nat.zero_add] at h1 hs
  refine ⟨by omega, ?_⟩
  have key : ∀ n, ((List.range n).map fun i => if i ∈ ([] : List Nat) then 0 else 1 + (freeOf (buildM rs 0 [] []).1 i).length).sum ≤ n * 12001 := by
    intro n
    induction n with
    | zero => simp
    | succ n ih =>
      rw [List.range_succ, List.map_append, List.sum_append]
      have : (freeOf (buildM rs 0 [] []).1 n).length ≤ 12000 := by
        unfold freeOf
        cases hn : (buildM rs 0 [] []).1[n]? with
        | none => simp
        | some s =>
          have := hs s (List.mem_of_getElem? hn)
          simp only []
          omega
      simp only [List.map_cons, List.map_nil, List.sum_cons, List.sum_nil, List.not_mem_nil, if_false] at ih ⊢
      omega
  have := key (buildM rs 0 [] []).1.length
  unfold todo
  omega

theorem parse_ok (s : ByteArray) (hs : s.size < 9223372036854775808) (r : Rx) (hm : parseM s = .ok r) (w : World) :
    Calls Tryz.prog 13 #[.string s] w fun e w' => ∃ v, e = .returned (.tuple #[v, .int .i64 0]) ∧ RxV (fun k => w.heap.size ≤ k) w' v r ∧ Fr none_ w w' :=
  (parse_any s hs 604 (.ok r) (by rw [parseB_total, hm]) w).mono fun e w' h => h
theorem parse_no (s : ByteArray) (hs : s.size < 9223372036854775808) (n : Int) (hm : parseM s = .error n) (w : World) :
    Calls Tryz.prog 13 #[.string s] w fun e w' => e = .returned (.tuple #[.agg #[.int .i64 0, .int .u64 0, .int .u64 0, .int .u64 0, .int .u64 0, .slice none 0 0], .int .i64 n]) ∧ Fr none_ w w' :=
  (parse_any s hs 604 (.error n) (by rw [parseB_total, hm]) w).mono fun e w' h => h

/-- A machine at work, in a world that may grow: what each of its methods answers. -/
def MachG (dm : Nat) (w : World) (l : List St) (starts : List Nat) : Prop := ∃ S, Mach dm S w l starts
theorem MachG.move {dm : Nat} {w w' : World} {l : List St} {starts : List Nat} (h : MachG dm w l starts) (hf : Fr none_ w w') : MachG dm w' l starts := by
  obtain ⟨S, h⟩ := h
  exact ⟨S, h.move hf (fun _ h => h.elim)⟩
/-- A row of whole numbers in memory. -/
def IntsAt (w : World) (v : Value) (A : List Int) : Prop := ∃ base, w.ownsRow base 3 1 v A.length (intsV A)
theorem IntsAt.nil (w : World) : IntsAt w (.slice none 0 0) [] := ⟨0, World.ownsRow_nil _ _ _ _⟩
theorem IntsAt.move {w w' : World} {v : Value} {A : List Int} (h : IntsAt w v A) (hf : Fr none_ w w') : IntsAt w' v A := by
  obtain ⟨b, h⟩ := h
  exact ⟨b, ownsRow_same h (fun b' hb => hf.block b' (h.lt b' hb).2 (fun h => h))⟩
theorem IntsAt.of {w : World} {v : Value} {l : List Nat} {base : Nat} (h : w.ownsRow base 3 1 v l.length (nums l)) : IntsAt w v (ints l) := by
  refine ⟨base, ?_⟩
  rw [ints_length, ← nums_eq]; exact h
theorem IntsAt.slice {w : World} {v : Value} {A : List Int} (h : IntsAt w v A) : ∃ a cap, v = .slice a A.length cap ∧ A.length ≤ cap := by
  obtain ⟨b, h⟩ := h
  exact ownsRow_slice h
theorem begin_val (dm : Nat) (w : World) (l : List St) (starts : List Nat) (h : MachG dm w l starts) (hf : Fit l) (hs : starts.length ≤ 1000) :
    Calls Tryz.prog 66 #[.pointer (some ⟨dm, 0, none⟩)] w fun e w' => ∃ v', e = .returned v' ∧ IntsAt w' v' (ints (closedM l (ints starts))) ∧ Fr none_ w w' := by
  obtain ⟨S, h⟩ := h
  refine (begin_any dm S w l starts h hf hs).mono ?_
  rintro e w' ⟨v', he, h1, h2⟩
  exact ⟨v', he, .of h1, h2⟩
theorem tags_val (dm : Nat) (w : World) (l : List St) (starts : List Nat) (av : Value) (A : List Int) (v : Nat) (h : MachG dm w l starts) (hf : Fit l) (ha : IntsAt w av A) (hA : A.length ≤ 1000000) (hv : tagsM l A = v) :
    Calls Tryz.prog 68 #[.pointer (some ⟨dm, 0, none⟩), av] w fun e w' => e = .returned (.int .u64 v) ∧ w = w' := by
  obtain ⟨S, h⟩ := h
  obtain ⟨base, ha⟩ := ha
  subst hv
  exact tags_any dm S w l starts base av A h hf.len ha hA
theorem closedM_length (l : List St) (W : List Int) : (closedM l W).length ≤ l.length := by
  unfold closedM
  have := List.length_filter_le (fun i => decide (i ∈ visit l W)) (List.range l.length)
  simpa using this
/-- Build of regexes in memory. -/
theorem build_val (rs : List Rx) (a : Option Addr) (n cap : Nat) (w : World) (ok : Nat → Prop) (hn : rs.length = n) (hl : RxL ok w a 0 rs) (hm1 : rs.length ≤ 60) (hm2 : Rx.sizes rs ≤ 3000) :
    Calls Tryz.prog 62 #[.slice a n cap] w fun e w' => ∃ dm, e = .returned (.tuple #[.pointer (some ⟨dm, 0, none⟩), .int .i64 0]) ∧
      MachG dm w' (buildM rs 0 [] []).1 (buildM rs 0 [] []).2 ∧ Fr none_ w w' := by
  subst hn
  refine (build_made rs a cap w ok hl hm1 hm2).mono ?_
  rintro e w' ⟨dm, _, he, h1, h2⟩
  exact ⟨dm, he, ⟨_, h1⟩, h2⟩

end Go.Proofs.YtnenbihmokolpaaGreatDoor

namespace Go.Proofs.YtnenbihmokolpaaGreatDoor set_option linter.unusedVariables false set_option linter.unusedSimpArgs false
open Go.RowKit

/-- Texts in memory. -/
structure StrsAt (w : World) (a : Option Addr) (len : Nat) (zs : List ByteArray) : Prop where
  len_ : zs.length = len
  max : len ≤ maxLen
  cell : ∀ i z, zs[i]? = some z → ∃ ad, a = some ad ∧ w.cell? (ad.add i) = some (.string z)
  size : ∀ z ∈ zs, z.size ≤ maxLen
theorem StrsAt.move {w w' : World} {a : Option Addr} {len : Nat} {zs : List ByteArray} (h : StrsAt w a len zs) (hf : Fr none_ w w') : StrsAt w' a len zs :=
  ⟨h.len_, h.max, fun i z hz => (h.cell i z hz).elim fun ad h1 => ⟨ad, h1.1, hf.cell h1.2 (fun h => h)⟩, h.size⟩
/-- Whole numbers that came in. -/
structure IntsIn (w : World) (a : Option Addr) (len : Nat) (zs : List Int) : Prop where
  len_ : zs.length = len
  max : len ≤ maxLen
  cell : ∀ i z, zs[i]? = some z → ∃ ad, a = some ad ∧ w.cell? (ad.add i) = some (.int .i64 z)
  wf : ∀ z ∈ zs, (Lit.int .i64 z).wf = true
theorem IntsIn.move {w w' : World} {a : Option Addr} {len : Nat} {zs : List Int} (h : IntsIn w a len zs) (hf : Fr none_ w w') : IntsIn w' a len zs :=
  ⟨h.len_, h.max, fun i z hz => (h.cell i z hz).elim fun ad h1 => ⟨ad, h1.1, hf.cell h1.2 (fun h => h)⟩, h.wf⟩
theorem IntsAt.cell {w : World} {a : Option Addr} {n cap : Nat} {A : List Int} (h : IntsAt w (.slice a n cap) A) {i : Nat} {z : Int} (hz : A[i]? = some z) : ∃ g, a = some ⟨g, 0, none⟩ ∧ w.cell? ⟨g, i, none⟩ = some (.int .i64 z) := by
  obtain ⟨b, h⟩ := h
  have hi := (List.getElem?_eq_some_iff.1 hz).1
  obtain ⟨g, cap', hg, _, _⟩ := h.form (by omega)
  have h' := h
  rw [hg] at h'
  cases hg
  exact ⟨g, rfl, by rw [h'.cellAt i (by omega)]; simp [intsV, hz]⟩
/-- Are there more than is looked at? -/
def Few (zs : List ByteArray) : Prop := zs.length ≤ 8 ∧ ∀ z ∈ zs, z.size ≤ 40

/-- One more regex in a row of the call's own. -/
theorem RxOwn.push {B : Nat} {ok : Nat → Prop} {w w1 : World} {v : Value} {l : List Rx} {cells : List Value} {k : Int} {b0 b1 b2 b3 : Nat} {kids : List Rx} {a : Option Addr} {cap g gcap : Nat}
    (hrow : w.ownsRow B 53 6 v l.length cells)
    (hels : ∀ j r, l[j]? = some r → ∃ cs, cs.length = 6 ∧ (∀ m u, cs[m]? = some u → cells[j * 6 + m]? = some u) ∧ RxC (fun k => ok k ∧ some k ≠ v.ownBlock) w r cs)
    (hc : kids.length ≤ cap) (hkl : RxL (fun i => ok i ∧ some i ≠ v.ownBlock) w a 0 kids)
    (hown1 : w1.ownsRow B 53 6 (.slice (some ⟨g, 0, none⟩) (l.length + 1) gcap) (l.length + 1) (cells ++ [.int .i64 k, .int .u64 b0, .int .u64 b1, .int .u64 b2, .int .u64 b3, .slice a kids.length cap]))
    (hgrow : (w.alloc (.cells #[.int .i64 k, .int .u64 b0, .int .u64 b1, .int .u64 b2, .int .u64 b3, .slice a kids.length cap] 53)).grownBy w1 v.ownBlock)
    (hat : v.ownBlock = some g ∨ g = w.heap.size + 1) :
    RxOwn B ok w1 (.slice (some ⟨g, 0, none⟩) (l.length + 1) gcap) (l ++ [.mk k b0 b1 b2 b3 kids]) ∧ Fr (fun i => B ≤ i) w w1 := by
  have hub : ∀ i, v.ownBlock = some i → B ≤ i := fun i hi => (hrow.lt i hi).1
  constructor
  · exact RxOwn.snoc (B := B) (ok := ok) (w := w.alloc (.cells #[.int .i64 k, .int .u64 b0, .int .u64 b1, .int .u64 b2, .int .u64 b3, .slice a kids.length cap] 53)) (hrow.alloc _) (fun j r hj => by
      obtain ⟨cs, g1, g2, g3⟩ := hels j r hj
      exact ⟨cs, g1, g2, RxC.move (fun i _ hlt => Below.heap_alloc _ _ _ hlt) r cs g3⟩) rfl
      (RxC.cells (k := k) (b0 := b0) (b1 := b1) (b2 := b2) (b3 := b3) hc (RxL.move (fun i _ hlt => Below.heap_alloc _ _ _ hlt) kids a 0 hkl)) hown1 hgrow (by simpa using hat)
  · exact ((Fr.refl (fun i => B ≤ i) w).alloc _).grown hgrow (fun i hi => .inl (hub i hi))
end Go.Proofs.YtnenbihmokolpaaGreatDoor

namespace Go.Proofs.YtnenbihmokolpaaGreatDoor set_option linter.unusedVariables false set_option linter.unusedSimpArgs false
open Go.RowKit

def okM (z : ByteArray) : Option Rx := match parseM z with | .ok r => some r | .error _ => none
def parsedM (zs : List ByteArray) : List Rx := zs.filterMap okM
theorem parsedM_snoc (zs : List ByteArray) (z : ByteArray) : parsedM (zs ++ [z]) = parsedM zs ++ (match okM z with | some r => [r] | none => []) := by
  simp only [parsedM, List.filterMap_append]
  cases h : okM z <;> simp [h]
theorem parsedM_length (zs : List ByteArray) : (parsedM zs).length ≤ zs.length := List.length_filterMap_le _ _
theorem parsedM_size (zs : List ByteArray) : ∀ r ∈ parsedM zs, r.size ≤ 500 := by
  intro r hr
  obtain ⟨z, _, hz⟩ := List.mem_filterMap.1 hr
  unfold okM at hz
  split at hz
  · rename_i r' h; cases hz; exact (parseM_size h).1
  · cases hz
end Go.Proofs.YtnenbihmokolpaaGreatDoor
