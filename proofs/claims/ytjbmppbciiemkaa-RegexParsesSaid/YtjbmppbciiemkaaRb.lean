/-
  strings.Builder: copyCheck, Write of bytes that were made after the builder.
  How a regex is shown, in plain Lean.
-/
import Derived.Test.YtjbmppbciiemkaaNp
import Derived.Test.YtjbmppbciiemkaaNx
import Derived.Test.YtjbmppbciiemkaaNu
namespace Go.Proofs.Ytjbmppbciiemkaa set_option linter.unusedVariables false set_option linter.unusedSimpArgs false
open Go.RowKit

theorem builder_size : Option.map (fun (i : TypeInfo) => i.size) (Try.prog.info? 54) = some 2 := by kernel_rfl
theorem byte_info : (Try.prog.info? 5).map (fun i => (i.zero, i.size, i.bytes)) = some (some (.int .u8 0), 1, 1) := by kernel_rfl
theorem builder_lies : liesAt Try.prog Try.prog.depth 54 (2 / Try.prog.cellsOf 54) 0 54 1 = true := by kernel_rfl

set_option maxHeartbeats 1000000 in
set_option maxRecDepth 100000 in
theorem copyCheck_used (b : Nat) (w : World) (h0 : w.cell? ⟨b, 0, none⟩ = some (.pointer (some ⟨b, 0, none⟩))) :
    Calls Try.prog 33 #[.pointer (some ⟨b, 0, none⟩)] w fun e w' => e = .returned (.tuple #[]) ∧ w' = w := by
  obtain ⟨j, hj, _⟩ := Option.map_eq_some_iff.1 builder_size
  go_enter Try.func33, Try.ntmps33
  go_wp2
  rw [Lib.run_neq_ptr_same w _ Try.underlying51 hj]
  go_wp2
  go_end0
  exact ⟨rfl, rfl⟩

set_option maxHeartbeats 1000000 in
set_option maxRecDepth 100000 in
theorem copyCheck_fresh (b : Nat) (w : World) (h0 : w.cell? ⟨b, 0, none⟩ = some (.pointer none)) (hsh : w.shape? b = some (54, 2)) (hfz : w.frozen? ⟨b, 0, none⟩ = false) :
    Calls Try.prog 33 #[.pointer (some ⟨b, 0, none⟩)] w fun e w' => e = .returned (.tuple #[]) ∧ w' = w.setCell ⟨b, 0, none⟩ (.pointer (some ⟨b, 0, none⟩)) := by
  obtain ⟨j, hj, hjs⟩ := Option.map_eq_some_iff.1 builder_size
  go_enter Try.func33, Try.ntmps33
  go_wp2
  rw [Lib.run_to_unsafe w ⟨b, 0, none⟩ Try.underlying51 Try.underlying76 hj (by rw [hjs]; decide) hsh (Nat.zero_lt_succ 1)]
  simp only [Result.andThen]
  rw [Oper.upon_value]
  go_wp2
  rw [run_callFunc_extern Try.func43 (by kernel_rfl) (by kernel_rfl) (by kernel_rfl) (e := Extern.AbiNoEscape.same) (by kernel_rfl)]
  rw [Lib.run_noEscape]
  simp only [Result.andThen]
  rw [Oper.upon_value]
  go_wp2
  rw [Lib.run_from_unsafe w ⟨b, 0, none⟩ Try.underlying76 Try.underlying51 hj hsh builder_lies]
  simp only [Result.andThen]
  rw [Oper.upon_value]
  go_wp2
  go_end0
  exact ⟨rfl, rfl⟩

set_option maxHeartbeats 2000000 in
set_option maxRecDepth 100000 in
/-- Four bytes behind what it holds; they lie in a block of their own. -/
theorem write_any (B b g : Nat) (bs : List Value) (news : List Value) (w : World) (h : Lib.IsBuilder 54 5 B b bs w) (hg : w.heap[g]? = some (.cells news.toArray 5 (0, 0))) (hgb : g ≠ b)
    (hn : news.length = 4) (h1 : ∀ u ∈ news, u.oneCell' = true) (hlen : bs.length ≤ 100000) (hBw : B ≤ w.heap.size) :
    Calls Try.prog 20 #[.pointer (some ⟨b, 0, none⟩), .slice (some ⟨g, 0, none⟩) 4 4] w fun e w' => e = .returned (.tuple #[.int .i64 4, .nilIface]) ∧ Lib.BuilderAt 54 5 B b (.pointer (some ⟨b, 0, none⟩)) (bs ++ news) w' ∧ Below B w w' := by
  have cC : Calls Try.prog 33 #[.pointer (some ⟨b, 0, none⟩)] w fun e w' => e = .returned (.tuple #[]) ∧ Lib.BuilderAt 54 5 B b (.pointer (some ⟨b, 0, none⟩)) bs w' ∧ Below B w w' ∧ w'.heap[g]? = w.heap[g]? := by
    rcases h with h | h
    · refine (copyCheck_fresh b w h.cell0 h.shape h.frozen0).mono ?_
      rintro e w' ⟨rfl, rfl⟩
      exact ⟨rfl, h.used _, (Below.refl B w).setCell (p := ⟨b, 0, none⟩) h.1 _, Below.heap_setCell _ _ _ _ hgb⟩
    · refine (copyCheck_used b w h.cell0).mono ?_
      rintro e w' ⟨rfl, rfl⟩
      exact ⟨rfl, h, Below.refl B _, rfl⟩
  clear h
  obtain ⟨i0, hi, hz0, hz1, hz2⟩ := info_parts byte_info
  go_enter Try.func20, Try.ntmps20
  go_wp2_with fail
  refine cC.mono ?_
  rintro e w1 ⟨rfl, ⟨hB, v, hbk, hown, hne⟩, hb1, hg1⟩
  rw [hg] at hg1
  have c0 : w1.cell? ⟨b, 0, none⟩ = some (.pointer (some ⟨b, 0, none⟩)) := by rw [Lib.cell_of_heap hbk]; rfl
  have c1 : w1.cell? ⟨b, 1, none⟩ = some v := by rw [Lib.cell_of_heap hbk]; rfl
  have hnews1 : ∀ j u, news[j]? = some u → w1.cell? ((⟨g, 0, none⟩ : Addr).add j) = some u := fun j u hj => by
    have e1 : (⟨g, 0, none⟩ : Addr).add j = ⟨g, j, none⟩ := by unfold Addr.add; split <;> simp_all
    rw [e1, Lib.cell_of_heap hg1]
    simpa using hj
  clear cC
  go_wp2_with (at_builtin; refine wpList_append_own _ rfl _ _ 52 rfl B 5 i0 (.int .u8 0) 1 1 Try.underlying52 hi hz0 hz1 hz2 rfl (by decide) _ _ _ rfl hown ⟨g, 0, none⟩ 4 4 news rfl (by omega) hnews1 h1 ?c3 ?c4 ?c5 ?_)
  case c3 => unfold maxLen; omega
  case c4 => omega
  case c5 => have := hb1.size; omega
  intro v' w2 hown' hgrow _
  have hlt : b < w1.heap.size := lt_of_block hbk
  have hb2 : w2.heap[b]? = some (.cells #[.pointer (some ⟨b, 0, none⟩), v] 54 (0, 0)) := by
    rw [hgrow.block b hlt (fun e => hne e.symm)]
    exact hbk
  have d0 : w2.cell? ⟨b, 0, none⟩ = some (.pointer (some ⟨b, 0, none⟩)) := by rw [Lib.cell_of_heap hb2]; rfl
  have d1 : w2.cell? ⟨b, 1, none⟩ = some v := by rw [Lib.cell_of_heap hb2]; rfl
  have f1 : w2.frozen? ⟨b, 1, none⟩ = false := Lib.frozen_of_heap hb2 1
  obtain ⟨ao, n', cap, rfl⟩ : ∃ ao n' cap, v' = .slice ao n' cap := by
    rcases hown'.2 with ⟨hv, _⟩ | ⟨g, cap, cur, hv, _⟩
    · exact ⟨_, _, _, hv⟩
    · exact ⟨_, _, _, hv⟩
  go_wp2
  go_ret2
  refine ⟨rfl, ?_, ?_⟩
  · exact Lib.BuilderAt.put (T := 54) (e := 5) hB hb2 (bs' := bs ++ news) (by simpa [hn] using hown') (by decide)
  · exact (hb1.grown hgrow (by have := hb1.size; omega) (fun k hk => (hown.lt k hk).1)).setCell (p := ⟨b, 1, none⟩) hB _
end Go.Proofs.Ytjbmppbciiemkaa

namespace Go.Proofs.Ytjbmppbciiemkaa set_option linter.unusedVariables false set_option linter.unusedSimpArgs false

def hexB (n : Nat) : UInt8 := [48, 49, 50, 51, 52, 53, 54, 55, 56, 57, 97, 98, 99, 100, 101, 102].getD n 48
/-- The bytes below n that it has, each as it is shown. -/
def classS (r : Rx) (n : Nat) : List UInt8 := (List.range n).flatMap fun b => if r.has b then [92, 120, hexB (b / 16), hexB (b % 16)] else []
theorem classS_succ (r : Rx) (n : Nat) : classS r (n + 1) = classS r n ++ (if r.has n then [92, 120, hexB (n / 16), hexB (n % 16)] else []) := by
  simp [classS, List.range_succ]
theorem classS_length (r : Rx) (n : Nat) : (classS r n).length ≤ 4 * n := by
  induction n with
  | zero => simp [classS]
  | succ n ih =>
    rw [classS_succ, List.length_append]
    split
    · simp; omega
    · simp; omega
mutual
def showL : Rx → List UInt8
  | .mk k b0 b1 b2 b3 kids =>
    if k = 0 then [40, 41] else if k = 1 then [91] ++ classS (.mk k b0 b1 b2 b3 []) 256 ++ [93]
    else if k = 4 then ((showLs kids).headD [40, 41]) ++ [42]
    else if k = 2 then [40] ++ Lib.join (showLs kids) [] ++ [41]
    else if k = 3 ∧ kids ≠ [] then [40] ++ Lib.join (showLs kids) [124] ++ [41] else [91, 93]
def showLs : List Rx → List (List UInt8)
  | [] => []
  | r :: rs => showL r :: showLs rs
end
theorem showLs_eq (l : List Rx) : showLs l = l.map showL := by
  induction l with
  | nil => rfl
  | cons r l ih => simp [showLs, ih]
theorem join_length (xs : List (List UInt8)) (sep : List UInt8) (hs : sep.length ≤ 1) : (Lib.join xs sep).length ≤ (xs.map fun x => x.length + 1).sum := by
  cases xs with
  | nil => simp [Lib.join_nil]
  | cons x xs =>
    have h : ∀ (r : List (List UInt8)), (Lib.joinTail sep r).length ≤ (r.map fun x => x.length + 1).sum := by
      intro r
      induction r with
      | nil => simp [Lib.joinTail]
      | cons y r ih =>
        simp only [Lib.joinTail, List.map_cons, List.flatten_cons, List.length_append, List.sum_cons] at ih ⊢
        omega
    have := h xs
    rw [Lib.join_cons]
    simp only [List.length_append, List.map_cons, List.sum_cons]
    omega
mutual
theorem showL_length : ∀ r : Rx, (showL r).length + 1 ≤ 1030 * r.size
  | .mk k b0 b1 b2 b3 kids => by
    have h1 := classS_length (.mk k b0 b1 b2 b3 []) 256
    have h2 := showLs_length kids
    have h3 := join_length (showLs kids) [] (by simp)
    have h4 := join_length (showLs kids) [124] (by simp)
    simp only [showL, Rx.size]
    split
    · simp; omega
    split
    · simp; omega
    split
    · cases hk : showLs kids with
      | nil => simp; omega
      | cons x xs =>
        rw [hk] at h2
        simp at h2 ⊢
        omega
    split
    · simp; omega
    split
    · simp; omega
    · simp; omega
theorem showLs_length : ∀ l : List Rx, ((showLs l).map fun x => x.length + 1).sum ≤ 1030 * Rx.sizes l
  | [] => by simp [showLs]
  | r :: l => by
    have h1 := showL_length r
    have h2 := showLs_length l
    simp only [showLs, List.map_cons, List.sum_cons, Rx.sizes]
    omega
end
/-- A text of bytes. -/
def bstr (l : List UInt8) : ByteArray := ⟨l.toArray⟩
theorem bstr_append (a b : List UInt8) : bstr a ++ bstr b = bstr (a ++ b) := by
  apply ByteArray.ext
  simp [bstr]
theorem bstr_toList (l : List UInt8) : (bstr l).data.toList = l := by simp [bstr]
def strsV (l : List Rx) : List Value := (showLs l).map fun b => .string (bstr b)
theorem strsV_append (l m : List Rx) : strsV (l ++ m) = strsV l ++ strsV m := by simp [strsV, showLs_eq]
end Go.Proofs.Ytjbmppbciiemkaa
