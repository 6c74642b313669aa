/-
  Bytes of texts put together; append of a row of whole numbers.
  strings.Builder: copyCheck, Write of bytes that were made after the builder.
  How a regex is shown, in plain Lean.
  A part of a regex is smaller.
  The walk over regex.Show.
  Over of layer 4: its walk.
-/
import Derived.Test.YtnenbihmokolpaaGreatDoorNp
import Derived.Test.YtnenbihmokolpaaGreatDoorNu
import Derived.Test.YtnenbihmokolpaaGreatDoorRx
namespace Go.Proofs.YtnenbihmokolpaaGreatDoor set_option linter.unusedVariables false set_option linter.unusedSimpArgs false
open Go.RowKit

end Go.Proofs.YtnenbihmokolpaaGreatDoor

namespace Go.Proofs.YtnenbihmokolpaaGreatDoor set_option linter.unusedVariables false set_option linter.unusedSimpArgs false
open Go.RowKit

theorem builder_size : Option.map (fun (i : TypeInfo) => i.size) (Tryz.prog.info? 88) = some 2 := by kernel_rfl
theorem byte_info : (Tryz.prog.info? 5).map (fun i => (i.zero, i.size, i.bytes)) = some (some (.int .u8 0), 1, 1) := by kernel_rfl
theorem builder_lies : liesAt Tryz.prog Tryz.prog.depth 88 (2 / Tryz.prog.cellsOf 88) 0 88 1 = true := by kernel_rfl

set_option maxHeartbeats 1000000 in
set_option maxRecDepth 100000 in
theorem copyCheck_used (b : Nat) (w : World) (h0 : w.cell? ⟨b, 0, none⟩ = some (.pointer (some ⟨b, 0, none⟩))) :
    Calls Tryz.prog 73 #[.pointer (some ⟨b, 0, none⟩)] w fun e w' => e = .returned (.tuple #[]) ∧ w' = w := by
  obtain ⟨j, hj, _⟩ := Option.map_eq_some_iff.1 builder_size
  go_enter Tryz.func73, Tryz.ntmps73
  go_wp2
  rw [Lib.run_neq_ptr_same w _ Tryz.underlying85 hj]
  go_wp2
  go_end0
  exact ⟨rfl, rfl⟩

set_option maxHeartbeats 1000000 in
set_option maxRecDepth 100000 in
theorem copyCheck_fresh (b : Nat) (w : World) (h0 : w.cell? ⟨b, 0, none⟩ = some (.pointer none)) (hsh : w.shape? b = some (88, 2)) (hfz : w.frozen? ⟨b, 0, none⟩ = false) :
    Calls Tryz.prog 73 #[.pointer (some ⟨b, 0, none⟩)] w fun e w' => e = .returned (.tuple #[]) ∧ w' = w.setCell ⟨b, 0, none⟩ (.pointer (some ⟨b, 0, none⟩)) := by
  obtain ⟨j, hj, hjs⟩ := Option.map_eq_some_iff.1 builder_size
  go_enter Tryz.func73, Tryz.ntmps73
  go_wp2
  rw [Lib.run_to_unsafe w ⟨b, 0, none⟩ Tryz.underlying85 Tryz.underlying159 hj (by rw [hjs]; decide) hsh (Nat.zero_lt_succ 1)]
  simp only [Result.andThen]
  rw [Oper.upon_value]
  go_wp2
  rw [run_callFunc_extern Tryz.func97 (by kernel_rfl) (by kernel_rfl) (by kernel_rfl) (e := Extern.AbiNoEscape.same) (by kernel_rfl)]
  rw [Lib.run_noEscape]
  simp only [Result.andThen]
  rw [Oper.upon_value]
  go_wp2
  rw [Lib.run_from_unsafe w ⟨b, 0, none⟩ Tryz.underlying159 Tryz.underlying85 hj hsh builder_lies]
  simp only [Result.andThen]
  rw [Oper.upon_value]
  go_wp2
  go_end0
  exact ⟨rfl, rfl⟩

set_option maxHeartbeats 2000000 in
set_option maxRecDepth 100000 in
/-- Four bytes behind what it holds; they lie in a block of their own. -/
theorem write_any (B b g : Nat) (bs : List Value) (news : List Value) (w : World) (h : Lib.IsBuilder 88 5 B b bs w) (hg : w.heap[g]? = some (.cells news.toArray 5 (0, 0))) (hgb : g ≠ b)
    (hn : news.length = 4) (h1 : ∀ u ∈ news, u.oneCell' = true) (hlen : bs.length ≤ 100000) (hBw : B ≤ w.heap.size) :
    Calls Tryz.prog 35 #[.pointer (some ⟨b, 0, none⟩), .slice (some ⟨g, 0, none⟩) 4 4] w fun e w' => e = .returned (.tuple #[.int .i64 4, .nilIface]) ∧ Lib.BuilderAt 88 5 B b (.pointer (some ⟨b, 0, none⟩)) (bs ++ news) w' ∧ Below B w w' := by
  have cC : Calls Tryz.prog 73 #[.pointer (some ⟨b, 0, none⟩)] w fun e w' => e = .returned (.tuple #[]) ∧ Lib.BuilderAt 88 5 B b (.pointer (some ⟨b, 0, none⟩)) bs w' ∧ Below B w w' ∧ w'.heap[g]? = w.heap[g]? := by
    rcases h with h | h
    · refine (copyCheck_fresh b w h.cell0 h.shape h.frozen0).mono ?_
      rintro e w' ⟨rfl, rfl⟩
      exact ⟨rfl, h.used _, (Below.refl B w).setCell (p := ⟨b, 0, none⟩) h.1 _, Below.heap_setCell _ _ _ _ hgb⟩
    · refine (copyCheck_used b w h.cell0).mono ?_
      rintro e w' ⟨rfl, rfl⟩
      exact ⟨rfl, h, Below.refl B _, rfl⟩
  clear h
  obtain ⟨i0, hi, hz0, hz1, hz2⟩ := info_parts byte_info
  go_enter Tryz.func35, Tryz.ntmps35
  go_wp2_with fail
  refine cC.mono ?_
  rintro e w1 ⟨rfl, ⟨hB, v, hbk, hown, hne⟩, hb1, hg1⟩
  rw [hg] at hg1
  have c0 : w1.cell? ⟨b, 0, none⟩ = some (.pointer (some ⟨b, 0, none⟩)) := by rw [Lib.cell_of_heap hbk]; rfl
  have c1 : w1.cell? ⟨b, 1, none⟩ = some v := by rw [Lib.cell_of_heap hbk]; rfl
  have hnews1 : ∀ j u, news[j]? = some u → w1.cell? ((⟨g, 0, none⟩ : Addr).add j) = some u := fun j u hj => by
    have e1 : (⟨g, 0, none⟩ : Addr).add j = ⟨g, j, none⟩ := by unfold Addr.add; split <;> simp_all
    rw [e1, Lib.cell_of_heap hg1]
    simpa using hj
  clear cC
  go_wp2_with (at_builtin; refine wpList_append_own _ rfl _ _ 86 rfl B 5 i0 (.int .u8 0) 1 1 Tryz.underlying86 hi hz0 hz1 hz2 rfl (by decide) _ _ _ rfl hown ⟨g, 0, none⟩ 4 4 news rfl (by omega) hnews1 h1 ?c3 ?c4 ?c5 ?_)
  case c3 => unfold maxLen; omega
  case c4 => omega
  case c5 => have := hb1.size; omega
  intro v' w2 hown' hgrow _
  have hlt : b < w1.heap.size := lt_of_block hbk
  have hb2 : w2.heap[b]? = some (.cells #[.pointer (some ⟨b, 0, none⟩), v] 88 (0, 0)) := by
    rw [hgrow.block b hlt (fun e => hne e.symm)]
    exact hbk
  have d0 : w2.cell? ⟨b, 0, none⟩ = some (.pointer (some ⟨b, 0, none⟩)) := by rw [Lib.cell_of_heap hb2]; rfl
  have d1 : w2.cell? ⟨b, 1, none⟩ = some v := by rw [Lib.cell_of_heap hb2]; rfl
  have f1 : w2.frozen? ⟨b, 1, none⟩ = false := Lib.frozen_of_heap hb2 1
  obtain ⟨ao, n', cap, rfl⟩ : ∃ ao n' cap, v' = .slice ao n' cap := by
    rcases hown'.2 with ⟨hv, _⟩ | ⟨g, cap, cur, hv, _⟩
    · exact ⟨_, _, _, hv⟩
    · exact ⟨_, _, _, hv⟩
  go_wp2
  go_ret2
  refine ⟨rfl, ?_, ?_⟩
  · exact Lib.BuilderAt.put (T := 88) (e := 5) hB hb2 (bs' := bs ++ news) (by simpa [hn] using hown') (by decide)
  · exact (hb1.grown hgrow (by have := hb1.size; omega) (fun k hk => (hown.lt k hk).1)).setCell (p := ⟨b, 1, none⟩) hB _
end Go.Proofs.YtnenbihmokolpaaGreatDoor

namespace Go.Proofs.YtnenbihmokolpaaGreatDoor set_option linter.unusedVariables false set_option linter.unusedSimpArgs false

def hexB (n : Nat) : UInt8 := [48, 49, 50, 51, 52, 53, 54, 55, 56, 57, 97, 98, 99, 100, 101, 102].getD n 48
/-- The bytes below n that it has, each as it is shown. -/
def classS (r : Rx) (n : Nat) : List UInt8 := (List.range n).flatMap fun b => if r.has b then [92, 120, hexB (b / 16), hexB (b % 16)] else []
theorem classS_succ (r : Rx) (n : Nat) : classS r (n + 1) = classS r n ++ (if r.has n then [92, 120, hexB (n / 16), hexB (n % 16)] else []) := by
  simp [classS, List.range_succ]
theorem classS_length (r : Rx) (n : Nat) : (classS r n).length ≤ 4 * n := by
  induction n with
  | zero => simp [classS]
  | succ n ih =>
    rw [classS_succ, List.length_append]
    split
    · simp; omega
    · simp; omega
mutual
def showL : Rx → List UInt8
  | .mk k b0 b1 b2 b3 kids =>
    if k = 0 then [40, 41] else if k = 1 then [91] ++ classS (.mk k b0 b1 b2 b3 []) 256 ++ [93]
    else if k = 4 then ((showLs kids).headD [40, 41]) ++ [42]
    else if k = 2 then [40] ++ Lib.join (showLs kids) [] ++ [41]
    else if k = 3 ∧ kids ≠ [] then [40] ++ Lib.join (showLs kids) [124] ++ [41] else [91, 93]
def showLs : List Rx → List (List UInt8)
  | [] => []
  | r :: rs => showL r :: showLs rs
end
theorem showLs_eq (l : List Rx) : showLs l = l.map showL := by
  induction l with
  | nil => rfl
  | cons r l ih => simp [showLs, ih]
theorem join_length (xs : List (List UInt8)) (sep : List UInt8) (hs : sep.length ≤ 1) : (Lib.join xs sep).length ≤ (xs.map fun x => x.length + 1).sum := by
  cases xs with
  | nil => simp [Lib.join_nil]
  | cons x xs =>
    have h : ∀ (r : List (List UInt8)), (Lib.joinTail sep r).length ≤ (r.map fun x => x.length + 1).sum := by
      intro r
      induction r with
      | nil => simp [Lib.joinTail]
      | cons y r ih =>
        simp only [Lib.joinTail, List.map_cons, List.flatten_cons, List.length_append, List.sum_cons] at ih ⊢
        omega
    have := h xs
    rw [Lib.join_cons]
    simp only [List.length_append, List.map_cons, List.sum_cons]
    omega
mutual
theorem showL_length : ∀ r : Rx, (showL r).length + 1 ≤ 1030 * r.size
  | .mk k b0 b1 b2 b3 kids => by
    have h1 := classS_length (.mk k b0 b1 b2 b3 []) 256
    have h2 := showLs_length kids
    have h3 := join_length (showLs kids) [] (by simp)
    have h4 := join_length (showLs kids) [124] (by simp)
    simp only [showL, Rx.size]
    split
    · simp; omega
    split
    · simp; omega
    split
    · cases hk : showLs kids with
      | nil => simp; omega
      | cons x xs =>
        rw [hk] at h2
        simp at h2 ⊢
        omega
    split
    · simp; omega
    split
    · simp; omega
    · simp; omega
theorem showLs_length : ∀ l : List Rx, ((showLs l).map fun x => x.length + 1).sum ≤ 1030 * Rx.sizes l
  | [] => by simp [showLs]
  | r :: l => by
    have h1 := showL_length r
    have h2 := showLs_length l
    simp only [showLs, List.map_cons, List.sum_cons, Rx.sizes]
    omega
end
/-- A text of bytes. -/
def bstr (l : List UInt8) : ByteArray := ⟨l.toArray⟩
theorem bstr_append (a b : List UInt8) : bstr a ++ bstr b = bstr (a ++ b) := by
  apply ByteArray.ext
  simp [bstr]
theorem bstr_toList (l : List UInt8) : (bstr l).data.toList = l := by simp [bstr]
def strsV (l : List Rx) : List Value := (showLs l).map fun b => .string (bstr b)
theorem strsV_append (l m : List Rx) : strsV (l ++ m) = strsV l ++ strsV m := by simp [strsV, showLs_eq]
end Go.Proofs.YtnenbihmokolpaaGreatDoor

namespace Go.Proofs.YtnenbihmokolpaaGreatDoor set_option linter.unusedVariables false set_option linter.unusedSimpArgs false

theorem Rx.size_kid {k : Int} {b0 b1 b2 b3 : Nat} {kids : List Rx} {r : Rx} (h : r ∈ kids) : r.size + 1 ≤ (Rx.mk k b0 b1 b2 b3 kids).size := by
  obtain ⟨i, hi⟩ := List.mem_iff_getElem?.1 h
  have h1 := Rx.sizes_take_succ kids i r hi
  have h2 := Rx.sizes_le kids (i + 1)
  simp only [Rx.size]
  omega
end Go.Proofs.YtnenbihmokolpaaGreatDoor

namespace Go.Proofs.YtnenbihmokolpaaGreatDoor set_option linter.unusedVariables false set_option linter.unusedSimpArgs false
open Go.RowKit

theorem str_info : (Tryz.prog.info? 9).map (fun i => (i.zero, i.size, i.bytes)) = some (some (.string ⟨#[]⟩), 1, 16) := by kernel_rfl
def ShowC (r : Rx) : Prop := ∀ (v : Value) (w : World) (ok : Nat → Prop), RxV ok w v r →
  Calls Tryz.prog 14 #[v] w fun e w' => e = .returned (.string (bstr (showL r))) ∧ Fr none_ w w'

set_option maxRecDepth 100000 in
set_option maxHeartbeats 4000000 in
theorem show_0 (b0 b1 b2 b3 : Nat) (kids : List Rx) (hk : kids.length ≤ 1000) (hsz : Rx.sizes kids ≤ 1000) (hsub : ∀ r ∈ kids, ShowC r) : ShowC (.mk 0 b0 b1 b2 b3 kids) := by
  intro v w ok hrv
  obtain ⟨a, cap, rfl, hc, hl⟩ := hrv.open_
  obtain ⟨i0, hi, hz0, hz1, hz2⟩ := info_parts str_info
  have F0 := Lib.hid ((Fr.refl none_ w).alloc (.cells #[.int .i64 0, .int .u64 b0, .int .u64 b1, .int .u64 b2, .int .u64 b3, .slice a kids.length cap] 53))
  have NX := Lib.hid (alloc_new w (.cells #[.int .i64 0, .int .u64 b0, .int .u64 b1, .int .u64 b2, .int .u64 b3, .slice a kids.length cap] 53))
  have HL := Lib.hid hl
  have HS := Lib.hid hsub
  have HSZ := Lib.hid hsz
  have h1w : (w.alloc (.cells #[.int .i64 0, .int .u64 b0, .int .u64 b1, .int .u64 b2, .int .u64 b3, .slice a kids.length cap] 53)).heap.size = w.heap.size + 1 := by simp
  clear hrv hl hsub hsz
  go_enter Tryz.func14, Tryz.ntmps14
  go_wp2_with fail
  generalize hw1 : w.alloc (.cells #[.int .i64 0, .int .u64 b0, .int .u64 b1, .int .u64 b2, .int .u64 b3, .slice a kids.length cap] 53) = w1
  rw [hw1] at F0 NX h1w
  clear hw1
  go_loopw [3, 11] (fun x3 x11 wr => ∃ i : Nat, i ≤ kids.length ∧ x11 = .int .i64 i ∧ Aside (wr.ownsRow (w.heap.size + 1) 9 1 x3 i (strsV (kids.take i))) ∧ Aside (Fr none_ w1 wr)) (fun _ x11 _ => kids.length - (intOf x11).toNat)
  case atStart => exact ⟨0, Nat.zero_le _, rfl, World.ownsRow_nil _ _ _ _, Fr.refl _ _⟩
  case round =>
    obtain ⟨i, hi', rfl, how, hfr⟩ := hrel
    have HO := Lib.hid how.out
    have HFr := Lib.hid hfr.out
    have NXr := Lib.hid (HFr.out.at_ NX.out (fun h => h))
    obtain ⟨z0, z1, z2, z3, z4, z5⟩ := six NXr.out
    have hwr := lt_of_block NXr.out
    clear how hfr
    by_cases hlt : i < kids.length
    · have hlt' : (i : Int) < (kids.length : Int) := by omega
      obtain ⟨⟨k', x0, x1, x2, x3, kids'⟩, hki⟩ : ∃ r, kids[i]? = some r := ⟨kids[i]'hlt, List.getElem?_eq_getElem hlt⟩
      have hmv : RxL ok wr a 0 kids := RxL.move (fun k _ hlt => ((F0.out.tr HFr.out).block k hlt (fun h => h))) kids a 0 HL.out
      obtain ⟨ad, a', cap', rfl, hok, c0, c1, c2, c3, c4, c5, hc', hl'⟩ := hmv.elem hki
      have HL' := Lib.hid hl'
      have HKC := Lib.hid (HS.out _ (List.mem_of_getElem? hki))
      have FK := Lib.hid (Fr.alloc (Fr.refl none_ wr) (.cells #[.int .i64 k', .int .u64 x0, .int .u64 x1, .int .u64 x2, .int .u64 x3, .slice a' kids'.length cap'] 53))
      have htake : kids.take (i + 1) = kids.take i ++ [.mk k' x0 x1 x2 x3 kids'] := by rw [List.take_add_one, hki]; rfl
      have HTK := Lib.hid (show strsV (kids.take (i + 1)) = strsV (kids.take i) ++ [.string (bstr (showL (.mk k' x0 x1 x2 x3 kids')))] by rw [htake, strsV_append]; rfl)
      obtain ⟨y0, y1, y2, y3, y4, y5⟩ := six (alloc_new wr (.cells #[.int .i64 k', .int .u64 x0, .int .u64 x1, .int .u64 x2, .int .u64 x3, .slice a' kids'.length cap'] 53))
      clear hki hmv hl' htake
      go_wp2_with fail
      refine (HKC.out _ _ ok (RxV.mk_ hc' (RxL.move (fun k _ hlt => FK.out.block k hlt (fun h => h)) _ _ _ HL'.out))).mono ?_
      rintro e w2 ⟨rfl, h4⟩
      have K4 := Lib.hid (FK.out.tr h4)
      have HO2 := Lib.hid (ownsRow_same HO.out (fun b hb => K4.out.block b (HO.out.lt b hb).2 (fun h => h)))
      have hs2 := K4.out.size
      generalize showL (.mk k' x0 x1 x2 x3 kids') = sh at *
      clear h4 z0 z1 z2 z3 z4 z5 c0 c1 c2 c3 c4 c5 y0 y1 y2 y3 y4 y5
      go_wp2_with (at_builtin; refine wpList_append_lies _ rfl (.tmp 15) (.tmp 18) 44 rfl (w.heap.size + 1) 9 i0 _ 1 16 Tryz.underlying44 hi hz0 hz1 hz2 rfl (by decide) _ i (strsV (kids.take i)) rfl (HO2.out.alloc _) ⟨w2.heap.size, 0, none⟩ 1 1 [.string (bstr sh)] rfl rfl (getElem_block (alloc_new _ _)) ?c1 (by decide) ?c2 ?c3 ?c4 (w2.heap.size + 1) (by simp) ?_)
      case c1 => simp [Value.oneCell']
      case c2 => unfold maxLen; omega
      case c3 => omega
      case c4 => first | omega | (simp; omega)
      intro g3 cap3 w3 hown3 hgrow3 hat3 hlt3
      have FN := Lib.hid (((HFr.out.tr K4.out).alloc (.cells #[.string (bstr sh)] 9)).grown hgrow3 (fun k hk => .inr (by have := (HO2.out.lt k hk).1; omega)))
      have HN3 := Lib.hid hown3
      clear hown3 hgrow3 hat3 hlt3
      go_wp2_with fail
      go_roundw
      case rel => exact ⟨i + 1, by omega, by go_num, by rw [HTK.out]; exact HN3.out, FN.out⟩
      case measure => simp [intOf]; omega
    · obtain rfl : i = kids.length := by omega
      have htk : kids.take kids.length = kids := List.take_length
      rw [htk] at HO
      have FW := Lib.hid (F0.out.tr HFr.out)
      clear htk hlt HS
      go_wp2_with fail
      go_ret
      exact ⟨by simp [showL, bstr], FW.out⟩

set_option maxRecDepth 100000 in
set_option maxHeartbeats 4000000 in
theorem show_other (k : Int) (h0 : k ≠ 0) (h1 : k ≠ 1) (h2 : k ≠ 2) (h3 : k ≠ 3) (h4 : k ≠ 4) (b0 b1 b2 b3 : Nat) (kids : List Rx) (hk : kids.length ≤ 1000) (hsz : Rx.sizes kids ≤ 1000) (hsub : ∀ r ∈ kids, ShowC r) : ShowC (.mk k b0 b1 b2 b3 kids) := by
  intro v w ok hrv
  obtain ⟨a, cap, rfl, hc, hl⟩ := hrv.open_
  obtain ⟨i0, hi, hz0, hz1, hz2⟩ := info_parts str_info
  have e0 : (k == 0) = false := by rw [beq_eq_false_iff_ne]; exact h0
  have e1 : (k == 1) = false := by rw [beq_eq_false_iff_ne]; exact h1
  have e2 : (k == 2) = false := by rw [beq_eq_false_iff_ne]; exact h2
  have e3 : (k == 3) = false := by rw [beq_eq_false_iff_ne]; exact h3
  have e4 : (k == 4) = false := by rw [beq_eq_false_iff_ne]; exact h4
  have HLA := Lib.hid (show showL (.mk k b0 b1 b2 b3 kids) = [91, 93] by simp [showL, h0, h1, h2, h3, h4])
  clear h0 h1 h2 h3 h4
  have F0 := Lib.hid ((Fr.refl none_ w).alloc (.cells #[.int .i64 k, .int .u64 b0, .int .u64 b1, .int .u64 b2, .int .u64 b3, .slice a kids.length cap] 53))
  have NX := Lib.hid (alloc_new w (.cells #[.int .i64 k, .int .u64 b0, .int .u64 b1, .int .u64 b2, .int .u64 b3, .slice a kids.length cap] 53))
  have HL := Lib.hid hl
  have HS := Lib.hid hsub
  have HSZ := Lib.hid hsz
  have h1w : (w.alloc (.cells #[.int .i64 k, .int .u64 b0, .int .u64 b1, .int .u64 b2, .int .u64 b3, .slice a kids.length cap] 53)).heap.size = w.heap.size + 1 := by simp
  clear hrv hl hsub hsz
  go_enter Tryz.func14, Tryz.ntmps14
  go_wp2_with fail
  generalize hw1 : w.alloc (.cells #[.int .i64 k, .int .u64 b0, .int .u64 b1, .int .u64 b2, .int .u64 b3, .slice a kids.length cap] 53) = w1
  rw [hw1] at F0 NX h1w
  clear hw1
  go_loopw [3, 11] (fun x3 x11 wr => ∃ i : Nat, i ≤ kids.length ∧ x11 = .int .i64 i ∧ Aside (wr.ownsRow (w.heap.size + 1) 9 1 x3 i (strsV (kids.take i))) ∧ Aside (Fr none_ w1 wr)) (fun _ x11 _ => kids.length - (intOf x11).toNat)
  case atStart => exact ⟨0, Nat.zero_le _, rfl, World.ownsRow_nil _ _ _ _, Fr.refl _ _⟩
  case round =>
    obtain ⟨i, hi', rfl, how, hfr⟩ := hrel
    have HO := Lib.hid how.out
    have HFr := Lib.hid hfr.out
    have NXr := Lib.hid (HFr.out.at_ NX.out (fun h => h))
    obtain ⟨z0, z1, z2, z3, z4, z5⟩ := six NXr.out
    have hwr := lt_of_block NXr.out
    clear how hfr
    by_cases hlt : i < kids.length
    · have hlt' : (i : Int) < (kids.length : Int) := by omega
      obtain ⟨⟨k', x0, x1, x2, x3, kids'⟩, hki⟩ : ∃ r, kids[i]? = some r := ⟨kids[i]'hlt, List.getElem?_eq_getElem hlt⟩
      have hmv : RxL ok wr a 0 kids := RxL.move (fun k _ hlt => ((F0.out.tr HFr.out).block k hlt (fun h => h))) kids a 0 HL.out
      obtain ⟨ad, a', cap', rfl, hok, c0, c1, c2, c3, c4, c5, hc', hl'⟩ := hmv.elem hki
      have HL' := Lib.hid hl'
      have HKC := Lib.hid (HS.out _ (List.mem_of_getElem? hki))
      have FK := Lib.hid (Fr.alloc (Fr.refl none_ wr) (.cells #[.int .i64 k', .int .u64 x0, .int .u64 x1, .int .u64 x2, .int .u64 x3, .slice a' kids'.length cap'] 53))
      have htake : kids.take (i + 1) = kids.take i ++ [.mk k' x0 x1 x2 x3 kids'] := by rw [List.take_add_one, hki]; rfl
      have HTK := Lib.hid (show strsV (kids.take (i + 1)) = strsV (kids.take i) ++ [.string (bstr (showL (.mk k' x0 x1 x2 x3 kids')))] by rw [htake, strsV_append]; rfl)
      obtain ⟨y0, y1, y2, y3, y4, y5⟩ := six (alloc_new wr (.cells #[.int .i64 k', .int .u64 x0, .int .u64 x1, .int .u64 x2, .int .u64 x3, .slice a' kids'.length cap'] 53))
      clear hki hmv hl' htake
      go_wp2_with fail
      refine (HKC.out _ _ ok (RxV.mk_ hc' (RxL.move (fun k _ hlt => FK.out.block k hlt (fun h => h)) _ _ _ HL'.out))).mono ?_
      rintro e w2 ⟨rfl, h4⟩
      have K4 := Lib.hid (FK.out.tr h4)
      have HO2 := Lib.hid (ownsRow_same HO.out (fun b hb => K4.out.block b (HO.out.lt b hb).2 (fun h => h)))
      have hs2 := K4.out.size
      generalize showL (.mk k' x0 x1 x2 x3 kids') = sh at *
      clear h4 z0 z1 z2 z3 z4 z5 c0 c1 c2 c3 c4 c5 y0 y1 y2 y3 y4 y5
      go_wp2_with (at_builtin; refine wpList_append_lies _ rfl (.tmp 15) (.tmp 18) 44 rfl (w.heap.size + 1) 9 i0 _ 1 16 Tryz.underlying44 hi hz0 hz1 hz2 rfl (by decide) _ i (strsV (kids.take i)) rfl (HO2.out.alloc _) ⟨w2.heap.size, 0, none⟩ 1 1 [.string (bstr sh)] rfl rfl (getElem_block (alloc_new _ _)) ?c1 (by decide) ?c2 ?c3 ?c4 (w2.heap.size + 1) (by simp) ?_)
      case c1 => simp [Value.oneCell']
      case c2 => unfold maxLen; omega
      case c3 => omega
      case c4 => first | omega | (simp; omega)
      intro g3 cap3 w3 hown3 hgrow3 hat3 hlt3
      have FN := Lib.hid (((HFr.out.tr K4.out).alloc (.cells #[.string (bstr sh)] 9)).grown hgrow3 (fun k hk => .inr (by have := (HO2.out.lt k hk).1; omega)))
      have HN3 := Lib.hid hown3
      clear hown3 hgrow3 hat3 hlt3
      go_wp2_with fail
      go_roundw
      case rel => exact ⟨i + 1, by omega, by go_num, by rw [HTK.out]; exact HN3.out, FN.out⟩
      case measure => simp [intOf]; omega
    · obtain rfl : i = kids.length := by omega
      have htk : kids.take kids.length = kids := List.take_length
      rw [htk] at HO
      have FW := Lib.hid (F0.out.tr HFr.out)
      clear htk hlt HS
      go_wp2_with fail
      go_ret
      exact ⟨by rw [HLA.out]; rfl, FW.out⟩

theorem bstr_size (l : List UInt8) : (bstr l).size = l.length := by simp [bstr, ByteArray.size]
theorem row_slice {w : World} {B n : Nat} {e : TypeId} {v : Value} {xs : List Value} (h : w.ownsRow B e 1 v n xs) : ∃ a cap, v = .slice a n cap ∧ n ≤ cap := by
  rcases h.2 with ⟨rfl, rfl⟩ | ⟨g, cap, cur, rfl, _, _, hc, _⟩
  · exact ⟨_, _, rfl, Nat.le_refl _⟩
  · exact ⟨_, _, rfl, hc⟩
theorem join_any (B : Nat) (v : Value) (kids : List Rx) (sep : List UInt8) (w : World) (h : w.ownsRow B 9 1 v kids.length (strsV kids)) (hk : kids.length ≤ 1000) (hsz : Rx.sizes kids ≤ 1000) (hs : sep.length ≤ 1) :
    Calls Tryz.prog 37 #[v, .string (bstr sep)] w fun e w' => e = .returned (.string (bstr (Lib.join (showLs kids) sep))) ∧ Fr none_ w w' := by
  have hlen := join_length (showLs kids) sep hs
  have hl2 := showLs_length kids
  rcases h.2 with ⟨rfl, h0⟩ | ⟨g, cap, cur, rfl, _, hg, hc, _⟩
  · have : kids = [] := List.length_eq_zero_iff.1 h0
    subst this
    refine (Tryz.strings_Join_none none 0 (bstr sep) w).mono ?_
    rintro e w' ⟨rfl, rfl⟩
    exact ⟨rfl, Fr.refl _ _⟩
  · have hln : ((showLs kids).map bstr).length = kids.length := by simp [showLs_eq]
    have hmm : ((showLs kids).map bstr).map (fun x : ByteArray => x.data.toList) = showLs kids := by
      rw [List.map_map]
      exact (List.map_congr_left (fun x _ => bstr_toList x)).trans (List.map_id _)
    have hj := Tryz.strings_Join g 0 cap ((showLs kids).map bstr) (bstr sep) w (fun j x hx => by
      have hj : j < kids.length := by rw [← hln]; exact (List.getElem?_eq_some_iff.1 hx).1
      rw [Nat.zero_add, h.cellAt j (by omega)]
      rw [List.getElem?_map] at hx
      rw [strsV, List.getElem?_map]
      cases hq : (showLs kids)[j]? with
      | none => rw [hq] at hx; simp at hx
      | some y => rw [hq] at hx; simp at hx; subst hx; rfl) (lt_of_block hg) (by omega) (by omega) (by rw [hmm, bstr_toList]; omega)
    rw [hln] at hj
    refine hj.mono ?_
    rintro e w' ⟨rfl, hb⟩
    exact ⟨by rw [hmm, bstr_toList]; rfl, Fr.of_below hb⟩

set_option maxRecDepth 100000 in
set_option maxHeartbeats 4000000 in
theorem show_4 (b0 b1 b2 b3 : Nat) (kids : List Rx) (hk : kids.length ≤ 1000) (hsz : Rx.sizes kids ≤ 1000) (hsub : ∀ r ∈ kids, ShowC r) : ShowC (.mk 4 b0 b1 b2 b3 kids) := by
  intro v w ok hrv
  obtain ⟨a, cap, rfl, hc, hl⟩ := hrv.open_
  obtain ⟨i0, hi, hz0, hz1, hz2⟩ := info_parts str_info
  have F0 := Lib.hid ((Fr.refl none_ w).alloc (.cells #[.int .i64 4, .int .u64 b0, .int .u64 b1, .int .u64 b2, .int .u64 b3, .slice a kids.length cap] 53))
  have NX := Lib.hid (alloc_new w (.cells #[.int .i64 4, .int .u64 b0, .int .u64 b1, .int .u64 b2, .int .u64 b3, .slice a kids.length cap] 53))
  have HL := Lib.hid hl
  have HS := Lib.hid hsub
  have HSZ := Lib.hid hsz
  have h1w : (w.alloc (.cells #[.int .i64 4, .int .u64 b0, .int .u64 b1, .int .u64 b2, .int .u64 b3, .slice a kids.length cap] 53)).heap.size = w.heap.size + 1 := by simp
  clear hrv hl hsub hsz
  go_enter Tryz.func14, Tryz.ntmps14
  go_wp2_with fail
  generalize hw1 : w.alloc (.cells #[.int .i64 4, .int .u64 b0, .int .u64 b1, .int .u64 b2, .int .u64 b3, .slice a kids.length cap] 53) = w1
  rw [hw1] at F0 NX h1w
  clear hw1
  go_loopw [3, 11] (fun x3 x11 wr => ∃ i : Nat, i ≤ kids.length ∧ x11 = .int .i64 i ∧ Aside (wr.ownsRow (w.heap.size + 1) 9 1 x3 i (strsV (kids.take i))) ∧ Aside (Fr none_ w1 wr)) (fun _ x11 _ => kids.length - (intOf x11).toNat)
  case atStart => exact ⟨0, Nat.zero_le _, rfl, World.ownsRow_nil _ _ _ _, Fr.refl _ _⟩
  case round =>
    obtain ⟨i, hi', rfl, how, hfr⟩ := hrel
    have HO := Lib.hid how.out
    have HFr := Lib.hid hfr.out
    have NXr := Lib.hid (HFr.out.at_ NX.out (fun h => h))
    obtain ⟨z0, z1, z2, z3, z4, z5⟩ := six NXr.out
    have hwr := lt_of_block NXr.out
    clear how hfr
    by_cases hlt : i < kids.length
    · have hlt' : (i : Int) < (kids.length : Int) := by omega
      obtain ⟨⟨k', x0, x1, x2, x3, kids'⟩, hki⟩ : ∃ r, kids[i]? = some r := ⟨kids[i]'hlt, List.getElem?_eq_getElem hlt⟩
      have hmv : RxL ok wr a 0 kids := RxL.move (fun k _ hlt => ((F0.out.tr HFr.out).block k hlt (fun h => h))) kids a 0 HL.out
      obtain ⟨ad, a', cap', rfl, hok, c0, c1, c2, c3, c4, c5, hc', hl'⟩ := hmv.elem hki
      have HL' := Lib.hid hl'
      have HKC := Lib.hid (HS.out _ (List.mem_of_getElem? hki))
      have FK := Lib.hid (Fr.alloc (Fr.refl none_ wr) (.cells #[.int .i64 k', .int .u64 x0, .int .u64 x1, .int .u64 x2, .int .u64 x3, .slice a' kids'.length cap'] 53))
      have htake : kids.take (i + 1) = kids.take i ++ [.mk k' x0 x1 x2 x3 kids'] := by rw [List.take_add_one, hki]; rfl
      have HTK := Lib.hid (show strsV (kids.take (i + 1)) = strsV (kids.take i) ++ [.string (bstr (showL (.mk k' x0 x1 x2 x3 kids')))] by rw [htake, strsV_append]; rfl)
      obtain ⟨y0, y1, y2, y3, y4, y5⟩ := six (alloc_new wr (.cells #[.int .i64 k', .int .u64 x0, .int .u64 x1, .int .u64 x2, .int .u64 x3, .slice a' kids'.length cap'] 53))
      clear hki hmv hl' htake
      go_wp2_with fail
      refine (HKC.out _ _ ok (RxV.mk_ hc' (RxL.move (fun k _ hlt => FK.out.block k hlt (fun h => h)) _ _ _ HL'.out))).mono ?_
      rintro e w2 ⟨rfl, h4⟩
      have K4 := Lib.hid (FK.out.tr h4)
      have HO2 := Lib.hid (ownsRow_same HO.out (fun b hb => K4.out.block b (HO.out.lt b hb).2 (fun h => h)))
      have hs2 := K4.out.size
      generalize showL (.mk k' x0 x1 x2 x3 kids') = sh at *
      clear h4 z0 z1 z2 z3 z4 z5 c0 c1 c2 c3 c4 c5 y0 y1 y2 y3 y4 y5
      go_wp2_with (at_builtin; refine wpList_append_lies _ rfl (.tmp 15) (.tmp 18) 44 rfl (w.heap.size + 1) 9 i0 _ 1 16 Tryz.underlying44 hi hz0 hz1 hz2 rfl (by decide) _ i (strsV (kids.take i)) rfl (HO2.out.alloc _) ⟨w2.heap.size, 0, none⟩ 1 1 [.string (bstr sh)] rfl rfl (getElem_block (alloc_new _ _)) ?c1 (by decide) ?c2 ?c3 ?c4 (w2.heap.size + 1) (by simp) ?_)
      case c1 => simp [Value.oneCell']
      case c2 => unfold maxLen; omega
      case c3 => omega
      case c4 => first | omega | (simp; omega)
      intro g3 cap3 w3 hown3 hgrow3 hat3 hlt3
      have FN := Lib.hid (((HFr.out.tr K4.out).alloc (.cells #[.string (bstr sh)] 9)).grown hgrow3 (fun k hk => .inr (by have := (HO2.out.lt k hk).1; omega)))
      have HN3 := Lib.hid hown3
      clear hown3 hgrow3 hat3 hlt3
      go_wp2_with fail
      go_roundw
      case rel => exact ⟨i + 1, by omega, by go_num, by rw [HTK.out]; exact HN3.out, FN.out⟩
      case measure => simp [intOf]; omega
    · obtain rfl : i = kids.length := by omega
      have htk : kids.take kids.length = kids := List.take_length
      rw [htk] at HO
      have FW := Lib.hid (F0.out.tr HFr.out)
      clear htk hlt HS
      obtain ⟨sa, sc, rfl, hsc⟩ := row_slice HO.out
      go_wp2_with (at_builtin; refine wpList_append_lies _ rfl (.tmp 48) (.tmp 49) 44 rfl (w.heap.size + 1) 9 i0 _ 1 16 Tryz.underlying44 hi hz0 hz1 hz2 rfl (by decide) _ kids.length (strsV kids) rfl (HO.out.alloc _) ⟨wr.heap.size, 0, none⟩ 1 1 [.string (bstr [40, 41])] rfl rfl (getElem_block (alloc_new _ _)) ?c1 (by decide) ?c2 ?c3 ?c4 (wr.heap.size + 1) (by simp) ?_)
      case c1 => simp [Value.oneCell']
      case c2 => unfold maxLen; omega
      case c3 => omega
      case c4 => first | omega | (simp; omega)
      intro g3 cap3 w3 hown3 hgrow3 hat3 hlt3
      have FN := Lib.hid ((FW.out.alloc (.cells #[.string (bstr [40, 41])] 9)).grown hgrow3 (fun k hk => .inr (by have := (HO.out.lt k hk).1; omega)))
      have d0 : w3.cell? ⟨g3, 0, none⟩ = some (.string (bstr ((showLs kids).headD [40, 41]))) := by
        rw [hown3.cellAt 0 (by omega), strsV]
        cases showLs kids <;> rfl
      clear hown3 hgrow3 hat3 hlt3
      have hq : (bstr ((showLs kids).headD [40, 41])).size ≤ 1100000 := by
        have h2 := showLs_length kids
        have h3 := HSZ.out
        rw [bstr_size]
        cases hq : showLs kids with
        | nil => simp
        | cons x xs => rw [hq] at h2; simp at h2 ⊢; omega
      generalize hhd : (showLs kids).headD [40, 41] = hd at *
      have q1 : (bstr hd).size + 1 ≤ 9223372036854775807 := by omega
      have q2 : (bstr hd).size + (ByteArray.mk #[42]).size ≤ 9223372036854775807 := q1
      have HD := Lib.hid hhd
      clear hhd
      go_wp2_with fail
      go_ret
      exact ⟨congrArg (fun x => Ending.returned (.string x)) ((bstr_append hd [42]).trans (by simp [showL, ← HD.out])), FN.out⟩

set_option maxRecDepth 100000 in
set_option maxHeartbeats 4000000 in
theorem show_2 (b0 b1 b2 b3 : Nat) (kids : List Rx) (hk : kids.length ≤ 1000) (hsz : Rx.sizes kids ≤ 1000) (hsub : ∀ r ∈ kids, ShowC r) : ShowC (.mk 2 b0 b1 b2 b3 kids) := by
  intro v w ok hrv
  obtain ⟨a, cap, rfl, hc, hl⟩ := hrv.open_
  obtain ⟨i0, hi, hz0, hz1, hz2⟩ := info_parts str_info
  have F0 := Lib.hid ((Fr.refl none_ w).alloc (.cells #[.int .i64 2, .int .u64 b0, .int .u64 b1, .int .u64 b2, .int .u64 b3, .slice a kids.length cap] 53))
  have NX := Lib.hid (alloc_new w (.cells #[.int .i64 2, .int .u64 b0, .int .u64 b1, .int .u64 b2, .int .u64 b3, .slice a kids.length cap] 53))
  have HL := Lib.hid hl
  have HS := Lib.hid hsub
  have HSZ := Lib.hid hsz
  have h1w : (w.alloc (.cells #[.int .i64 2, .int .u64 b0, .int .u64 b1, .int .u64 b2, .int .u64 b3, .slice a kids.length cap] 53)).heap.size = w.heap.size + 1 := by simp
  clear hrv hl hsub hsz
  go_enter Tryz.func14, Tryz.ntmps14
  go_wp2_with fail
  generalize hw1 : w.alloc (.cells #[.int .i64 2, .int .u64 b0, .int .u64 b1, .int .u64 b2, .int .u64 b3, .slice a kids.length cap] 53) = w1
  rw [hw1] at F0 NX h1w
  clear hw1
  go_loopw [3, 11] (fun x3 x11 wr => ∃ i : Nat, i ≤ kids.length ∧ x11 = .int .i64 i ∧ Aside (wr.ownsRow (w.heap.size + 1) 9 1 x3 i (strsV (kids.take i))) ∧ Aside (Fr none_ w1 wr)) (fun _ x11 _ => kids.length - (intOf x11).toNat)
  case atStart => exact ⟨0, Nat.zero_le _, rfl, World.ownsRow_nil _ _ _ _, Fr.refl _ _⟩
  case round =>
    obtain ⟨i, hi', rfl, how, hfr⟩ := hrel
    have HO := Lib.hid how.out
    have HFr := Lib.hid hfr.out
    have NXr := Lib.hid (HFr.out.at_ NX.out (fun h => h))
    obtain ⟨z0, z1, z2, z3, z4, z5⟩ := six NXr.out
    have hwr := lt_of_block NXr.out
    clear how hfr
    by_cases hlt : i < kids.length
    · have hlt' : (i : Int) < (kids.length : Int) := by omega
      obtain ⟨⟨k', x0, x1, x2, x3, kids'⟩, hki⟩ : ∃ r, kids[i]? = some r := ⟨kids[i]'hlt, List.getElem?_eq_getElem hlt⟩
      have hmv : RxL ok wr a 0 kids := RxL.move (fun k _ hlt => ((F0.out.tr HFr.out).block k hlt (fun h => h))) kids a 0 HL.out
      obtain ⟨ad, a', cap', rfl, hok, c0, c1, c2, c3, c4, c5, hc', hl'⟩ := hmv.elem hki
      have HL' := Lib.hid hl'
      have HKC := Lib.hid (HS.out _ (List.mem_of_getElem? hki))
      have FK := Lib.hid (Fr.alloc (Fr.refl none_ wr) (.cells #[.int .i64 k', .int .u64 x0, .int .u64 x1, .int .u64 x2, .int .u64 x3, .slice a' kids'.length cap'] 53))
      have htake : kids.take (i + 1) = kids.take i ++ [.mk k' x0 x1 x2 x3 kids'] := by rw [List.take_add_one, hki]; rfl
      have HTK := Lib.hid (show strsV (kids.take (i + 1)) = strsV (kids.take i) ++ [.string (bstr (showL (.mk k' x0 x1 x2 x3 kids')))] by rw [htake, strsV_append]; rfl)
      obtain ⟨y0, y1, y2, y3, y4, y5⟩ := six (alloc_new wr (.cells #[.int .i64 k', .int .u64 x0, .int .u64 x1, .int .u64 x2, .int .u64 x3, .slice a' kids'.length cap'] 53))
      clear hki hmv hl' htake
      go_wp2_with fail
      refine (HKC.out _ _ ok (RxV.mk_ hc' (RxL.move (fun k _ hlt => FK.out.block k hlt (fun h => h)) _ _ _ HL'.out))).mono ?_
      rintro e w2 ⟨rfl, h4⟩
      have K4 := Lib.hid (FK.out.tr h4)
      have HO2 := Lib.hid (ownsRow_same HO.out (fun b hb => K4.out.block b (HO.out.lt b hb).2 (fun h => h)))
      have hs2 := K4.out.size
      generalize showL (.mk k' x0 x1 x2 x3 kids') = sh at *
      clear h4 z0 z1 z2 z3 z4 z5 c0 c1 c2 c3 c4 c5 y0 y1 y2 y3 y4 y5
      go_wp2_with (at_builtin; refine wpList_append_lies _ rfl (.tmp 15) (.tmp 18) 44 rfl (w.heap.size + 1) 9 i0 _ 1 16 Tryz.underlying44 hi hz0 hz1 hz2 rfl (by decide) _ i (strsV (kids.take i)) rfl (HO2.out.alloc _) ⟨w2.heap.size, 0, none⟩ 1 1 [.string (bstr sh)] rfl rfl (getElem_block (alloc_new _ _)) ?c1 (by decide) ?c2 ?c3 ?c4 (w2.heap.size + 1) (by simp) ?_)
      case c1 => simp [Value.oneCell']
      case c2 => unfold maxLen; omega
      case c3 => omega
      case c4 => first | omega | (simp; omega)
      intro g3 cap3 w3 hown3 hgrow3 hat3 hlt3
      have FN := Lib.hid (((HFr.out.tr K4.out).alloc (.cells #[.string (bstr sh)] 9)).grown hgrow3 (fun k hk => .inr (by have := (HO2.out.lt k hk).1; omega)))
      have HN3 := Lib.hid hown3
      clear hown3 hgrow3 hat3 hlt3
      go_wp2_with fail
      go_roundw
      case rel => exact ⟨i + 1, by omega, by go_num, by rw [HTK.out]; exact HN3.out, FN.out⟩
      case measure => simp [intOf]; omega
    · obtain rfl : i = kids.length := by omega
      have htk : kids.take kids.length = kids := List.take_length
      rw [htk] at HO
      have FW := Lib.hid (F0.out.tr HFr.out)
      clear htk hlt HS
      obtain ⟨sa, sc, rfl, hsc⟩ := row_slice HO.out
      have hJ : Calls Tryz.prog 37 #[.slice sa kids.length sc, .string (bstr [])] wr fun e w' => e = .returned (.string (bstr (Lib.join (showLs kids) []))) ∧ Fr none_ wr w' := join_any _ _ kids [] wr HO.out hk HSZ.out (by simp)
      have HJ := Lib.hid hJ
      clear hJ
      go_wp2_with fail
      refine HJ.out.mono ?_
      rintro e w2 ⟨rfl, h2⟩
      have K2 := Lib.hid (FW.out.tr h2)
      clear h2 HJ
      have hq : (bstr (Lib.join (showLs kids) [])).size ≤ 1100000 := by
        have h1 := join_length (showLs kids) [] (by simp)
        have h2 := showLs_length kids
        have h3 := HSZ.out
        rw [bstr_size]
        omega
      generalize hjn : Lib.join (showLs kids) [] = jn at *
      have q1 : 1 + (bstr jn).size ≤ 9223372036854775807 := by omega
      have q2 : (ByteArray.mk #[40]).size + (bstr jn).size ≤ 9223372036854775807 := q1
      have q3 : 1 + (bstr jn).size + 1 ≤ 9223372036854775807 := by omega
      have q4 : (ByteArray.mk #[40] ++ bstr jn).size + (ByteArray.mk #[41]).size ≤ 9223372036854775807 := by rw [ByteArray.size_append]; exact q3
      have HJN := Lib.hid hjn
      clear hjn
      go_wp2_with fail
      go_ret
      exact ⟨congrArg (fun x => Ending.returned (.string x)) (((congrArg (· ++ bstr [41]) (bstr_append [40] jn)).trans (bstr_append ([40] ++ jn) [41])).trans (by simp [showL, ← HJN.out])), K2.out⟩

set_option maxRecDepth 100000 in
set_option maxHeartbeats 4000000 in
theorem show_3 (b0 b1 b2 b3 : Nat) (kids : List Rx) (hk : kids.length ≤ 1000) (hsz : Rx.sizes kids ≤ 1000) (hsub : ∀ r ∈ kids, ShowC r) : ShowC (.mk 3 b0 b1 b2 b3 kids) := by
  intro v w ok hrv
  obtain ⟨a, cap, rfl, hc, hl⟩ := hrv.open_
  obtain ⟨i0, hi, hz0, hz1, hz2⟩ := info_parts str_info
  have F0 := Lib.hid ((Fr.refl none_ w).alloc (.cells #[.int .i64 3, .int .u64 b0, .int .u64 b1, .int .u64 b2, .int .u64 b3, .slice a kids.length cap] 53))
  have NX := Lib.hid (alloc_new w (.cells #[.int .i64 3, .int .u64 b0, .int .u64 b1, .int .u64 b2, .int .u64 b3, .slice a kids.length cap] 53))
  have HL := Lib.hid hl
  have HS := Lib.hid hsub
  have HSZ := Lib.hid hsz
  have h1w : (w.alloc (.cells #[.int .i64 3, .int .u64 b0, .int .u64 b1, .int .u64 b2, .int .u64 b3, .slice a kids.length cap] 53)).heap.size = w.heap.size + 1 := by simp
  clear hrv hl hsub hsz
  go_enter Tryz.func14, Tryz.ntmps14
  go_wp2_with fail
  generalize hw1 : w.alloc (.cells #[.int .i64 3, .int .u64 b0, .int .u64 b1, .int .u64 b2, .int .u64 b3, .slice a kids.length cap] 53) = w1
  rw [hw1] at F0 NX h1w
  clear hw1
  go_loopw [3, 11] (fun x3 x11 wr => ∃ i : Nat, i ≤ kids.length ∧ x11 = .int .i64 i ∧ Aside (wr.ownsRow (w.heap.size + 1) 9 1 x3 i (strsV (kids.take i))) ∧ Aside (Fr none_ w1 wr)) (fun _ x11 _ => kids.length - (intOf x11).toNat)
  case atStart => exact ⟨0, Nat.zero_le _, rfl, World.ownsRow_nil _ _ _ _, Fr.refl _ _⟩
  case round =>
    obtain ⟨i, hi', rfl, how, hfr⟩ := hrel
    have HO := Lib.hid how.out
    have HFr := Lib.hid hfr.out
    have NXr := Lib.hid (HFr.out.at_ NX.out (fun h => h))
    obtain ⟨z0, z1, z2, z3, z4, z5⟩ := six NXr.out
    have hwr := lt_of_block NXr.out
    clear how hfr
    by_cases hlt : i < kids.length
    · have hlt' : (i : Int) < (kids.length : Int) := by omega
      obtain ⟨⟨k', x0, x1, x2, x3, kids'⟩, hki⟩ : ∃ r, kids[i]? = some r := ⟨kids[i]'hlt, List.getElem?_eq_getElem hlt⟩
      have hmv : RxL ok wr a 0 kids := RxL.move (fun k _ hlt => ((F0.out.tr HFr.out).block k hlt (fun h => h))) kids a 0 HL.out
      obtain ⟨ad, a', cap', rfl, hok, c0, c1, c2, c3, c4, c5, hc', hl'⟩ := hmv.elem hki
      have HL' := Lib.hid hl'
      have HKC := Lib.hid (HS.out _ (List.mem_of_getElem? hki))
      have FK := Lib.hid (Fr.alloc (Fr.refl none_ wr) (.cells #[.int .i64 k', .int .u64 x0, .int .u64 x1, .int .u64 x2, .int .u64 x3, .slice a' kids'.length cap'] 53))
      have htake : kids.take (i + 1) = kids.take i ++ [.mk k' x0 x1 x2 x3 kids'] := by rw [List.take_add_one, hki]; rfl
      have HTK := Lib.hid (show strsV (kids.take (i + 1)) = strsV (kids.take i) ++ [.string (bstr (showL (.mk k' x0 x1 x2 x3 kids')))] by rw [htake, strsV_append]; rfl)
      obtain ⟨y0, y1, y2, y3, y4, y5⟩ := six (alloc_new wr (.cells #[.int .i64 k', .int .u64 x0, .int .u64 x1, .int .u64 x2, .int .u64 x3, .slice a' kids'.length cap'] 53))
      clear hki hmv hl' htake
      go_wp2_with fail
      refine (HKC.out _ _ ok (RxV.mk_ hc' (RxL.move (fun k _ hlt => FK.out.block k hlt (fun h => h)) _ _ _ HL'.out))).mono ?_
      rintro e w2 ⟨rfl, h4⟩
      have K4 := Lib.hid (FK.out.tr h4)
      have HO2 := Lib.hid (ownsRow_same HO.out (fun b hb => K4.out.block b (HO.out.lt b hb).2 (fun h => h)))
      have hs2 := K4.out.size
      generalize showL (.mk k' x0 x1 x2 x3 kids') = sh at *
      clear h4 z0 z1 z2 z3 z4 z5 c0 c1 c2 c3 c4 c5 y0 y1 y2 y3 y4 y5
      go_wp2_with (at_builtin; refine wpList_append_lies _ rfl (.tmp 15) (.tmp 18) 44 rfl (w.heap.size + 1) 9 i0 _ 1 16 Tryz.underlying44 hi hz0 hz1 hz2 rfl (by decide) _ i (strsV (kids.take i)) rfl (HO2.out.alloc _) ⟨w2.heap.size, 0, none⟩ 1 1 [.string (bstr sh)] rfl rfl (getElem_block (alloc_new _ _)) ?c1 (by decide) ?c2 ?c3 ?c4 (w2.heap.size + 1) (by simp) ?_)
      case c1 => simp [Value.oneCell']
      case c2 => unfold maxLen; omega
      case c3 => omega
      case c4 => first | omega | (simp; omega)
      intro g3 cap3 w3 hown3 hgrow3 hat3 hlt3
      have FN := Lib.hid (((HFr.out.tr K4.out).alloc (.cells #[.string (bstr sh)] 9)).grown hgrow3 (fun k hk => .inr (by have := (HO2.out.lt k hk).1; omega)))
      have HN3 := Lib.hid hown3
      clear hown3 hgrow3 hat3 hlt3
      go_wp2_with fail
      go_roundw
      case rel => exact ⟨i + 1, by omega, by go_num, by rw [HTK.out]; exact HN3.out, FN.out⟩
      case measure => simp [intOf]; omega
    · obtain rfl : i = kids.length := by omega
      have htk : kids.take kids.length = kids := List.take_length
      rw [htk] at HO
      have FW := Lib.hid (F0.out.tr HFr.out)
      clear htk hlt HS
      obtain ⟨sa, sc, rfl, hsc⟩ := row_slice HO.out
      by_cases hne : kids = []
      · have h0 : kids.length = 0 := by rw [hne]; rfl
        have HE := Lib.hid hne
        clear hne
        have hp : decide ((0 : Int) < (kids.length : Int)) = false := by rw [decide_eq_false_iff_not]; omega
        go_wp2_with fail
        go_ret
        exact ⟨by rw [HE.out]; simp [showL, bstr], FW.out⟩
      · have h0 : 0 < kids.length := List.length_pos_iff.2 hne
        have HE := Lib.hid hne
        clear hne
        have hJ : Calls Tryz.prog 37 #[.slice sa kids.length sc, .string (bstr [124])] wr fun e w' => e = .returned (.string (bstr (Lib.join (showLs kids) [124]))) ∧ Fr none_ wr w' := join_any _ _ kids [124] wr HO.out hk HSZ.out (by simp)
        have HJ := Lib.hid hJ
        clear hJ
        go_wp2_with fail
        refine HJ.out.mono ?_
        rintro e w2 ⟨rfl, h2⟩
        have K2 := Lib.hid (FW.out.tr h2)
        clear h2 HJ
        have hq : (bstr (Lib.join (showLs kids) [124])).size ≤ 1100000 := by
          have h1 := join_length (showLs kids) [124] (by simp)
          have h2 := showLs_length kids
          have h3 := HSZ.out
          rw [bstr_size]
          omega
        generalize hjn : Lib.join (showLs kids) [124] = jn at *
        have q1 : 1 + (bstr jn).size ≤ 9223372036854775807 := by omega
        have q2 : (ByteArray.mk #[40]).size + (bstr jn).size ≤ 9223372036854775807 := q1
        have q3 : 1 + (bstr jn).size + 1 ≤ 9223372036854775807 := by omega
        have q4 : (ByteArray.mk #[40] ++ bstr jn).size + (ByteArray.mk #[41]).size ≤ 9223372036854775807 := by rw [ByteArray.size_append]; exact q3
        have HJN := Lib.hid hjn
        clear hjn
        go_wp2_with fail
        go_ret
        exact ⟨congrArg (fun x => Ending.returned (.string x)) (((congrArg (· ++ bstr [41]) (bstr_append [40] jn)).trans (bstr_append ([40] ++ jn) [41])).trans (by simp [showL, ← HJN.out, HE.out])), K2.out⟩

theorem builder_move {B b : Nat} {bs : List Value} {w w' : World} (h : Lib.IsBuilder 88 5 B b bs w) (hf : Fr none_ w w') : Lib.IsBuilder 88 5 B b bs w' := by
  have g : ∀ p, Lib.BuilderAt 88 5 B b p bs w → Lib.BuilderAt 88 5 B b p bs w' := by
    rintro p ⟨hB, v, hb, how, hne⟩
    exact ⟨hB, v, hf.at_ hb (fun h => h), ownsRow_same how (fun k hk => hf.block k (how.lt k hk).2 (fun h => h)), hne⟩
  rcases h with h | h
  · exact .inl (g _ h)
  · exact .inr (g _ h)
theorem builder_lt {B b : Nat} {bs : List Value} {w : World} (h : Lib.IsBuilder 88 5 B b bs w) : b < w.heap.size := by
  rcases h with h | h
  · exact h.lt
  · exact h.lt
theorem Fr.below_tr {w w1 w2 : World} {B : Nat} (h : Fr none_ w w1) (hb : w.heap.size ≤ B) (k : Below B w1 w2) : Fr none_ w w2 :=
  ⟨k.os.trans h.os, k.tape.trans h.tape, k.output.trans h.output, Nat.le_trans h.size k.size, fun j hj hn => (k.block j (by omega)).trans (h.block j hj hn)⟩
theorem wrap8 (j : Nat) (h : j < 256) : IntKind.u8.wrap (j : Int) = (j : Int) := by
  have e : IntKind.u8.wrap (j : Int) = (j : Int) % 256 := by first | rfl | (simp [IntKind.wrap, IntKind.bits, IntKind.signed]; done)
  rw [e]; omega
theorem and15 (b : Nat) (h : b < 256) : bits BinOp.and IntKind.i64 (b : Int) 15 = ((b % 16 : Nat) : Int) := by
  have : ∀ b : Fin 256, bits BinOp.and IntKind.i64 (b.val : Int) 15 = ((b.val % 16 : Nat) : Int) := by decide +kernel
  exact this ⟨b, h⟩
theorem write_cells (B b g : Nat) (bs : List Value) (cs : Array Value) (w : World) (h : Lib.IsBuilder 88 5 B b bs w) (hg : w.heap[g]? = some (.cells cs 5 (0, 0))) (hgb : g ≠ b)
    (hn : cs.toList.length = 4) (h1 : ∀ u ∈ cs.toList, u.oneCell' = true) (hlen : bs.length ≤ 100000) (hBw : B ≤ w.heap.size) :
    Calls Tryz.prog 35 #[.pointer (some ⟨b, 0, none⟩), .slice (some ⟨g, 0, none⟩) 4 4] w fun e w' => e = .returned (.tuple #[.int .i64 4, .nilIface]) ∧ Lib.BuilderAt 88 5 B b (.pointer (some ⟨b, 0, none⟩)) (bs ++ cs.toList) w' ∧ Below B w w' :=
  write_any B b g bs cs.toList w h (by simpa using hg) hgb hn h1 hlen hBw
theorem Fr.below_tr' {w w1 w2 : World} {B : Nat} {o : Obj} (h : Fr none_ w w1) (hb : w.heap.size ≤ B) (k : Below B (w1.alloc o).drew w2) : Fr none_ w w2 :=
  Fr.below_tr ((h.alloc o).drew) hb k
theorem size_le_drew (w : World) (o : Obj) (B : Nat) (h : B ≤ w.heap.size) : B ≤ (w.alloc o).drew.heap.size := by
  show B ≤ (w.alloc o).heap.size
  simp; omega
def hexS : ByteArray := ⟨#[48, 49, 50, 51, 52, 53, 54, 55, 56, 57, 97, 98, 99, 100, 101, 102]⟩
theorem hex_at (n : Nat) (h : n < 16) : ∃ hh : n < hexS.size, hexS[n].toNat = (hexB n).toNat := by
  have hh : n < hexS.size := h
  refine ⟨hh, ?_⟩
  have : n = 0 ∨ n = 1 ∨ n = 2 ∨ n = 3 ∨ n = 4 ∨ n = 5 ∨ n = 6 ∨ n = 7 ∨ n = 8 ∨ n = 9 ∨ n = 10 ∨ n = 11 ∨ n = 12 ∨ n = 13 ∨ n = 14 ∨ n = 15 := by omega
  rcases this with h | h | h | h | h | h | h | h | h | h | h | h | h | h | h | h <;> subst h <;> rfl
theorem builder_hex {B b : Nat} {cl : List UInt8} {p q : Nat} {w : World} (hp : p < hexS.size) (hq : q < hexS.size)
    (h : Lib.BuilderAt 88 5 B b (.pointer (some ⟨b, 0, none⟩)) (Lib.byteCells cl ++ [.int .u8 92, .int .u8 120, .int .u8 ((hexS[p]'hp).toNat : Nat), .int .u8 ((hexS[q]'hq).toNat : Nat)]) w) :
    Lib.IsBuilder 88 5 B b (Lib.byteCells (cl ++ [92, 120, hexB p, hexB q])) w := by
  obtain ⟨_, e1⟩ := hex_at p hp
  obtain ⟨_, e2⟩ := hex_at q hq
  rw [e1, e2] at h
  refine .inr ?_
  have e : Lib.byteCells (cl ++ [92, 120, hexB p, hexB q]) = Lib.byteCells cl ++ [.int .u8 92, .int .u8 120, .int .u8 ((hexB p).toNat : Nat), .int .u8 ((hexB q).toNat : Nat)] := by simp [Lib.byteCells]
  rw [e]
  exact h

set_option maxRecDepth 100000 in
set_option maxHeartbeats 4000000 in
theorem show_1 (b0 b1 b2 b3 : Nat) (kids : List Rx) (hk : kids.length ≤ 1000) (hsz : Rx.sizes kids ≤ 1000) (hsub : ∀ r ∈ kids, ShowC r) : ShowC (.mk 1 b0 b1 b2 b3 kids) := by
  intro v w ok hrv
  obtain ⟨a, cap, rfl, hc, hl⟩ := hrv.open_
  obtain ⟨i0, hi, hz0, hz1, hz2⟩ := info_parts str_info
  have F0 := Lib.hid ((Fr.refl none_ w).alloc (.cells #[.int .i64 1, .int .u64 b0, .int .u64 b1, .int .u64 b2, .int .u64 b3, .slice a kids.length cap] 53))
  have NX := Lib.hid (alloc_new w (.cells #[.int .i64 1, .int .u64 b0, .int .u64 b1, .int .u64 b2, .int .u64 b3, .slice a kids.length cap] 53))
  have HL := Lib.hid hl
  have HS := Lib.hid hsub
  have HSZ := Lib.hid hsz
  have h1w : (w.alloc (.cells #[.int .i64 1, .int .u64 b0, .int .u64 b1, .int .u64 b2, .int .u64 b3, .slice a kids.length cap] 53)).heap.size = w.heap.size + 1 := by simp
  clear hrv hl hsub hsz
  go_enter Tryz.func14, Tryz.ntmps14
  go_wp2_with fail
  generalize hw1 : w.alloc (.cells #[.int .i64 1, .int .u64 b0, .int .u64 b1, .int .u64 b2, .int .u64 b3, .slice a kids.length cap] 53) = w1
  rw [hw1] at F0 NX h1w
  clear hw1
  go_loopw [3, 11] (fun x3 x11 wr => ∃ i : Nat, i ≤ kids.length ∧ x11 = .int .i64 i ∧ Aside (wr.ownsRow (w.heap.size + 1) 9 1 x3 i (strsV (kids.take i))) ∧ Aside (Fr none_ w1 wr)) (fun _ x11 _ => kids.length - (intOf x11).toNat)
  case atStart => exact ⟨0, Nat.zero_le _, rfl, World.ownsRow_nil _ _ _ _, Fr.refl _ _⟩
  case round =>
    obtain ⟨i, hi', rfl, how, hfr⟩ := hrel
    have HO := Lib.hid how.out
    have HFr := Lib.hid hfr.out
    have NXr := Lib.hid (HFr.out.at_ NX.out (fun h => h))
    obtain ⟨z0, z1, z2, z3, z4, z5⟩ := six NXr.out
    have hwr := lt_of_block NXr.out
    clear how hfr
    by_cases hlt : i < kids.length
    · have hlt' : (i : Int) < (kids.length : Int) := by omega
      obtain ⟨⟨k', x0, x1, x2, x3, kids'⟩, hki⟩ : ∃ r, kids[i]? = some r := ⟨kids[i]'hlt, List.getElem?_eq_getElem hlt⟩
      have hmv : RxL ok wr a 0 kids := RxL.move (fun k _ hlt => ((F0.out.tr HFr.out).block k hlt (fun h => h))) kids a 0 HL.out
      obtain ⟨ad, a', cap', rfl, hok, c0, c1, c2, c3, c4, c5, hc', hl'⟩ := hmv.elem hki
      have HL' := Lib.hid hl'
      have HKC := Lib.hid (HS.out _ (List.mem_of_getElem? hki))
      have FK := Lib.hid (Fr.alloc (Fr.refl none_ wr) (.cells #[.int .i64 k', .int .u64 x0, .int .u64 x1, .int .u64 x2, .int .u64 x3, .slice a' kids'.length cap'] 53))
      have htake : kids.take (i + 1) = kids.take i ++ [.mk k' x0 x1 x2 x3 kids'] := by rw [List.take_add_one, hki]; rfl
      have HTK := Lib.hid (show strsV (kids.take (i + 1)) = strsV (kids.take i) ++ [.string (bstr (showL (.mk k' x0 x1 x2 x3 kids')))] by rw [htake, strsV_append]; rfl)
      obtain ⟨y0, y1, y2, y3, y4, y5⟩ := six (alloc_new wr (.cells #[.int .i64 k', .int .u64 x0, .int .u64 x1, .int .u64 x2, .int .u64 x3, .slice a' kids'.length cap'] 53))
      clear hki hmv hl' htake
      go_wp2_with fail
      refine (HKC.out _ _ ok (RxV.mk_ hc' (RxL.move (fun k _ hlt => FK.out.block k hlt (fun h => h)) _ _ _ HL'.out))).mono ?_
      rintro e w2 ⟨rfl, h4⟩
      have K4 := Lib.hid (FK.out.tr h4)
      have HO2 := Lib.hid (ownsRow_same HO.out (fun b hb => K4.out.block b (HO.out.lt b hb).2 (fun h => h)))
      have hs2 := K4.out.size
      generalize showL (.mk k' x0 x1 x2 x3 kids') = sh at *
      clear h4 z0 z1 z2 z3 z4 z5 c0 c1 c2 c3 c4 c5 y0 y1 y2 y3 y4 y5
      go_wp2_with (at_builtin; refine wpList_append_lies _ rfl (.tmp 15) (.tmp 18) 44 rfl (w.heap.size + 1) 9 i0 _ 1 16 Tryz.underlying44 hi hz0 hz1 hz2 rfl (by decide) _ i (strsV (kids.take i)) rfl (HO2.out.alloc _) ⟨w2.heap.size, 0, none⟩ 1 1 [.string (bstr sh)] rfl rfl (getElem_block (alloc_new _ _)) ?c1 (by decide) ?c2 ?c3 ?c4 (w2.heap.size + 1) (by simp) ?_)
      case c1 => simp [Value.oneCell']
      case c2 => unfold maxLen; omega
      case c3 => omega
      case c4 => first | omega | (simp; omega)
      intro g3 cap3 w3 hown3 hgrow3 hat3 hlt3
      have FN := Lib.hid (((HFr.out.tr K4.out).alloc (.cells #[.string (bstr sh)] 9)).grown hgrow3 (fun k hk => .inr (by have := (HO2.out.lt k hk).1; omega)))
      have HN3 := Lib.hid hown3
      clear hown3 hgrow3 hat3 hlt3
      go_wp2_with fail
      go_roundw
      case rel => exact ⟨i + 1, by omega, by go_num, by rw [HTK.out]; exact HN3.out, FN.out⟩
      case measure => simp [intOf]; omega
    · obtain rfl : i = kids.length := by omega
      have htk : kids.take kids.length = kids := List.take_length
      rw [htk] at HO
      have FW := Lib.hid (F0.out.tr HFr.out)
      clear htk hlt HS
      clear hi hz0 hz1 hz2
      obtain ⟨wb, hwb⟩ : ∃ x, x = wr := ⟨_, rfl⟩
      subst hwb
      have hall : (wb.alloc (.cells #[.pointer none, .slice none 0 0] 88)).heap[wb.heap.size]? = some (.cells #[.pointer none, .slice none 0 0] 88 (0, 0)) := alloc_new wb _
      have HB0 := Lib.hid (show Lib.IsBuilder 88 5 wb.heap.size wb.heap.size (Lib.byteCells (classS (.mk 1 b0 b1 b2 b3 []) 0)) (wb.alloc (.cells #[.pointer none, .slice none 0 0] 88)) from .inl ⟨Nat.le_refl _, .slice none 0 0, hall, World.ownsRow_nil _ _ _ _, by simp [Value.ownBlock]⟩)
      clear hall
      have FB0 := Lib.hid ((Fr.refl none_ wb).alloc (.cells #[.pointer none, .slice none 0 0] 88))
      go_wp2_with fail
      clear z0 z1 z2 z3 z4 z5
      go_loopw [27] (fun x27 wr => ∃ j : Nat, j ≤ 256 ∧ x27 = .int .i64 j ∧ Aside (Lib.IsBuilder 88 5 wb.heap.size wb.heap.size (Lib.byteCells (classS (.mk 1 b0 b1 b2 b3 []) j)) wr) ∧ Aside (Fr none_ wb wr)) (fun x27 _ => 256 - (intOf x27).toNat)
      case atStart => exact ⟨0, by omega, rfl, HB0.out, FB0.out⟩
      case round =>
        obtain ⟨j, hj, rfl, hb, hfq⟩ := hrel
        have HB := Lib.hid hb.out
        have HFq := Lib.hid hfq.out
        have hwq := HFq.out.size
        obtain ⟨z0, z1, z2, z3, z4, z5⟩ := six (HFq.out.at_ NXr.out (fun h => h))
        clear hb hfq
        by_cases hj2 : j < 256
        · have hj3 : (j : Int) < 256 := by omega
          have hw8 : IntKind.u8.wrap (j : Int) = (j : Int) := wrap8 j hj2
          have HAS := Lib.hid (rhas_any (.mk 1 b0 b1 b2 b3 kids) j _ ok wr (RxV.mk_ hc (RxL.move (fun k _ hlt => ((FW.out.tr HFq.out).block k hlt (fun h => h))) _ _ _ HL.out)) hj2)
          go_wp2_with fail
          refine HAS.out.mono ?_
          rintro e w2 ⟨rfl, h2⟩
          have K2 := Lib.hid (HFq.out.tr h2)
          have HB2 := Lib.hid (builder_move HB.out h2)
          have HB2s := Lib.hid (builder_lt HB2.out)
          clear h2 z0 z1 z2 z3 z4 z5
          cases hh : (Rx.mk 1 b0 b1 b2 b3 kids).has j
          · have HSU := Lib.hid (show classS (.mk 1 b0 b1 b2 b3 []) (j + 1) = classS (.mk 1 b0 b1 b2 b3 []) j by rw [classS_succ, has_kids 1 b0 b1 b2 b3 [] kids j, hh]; simp)
            clear hh
            go_wp2_with fail
            go_roundw
            case rel => exact ⟨j + 1, by omega, by go_num, by rw [HSU.out]; exact HB2.out, K2.out⟩
            case measure => simp [intOf]; omega
          · have HSU := Lib.hid (show classS (.mk 1 b0 b1 b2 b3 []) (j + 1) = classS (.mk 1 b0 b1 b2 b3 []) j ++ [92, 120, hexB (j / 16), hexB (j % 16)] by rw [classS_succ, has_kids 1 b0 b1 b2 b3 [] kids j, hh]; simp)
            clear hh
            have hcl := classS_length (.mk 1 b0 b1 b2 b3 []) j
            generalize classS (.mk 1 b0 b1 b2 b3 []) j = cl at *
            have hA : bits BinOp.and IntKind.i64 (j : Int) 15 = ((j % 16 : Nat) : Int) := and15 j hj2
            obtain ⟨p, hp⟩ : ∃ p : Nat, j / 16 = p := ⟨_, rfl⟩
            obtain ⟨q, hq⟩ : ∃ q : Nat, j % 16 = q := ⟨_, rfl⟩
            rw [hq] at hA
            have hS1 : (j : Int) / 16 = (p : Int) := by omega
            have hS2 : (j : Int) / 2 ^ 4 = (p : Int) := by rw [show (2 : Int) ^ 4 = 16 by decide]; exact hS1
            have hp16 : p < 16 := by omega
            have hq16 : q < 16 := by omega
            have hpi : (p : Int) < 16 := by omega
            have hqi : (q : Int) < 16 := by omega
            rw [hp, hq] at HSU
            clear hp hq
            go_wp2_with fail
            go_region_held3 (fun _ => True) (trivial) (first
              | (go_at_call 35; refine (write_cells wb.heap.size wb.heap.size w2.heap.size (Lib.byteCells cl) _ _ (builder_move HB2.out ((Fr.refl none_ w2).alloc _).drew) (show (World.drew (w2.alloc _)).heap[w2.heap.size]? = _ from alloc_new w2 _) (by have h1 := K2.out.size; have h2 := HB2s.out; omega) rfl (by simp [Value.oneCell']) (by rw [Lib.byteCells_length]; omega) (size_le_drew w2 _ _ (by have := K2.out.size; omega))).mono ?_; rintro e wx ⟨rfl, hb1, hb2⟩; have Gx := (Lib.hid (K2.out.below_tr' (by omega) hb2)); have GB := (Lib.hid hb1); clear hb1 hb2))
            all_goals
              have GC := Lib.hid (builder_hex hp16 hq16 GB.out)
              clear GB HB2 HB HB0
              go_wp2_with fail
              go_roundw
              case rel => exact ⟨j + 1, by omega, by go_num, by rw [HSU.out]; exact GC.out, Gx.out⟩
              case measure => simp [intOf]; omega
        · obtain rfl : j = 256 := by omega
          have hcl := classS_length (.mk 1 b0 b1 b2 b3 []) 256
          have HSH := Lib.hid (show showL (.mk 1 b0 b1 b2 b3 kids) = [91] ++ classS (.mk 1 b0 b1 b2 b3 []) 256 ++ [93] by simp [showL])
          generalize classS (.mk 1 b0 b1 b2 b3 []) 256 = cl at *
          go_wp2_with fail
          refine (Tryz.Builder_String_any wb.heap.size wb.heap.size cl _ HB.out HFq.out.size).mono ?_
          rintro e w2 ⟨rfl, hb2⟩
          have K2 := Lib.hid (FW.out.tr (HFq.out.below_tr (Nat.le_refl _) hb2))
          have hq : (bstr cl).size ≤ 1100000 := by rw [bstr_size]; omega
          have q1 : 1 + (bstr cl).size ≤ 9223372036854775807 := by omega
          have q2 : (ByteArray.mk #[91]).size + (bstr cl).size ≤ 9223372036854775807 := q1
          have q3 : 1 + (bstr cl).size + 1 ≤ 9223372036854775807 := by omega
          have q4 : (ByteArray.mk #[91] ++ bstr cl).size + (ByteArray.mk #[93]).size ≤ 9223372036854775807 := by rw [ByteArray.size_append]; exact q3
          have e : (ByteArray.mk cl.toArray) = bstr cl := rfl
          rw [e]
          clear hb2 HB e
          go_wp2_with fail
          go_ret
          exact ⟨congrArg (fun x => Ending.returned (.string x)) (((congrArg (· ++ bstr [93]) (bstr_append [91] cl)).trans (bstr_append ([91] ++ cl) [93])).trans (by rw [HSH.out])), K2.out⟩

theorem show_all : ∀ (n : Nat) (r : Rx), r.size ≤ n → r.size ≤ 1000 → ShowC r
  | 0, r, h, _ => by have := r.size_pos; omega
  | n + 1, .mk k b0 b1 b2 b3 kids, h, hr => by
    have hsub : ∀ r ∈ kids, ShowC r := fun r hrm => by
      have := Rx.size_kid (k := k) (b0 := b0) (b1 := b1) (b2 := b2) (b3 := b3) hrm
      exact show_all n r (by omega) (by omega)
    have hsz : Rx.sizes kids ≤ 1000 := by simp only [Rx.size] at hr; omega
    have hk : kids.length ≤ 1000 := by have := Rx.length_le kids; omega
    by_cases h0 : k = 0
    · subst h0; exact show_0 b0 b1 b2 b3 kids hk hsz hsub
    by_cases h1 : k = 1
    · subst h1; exact show_1 b0 b1 b2 b3 kids hk hsz hsub
    by_cases h2 : k = 2
    · subst h2; exact show_2 b0 b1 b2 b3 kids hk hsz hsub
    by_cases h3 : k = 3
    · subst h3; exact show_3 b0 b1 b2 b3 kids hk hsz hsub
    by_cases h4 : k = 4
    · subst h4; exact show_4 b0 b1 b2 b3 kids hk hsz hsub
    exact show_other k h0 h1 h2 h3 h4 b0 b1 b2 b3 kids hk hsz hsub
theorem show_any (r : Rx) (v : Value) (ok : Nat → Prop) (w : World) (hr : r.size ≤ 1000) (hv : RxV ok w v r) :
    Calls Tryz.prog 14 #[v] w fun e w' => e = .returned (.string (bstr (showL r))) ∧ Fr none_ w w' := show_all r.size r (Nat.le_refl _) hr v w ok hv
end Go.Proofs.YtnenbihmokolpaaGreatDoor

namespace Go.Proofs.YtnenbihmokolpaaGreatDoor set_option linter.unusedVariables false set_option linter.unusedSimpArgs false
open Go.RowKit

set_option maxRecDepth 100000 in
set_option maxHeartbeats 1000000 in
theorem over_no (a : Option Addr) (len cap : Nat) (zs : List ByteArray) (w : World) (h : StrsAt w a len zs) (hf : Few zs) :
    Calls Tryz.prog 11 #[.slice a len cap] w fun e w' => e = .returned (.bool false) ∧ w = w' := by
  have hl : len ≤ 8 := by have := hf.1; rw [h.len_] at this; exact this
  have H := Lib.hid h
  have HF := Lib.hid hf
  clear h hf
  go_enter Tryz.func11, Tryz.ntmps11
  go_wp2_with fail
  go_loop [3] (fun x3 => ∃ i : Nat, i ≤ len ∧ x3 = .int .i64 i) (fun x3 => len - (intOf x3).toNat)
  case atStart => exact ⟨0, Nat.zero_le _, rfl⟩
  case round =>
    obtain ⟨i, hi, rfl⟩ := hrel
    by_cases hlt : i < len
    · obtain ⟨z, hz⟩ : ∃ z, zs[i]? = some z := ⟨zs[i]'(by rw [H.out.len_]; exact hlt), List.getElem?_eq_getElem _⟩
      obtain ⟨ad, rfl, hc⟩ := H.out.cell i z hz
      have hzs : (z.size : Int) ≤ 40 := by have := HF.out.2 z (List.mem_of_getElem? hz); omega
      have hi8 : (i : Int) ≤ 8 := by omega
      have hil : (i : Int) < (len : Int) := by omega
      clear hz
      go_wp2_with fail
      go_round
      case rel => exact ⟨i + 1, by omega, by go_num⟩
      case measure => simp [intOf]; omega
    · obtain rfl : i = len := by omega
      have hl8 : (i : Int) ≤ 8 := by omega
      go_wp2_with fail
      go_ret
      exact ⟨by simpa using hl8, rfl⟩
set_option maxRecDepth 100000 in
set_option maxHeartbeats 1000000 in
theorem over_yes (a : Option Addr) (len cap : Nat) (zs : List ByteArray) (w : World) (h : StrsAt w a len zs) (hf : ¬ Few zs) :
    Calls Tryz.prog 11 #[.slice a len cap] w fun e w' => e = .returned (.bool true) ∧ w = w' := by
  have hm : len ≤ 9223372036854775807 := by have := h.max; unfold maxLen at this; omega
  have H := Lib.hid h
  have HF := Lib.hid hf
  clear h hf
  go_enter Tryz.func11, Tryz.ntmps11
  go_wp2_with fail
  go_loop [3] (fun x3 => ∃ i : Nat, i ≤ len ∧ i ≤ 9 ∧ x3 = .int .i64 i ∧ Aside (∀ j z, j < i → zs[j]? = some z → z.size ≤ 40)) (fun x3 => len - (intOf x3).toNat)
  case atStart => exact ⟨0, Nat.zero_le _, by omega, rfl, fun j z hj => by omega⟩
  case round =>
    obtain ⟨i, hi, hi9, rfl, hall⟩ := hrel
    have HALL := Lib.hid hall.out
    clear hall
    by_cases hlt : i < len ∧ i ≤ 8
    · obtain ⟨hlt, hi8⟩ := hlt
      obtain ⟨z, hz⟩ : ∃ z, zs[i]? = some z := ⟨zs[i]'(by rw [H.out.len_]; exact hlt), List.getElem?_eq_getElem _⟩
      obtain ⟨ad, rfl, hc⟩ := H.out.cell i z hz
      have hzm : z.size ≤ 9223372036854775807 := by have := H.out.size z (List.mem_of_getElem? hz); unfold maxLen at this; omega
      have hi8' : (i : Int) ≤ 8 := by omega
      have hil : (i : Int) < (len : Int) := by omega
      have HZ := Lib.hid hz
      clear hz
      by_cases hzs : z.size ≤ 40
      · have hzs' : (z.size : Int) ≤ 40 := by omega
        go_wp2_with fail
        go_round
        case rel => exact ⟨i + 1, by omega, by omega, by go_num, fun j y hj hy => by
          rcases Nat.lt_or_ge j i with h | h
          · exact HALL.out j y h hy
          · obtain rfl : j = i := by omega
            have := HZ.out
            rw [this] at hy
            cases hy
            exact hzs⟩
        case measure => simp [intOf]; omega
      · have hzs' : (40 : Int) < (z.size : Int) := by omega
        go_wp2_with fail
        go_ret
        exact ⟨rfl, rfl⟩
    · by_cases h8 : 8 < len
      · have h8' : (8 : Int) < (len : Int) := by omega
        have hi8 : (8 : Int) < (i : Int) := by omega
        by_cases hil : i < len
        · have hil' : (i : Int) < (len : Int) := by omega
          clear hlt
          go_wp2_with fail
          go_ret
          exact ⟨by simp [h8'], rfl⟩
        · have hil' : (len : Int) ≤ (i : Int) := by omega
          clear hlt
          go_wp2_with fail
          go_ret
          exact ⟨by simp [h8'], rfl⟩
      · exfalso
        obtain rfl : i = len := by omega
        refine HF.out ⟨by rw [H.out.len_]; omega, fun z hz => ?_⟩
        obtain ⟨j, hj⟩ := List.mem_iff_getElem?.1 hz
        exact HALL.out j z (by have := (List.getElem?_eq_some_iff.1 hj).1; rw [H.out.len_] at this; exact this) hj
end Go.Proofs.YtnenbihmokolpaaGreatDoor
