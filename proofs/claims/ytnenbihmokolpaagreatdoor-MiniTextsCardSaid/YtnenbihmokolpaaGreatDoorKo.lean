/-
  dfa.Build: a machine that is made.
-/
import Derived.Test.YtnenbihmokolpaaGreatDoorKn
import Derived.Test.YtnenbihmokolpaaGreatDoorKr
namespace Go.Proofs.YtnenbihmokolpaaGreatDoor set_option linter.unusedVariables false set_option linter.unusedSimpArgs false
open Go.RowKit
open Go.Maps

theorem cls_one (C : List Value) (hC : ∀ v ∈ C, v.oneCell' = true) (nv tv : Value) (h1 : nv.oneCell' = true) (h2 : tv.oneCell' = true) : (C ++ [nv, tv]).toArray.all (·.oneCell') = true := all_oneCell_toArray (fun v hv => by
  simp only [List.mem_append, List.mem_cons, List.not_mem_nil, or_false] at hv
  rcases hv with hv | rfl | rfl
  · exact hC v hv
  · exact h1
  · exact h2)
theorem range_pre {w : World} {b o : Nat} {C D : List Value} (h : w.rangeAt b o (C ++ D)) : w.rangeAt b o C := fun j v hv => h j v (by rw [List.getElem?_append_left (List.getElem?_eq_some_iff.1 hv).1]; exact hv)
theorem fold_class (C : List Value) (h : C.length = 256) : List.foldl (fun (cs : Array Value) (x : Value × Nat) => cs.setIfInBounds x.snd x.fst) Tryz.zeroCells26 C.zipIdx = (C ++ [Value.slice none 0 0, Value.slice none 0 0]).toArray := by
  have hz : (dfaC (ints (List.replicate 256 0)) (.slice none 0 0) (.slice none 0 0)).length = 258 := dfaC_length _ _ _ (by rw [ints_length]; exact List.length_replicate)
  have hl : (intsV (ints (List.replicate 256 0))).length = 256 := by rw [intsV_length, ints_length]; exact List.length_replicate
  have hf := fill_head C 0 [] (dfaC (ints (List.replicate 256 0)) (.slice none 0 0) (.slice none 0 0)) rfl (by omega)
  have hd : (dfaC (ints (List.replicate 256 0)) (.slice none 0 0) (.slice none 0 0)).drop C.length = [.slice none 0 0, .slice none 0 0] := by
    rw [dfaC, h]; exact List.drop_left' hl
  rw [hd] at hf
  rw [zeroD_list]
  simp only [Nat.zero_add, List.nil_append] at hf
  exact hf
theorem alloc3 (w : World) (a b c : Obj) : Fr none_ w (((w.alloc a).alloc b).alloc c) ∧ (((w.alloc a).alloc b).alloc c).heap[w.heap.size]? = some a ∧ (((w.alloc a).alloc b).alloc c).heap[w.heap.size + 1]? = some b ∧ (((w.alloc a).alloc b).alloc c).heap[w.heap.size + 1 + 1]? = some c := by
  refine ⟨((((Fr.refl none_ w).alloc a).alloc b).alloc c), ?_, ?_, ?_⟩
  · exact (((Fr.refl none_ (w.alloc a)).alloc b).alloc c).at_ (alloc_new w a) (fun h => h)
  · have h := alloc_new (w.alloc a) b
    rw [show (w.alloc a).heap.size = w.heap.size + 1 by simp] at h
    exact ((Fr.refl none_ ((w.alloc a).alloc b)).alloc c).at_ h (fun h => h)
  · have h := alloc_new ((w.alloc a).alloc b) c
    rw [show ((w.alloc a).alloc b).heap.size = w.heap.size + 1 + 1 by simp] at h
    exact h
theorem arrV_mem (cls : List Nat) : ∀ v ∈ arrV cls, v.oneCell' = true := fun v hv => by
  simp only [arrV, intsV, List.mem_map] at hv
  obtain ⟨n, _, rfl⟩ := hv
  rfl

/-- What Build of an automaton answers. -/
def BuiltD (e : Ending) (w' : World) : Option Dfa → Prop
  | some D => ∃ v, e = .returned (.tuple #[v, .int .i64 0]) ∧ DfaIn w' v D
  | none => e = .returned (.tuple #[.agg Tryz.zeroCells26, .int .i64 4])

set_option maxRecDepth 100000 in
set_option maxHeartbeats 4000000 in
theorem dbuild_some (rs : List Rx) (a : Option Addr) (cap : Nat) (w : World) (ok : Nat → Prop) (hc : rs.length ≤ cap) (hl : RxL ok w a 0 rs) (h1 : rs.length ≤ 60) (h2 : Rx.sizes rs ≤ 3000) (hp : PowOk w) :
    Calls Tryz.prog 29 #[.slice a rs.length cap] w fun e w' => BuiltD e w' (dfaM rs) ∧ Fr none_ w w' := by
  have HL := Lib.hid hl
  have HP := Lib.hid hp
  have hfit := fit_build rs h2
  have HFIT := Lib.hid hfit
  have hst : (buildM rs 0 [] []).2.length ≤ 1000 := by have := (buildM_facts rs 0 [] []).2.1; simp at this; omega
  have HST := Lib.hid hst
  obtain ⟨G, hG⟩ : ∃ G, (buildM rs 0 [] []).1 = G := ⟨_, rfl⟩
  obtain ⟨st, hs⟩ : ∃ s, (buildM rs 0 [] []).2 = s := ⟨_, rfl⟩
  have HD := Lib.hid (show dfaM rs = dfaOf G (classesM rs) (closedM G (ints st)) by rw [dfaM, hG, hs])
  rw [hG] at HFIT
  rw [hs] at HST
  clear hl hp hfit hst
  go_enter Tryz.func29, Tryz.ntmps29
  go_wp2_with fail
  have F0 := Lib.hid ((Fr.refl none_ w).alloc (.cells Tryz.zeroCells26 26))
  have B0 := Lib.hid (alloc_new w (.cells Tryz.zeroCells26 26))
  refine (build_val rs a rs.length cap _ ok rfl (RxL.move (fun i _ hlt => F0.out.block i hlt (fun h => h)) _ _ _ HL.out) h1 h2).mono ?_
  rintro e w1 ⟨dm, rfl, hm1, F1⟩
  rw [hG, hs] at hm1
  have M1 := Lib.hid hm1
  have R1 := Lib.hid (F1.at_ B0.out (fun h => h))
  have G1 := Lib.hid (F0.out.tr F1)
  have hw1 : w.heap.size < w1.heap.size := lt_of_block R1.out
  clear hm1 F1 F0 B0 hG hs
  have hmm := @run_makeMap Tryz.prog
  go_wp2_with fail
  have E2 := Lib.hid (show Fr none_ w1 ((w1.alloc (.map #[] 0)).alloc (.cells #[.pointer (some ⟨dm, 0, none⟩), .map (some w1.heap.size), .slice none 0 0] 128)) from ((Fr.refl none_ w1).alloc _).alloc _)
  have hbl := alloc_new (w1.alloc (.map #[] 0)) (.cells #[.pointer (some ⟨dm, 0, none⟩), .map (some w1.heap.size), .slice none 0 0] 128)
  rw [show (w1.alloc (.map #[] 0)).heap.size = w1.heap.size + 1 by simp] at hbl
  have hmp := World.ownsMap.alloc (World.ownsMap_made w1 Tryz.prog 9 (plainElem (H := Unit) Tryz.prog 3)) (.cells #[.pointer (some ⟨dm, 0, none⟩), .map (some w1.heap.size), .slice none 0 0] 128)
  have HBl := Lib.hid (show BldD ((w1.alloc (.map #[] 0)).alloc (.cells #[.pointer (some ⟨dm, 0, none⟩), .map (some w1.heap.size), .slice none 0 0] 128)) w1.heap.size (w1.heap.size + 1) dm w1.heap.size (.slice none 0 0) [] (.map []) [] from
    ⟨hbl, hmp, MapIs.nil _ _, World.ownsRow_nil _ _ _ _, fun i A h => by simp at h, by omega, Nat.le_refl _⟩)
  have RL2 := Lib.hid (RxL.move (fun i _ hlt => (((Fr.refl none_ w).alloc (.cells Tryz.zeroCells26 26)).block i hlt (fun h => h))) _ _ _ HL.out)
  clear hbl hmp RL2
  have hcl := normal_classes rs
  refine (classes_any rs a cap ok _ hc (RxL.move (fun i _ hlt => (G1.out.tr E2.out).block i hlt (fun h => h)) _ _ _ HL.out) (by omega)).mono ?_
  rintro e w3 ⟨rfl, F3⟩
  have E3 := Lib.hid (E2.out.tr F3)
  have Bl3 := Lib.hid (HBl.out.move F3)
  clear F3 HBl
  obtain ⟨cls, hcd⟩ : ∃ c, classesM rs = c := ⟨_, rfl⟩
  have HCD := Lib.hid hcd
  have HAL := Lib.hid (show Alike (buildM rs 0 [] []).1 cls by rw [← hcd]; exact build_alike rs)
  rw [hcd] at hcl HD ⊢
  have HCL := Lib.hid hcl
  have hz := arrV_len hcl
  have hone := cls_one (arrV cls) (arrV_mem cls) (.slice none 0 0) (.slice none 0 0) rfl rfl
  have hb1 := fold_class (arrV cls) hz
  have hz2 : (arrV cls ++ [Value.slice none 0 0, Value.slice none 0 0]).toArray.size = 258 := by simp [hz]
  obtain ⟨C, hC⟩ : ∃ C, arrV cls = C := ⟨_, rfl⟩
  have HC := Lib.hid hC
  rw [hC] at hz hone hb1 hz2 ⊢
  clear hcd hcl hC
  go_wp2_with (first
    | (refine wpList_store_row rfl 26 _ _ rfl w3.heap.size 26 Tryz.zeroCells26 (C ++ [Value.slice none 0 0, Value.slice none 0 0]).toArray rfl rfl (alloc_new w3 _) (by rw [hz2]; exact dfa_info) (by rw [hz2]; exact zeroD_size) hone ?_)
    | (refine wpList_load_mid rfl 22 _ rfl w3.heap.size 0 rfl C _ (range_pre (range_of (setRow_heap _ _ _ _ _ _ (alloc_new w3 _)))) Tryz.underlying22 rfl (by rw [hz]; exact arr_info) ?_))
  have FX := Lib.hid (show Fr none_ w3 ((w3.alloc (.cells Tryz.zeroCells26 26)).setRow w3.heap.size (C ++ [Value.slice none 0 0, Value.slice none 0 0]).toArray) from Fr.setRow ((Fr.refl none_ w3).alloc _) (.inr (Nat.le_refl _)) _)
  have CX := Lib.hid (show ((w3.alloc (.cells Tryz.zeroCells26 26)).setRow w3.heap.size (C ++ [Value.slice none 0 0, Value.slice none 0 0]).toArray).heap[w3.heap.size]? = some (.cells (C ++ [Value.slice none 0 0, Value.slice none 0 0]).toArray 26 (0, 0)) from setRow_heap _ _ _ _ _ _ (alloc_new w3 _))
  have hfi := firsts_any cls ((w3.alloc (.cells Tryz.zeroCells26 26)).setRow w3.heap.size (C ++ [Value.slice none 0 0, Value.slice none 0 0]).toArray) HCL.out.1
  rw [show intsV (ints cls) = C from HC.out] at hfi
  refine hfi.mono ?_
  clear hfi
  rintro e w4 ⟨bv, rfl, hbv, F4⟩
  have FXX := Lib.hid (FX.out.tr F4)
  have E4 := Lib.hid (E3.out.tr FXX.out)
  have C4 := Lib.hid (F4.at_ CX.out (fun h => h))
  have Bl4 := Lib.hid (Bl3.out.move FXX.out)
  have BV := Lib.hid hbv
  have hw3 : w1.heap.size ≤ w3.heap.size := E3.out.size
  have R4 := Lib.hid (E4.out.at_ R1.out (fun h => h))
  have M4 := Lib.hid (M1.out.move E4.out)
  have G4 := Lib.hid (G1.out.tr E4.out)
  have HP4 := Lib.hid (HP.out.move G4.out)
  clear F4 hbv FX CX FXX Bl3 E2 E3 hone hb1 HL
  go_wp2_with fail
  refine (begin_val dm w4 G st M4.out HFIT.out HST.out).mono ?_
  rintro e w5 ⟨v5, rfl, hv5, F5⟩
  have V5 := Lib.hid hv5
  have E5 := Lib.hid (E4.out.tr F5)
  have C5 := Lib.hid (F5.at_ C4.out (fun h => h))
  have Bl5 := Lib.hid (Bl4.out.move F5)
  have R5 := Lib.hid (F5.at_ R4.out (fun h => h))
  have M5 := Lib.hid (M4.out.move F5)
  have G5 := Lib.hid (G4.out.tr F5)
  have HP5 := Lib.hid (HP4.out.move F5)
  have BV5 := Lib.hid (show BytesAt w5 bv (firstsM cls 256) from BV.out.elim fun b h1 => ⟨b, row_keep h1 F5 (fun _ _ h => h)⟩)
  have hBL := BV.out
  clear F5 hv5
  obtain ⟨B, hB⟩ : ∃ B, closedM G (ints st) = B := ⟨_, rfl⟩
  rw [hB] at V5 HD
  have hBn : ∀ n ∈ B, n ≤ 100000 := by
    intro n hn
    rw [← hB] at hn
    have := HFIT.out.len
    simp only [closedM, List.mem_filter, List.mem_range] at hn
    omega
  have hBl : B.length ≤ 100000 := by rw [← hB]; have := closedM_length G (ints st); have := HFIT.out.len; omega
  have HB := Lib.hid hB
  clear hB hBL
  go_wp2_with fail
  by_cases hBe : B = []
  · have V5' := V5.out
    rw [hBe] at V5'
    refine (number_none (w1.heap.size + 1) v5 w5 V5').mono ?_
    rintro e w6 ⟨rfl, rfl⟩
    have hb1 := fold_class C hz
    clear V5'
    have hone := cls_one C (by rw [← HC.out]; exact arrV_mem cls) (Value.slice (some ⟨w5.heap.size + 1, 0, none⟩) 1 1) (Value.slice (some ⟨w5.heap.size + 1 + 1, 0, none⟩) 1 1) rfl rfl
    have hz3 : (C ++ [(Value.slice (some ⟨w5.heap.size + 1, 0, none⟩) 1 1), (Value.slice (some ⟨w5.heap.size + 1 + 1, 0, none⟩) 1 1)]).toArray.size = 258 := by simp [hz]
    have hz4 : (C ++ [(Value.slice (some ⟨w5.heap.size + 1, 0, none⟩) 1 1), (Value.slice (some ⟨w5.heap.size + 1 + 1, 0, none⟩) 1 1)]).length = 258 := by simp [hz]
    have A6 := Lib.hid (alloc3 w5 (.cells #[.int .i64 (-1)] 3) (.cells #[.slice (some ⟨w5.heap.size, 0, none⟩) 1 1] 100) (.cells #[.int .u64 0] 28))
    have R6 := Lib.hid (A6.out.1.at_ R5.out (fun h => h))
    have hw5 := Lib.hid (lt_of_block R5.out)
    go_wp2_with (first
      | (refine wpList_load_mid rfl 22 _ rfl w3.heap.size 0 rfl C _ (range_pre (range_of C5.out)) Tryz.underlying22 rfl (by rw [hz]; exact arr_info) ?_)
      | (refine wpList_store_row rfl 26 _ _ rfl w.heap.size 26 Tryz.zeroCells26 (C ++ [(Value.slice (some ⟨w5.heap.size + 1, 0, none⟩) 1 1), (Value.slice (some ⟨w5.heap.size + 1 + 1, 0, none⟩) 1 1)]).toArray rfl rfl R6.out (by rw [hz3]; exact dfa_info) (by rw [hz3]; exact zeroD_size) hone ?_))
    refine bodyPost_ret (results_dfa rfl rfl (setRow_heap _ _ _ _ _ _ R6.out) hz4) rfl ?_
    have hD : dfaM rs = some ⟨ints cls, [[-1]], [0]⟩ := by rw [HD.out, dfaOf, if_pos hBe]
    rw [hD]
    refine ⟨⟨_, rfl, ?_⟩, Fr.setRow (G5.out.tr A6.out.1) (.inr (Nat.le_refl _)) _⟩
    have o1 : ∀ k, w5.heap.size ≤ k → ((((w5.alloc (.cells #[.int .i64 (-1)] 3)).alloc (.cells #[.slice (some ⟨w5.heap.size, 0, none⟩) 1 1] 100)).alloc (.cells #[.int .u64 0] 28)).setRow w.heap.size (C ++ [(Value.slice (some ⟨w5.heap.size + 1, 0, none⟩) 1 1), (Value.slice (some ⟨w5.heap.size + 1 + 1, 0, none⟩) 1 1)]).toArray).heap[k]? = (((w5.alloc (.cells #[.int .i64 (-1)] 3)).alloc (.cells #[.slice (some ⟨w5.heap.size, 0, none⟩) 1 1] 100)).alloc (.cells #[.int .u64 0] 28)).heap[k]? := fun k hk => setRow_other _ _ _ _ (by have := hw5.out; omega)
    have hsm : ([[-1]] : List (List Int)).length ≤ 9223372036854775807 ∧ ∀ r ∈ ([[-1]] : List (List Int)), r.length ≤ 9223372036854775807 := by
      refine ⟨by decide, fun r hr => ?_⟩
      have : r = [-1] := by simpa using hr
      subst this
      decide
    have q0 := (o1 _ (Nat.le_refl _)).trans A6.out.2.1
    have q1 := (o1 _ (by omega)).trans A6.out.2.2.1
    have q2 := (o1 _ (by omega)).trans A6.out.2.2.2
    refine ⟨⟨(Value.slice (some ⟨w5.heap.size + 1, 0, none⟩) 1 1), (Value.slice (some ⟨w5.heap.size + 1 + 1, 0, none⟩) 1 1), by rw [dfaC]; show _ = Value.agg (arrV cls ++ _).toArray; rw [HC.out], ⟨_, _, rfl, fun j r hj => ?_⟩, ⟨_, _, rfl, fun j z hj => ?_⟩⟩, by rw [ints_length]; exact HCL.out.1, hsm⟩
    · cases j with
      | succ j => simp at hj
      | zero =>
        have : r = [-1] := by simpa using hj.symm
        subst this
        refine ⟨_, _, rfl, cell_of_block q1 rfl, ⟨_, _, rfl, fun j z hj => ?_⟩⟩
        cases j with
        | succ j => simp at hj
        | zero =>
          have : z = -1 := by simpa using hj.symm
          subst this
          exact ⟨_, rfl, cell_of_block q0 rfl⟩
    · cases j with
      | succ j => simp at hj
      | zero =>
        have : z = 0 := by simpa using hj.symm
        subst this
        exact ⟨_, rfl, cell_of_block q2 rfl⟩
  · have hs0 : setNo [] B = ([B], 0) := by simp [setNo, hBe, keyM]
    refine (number_some w1.heap.size (w1.heap.size + 1) dm w1.heap.size (.slice none 0 0) [] (.map []) [] B v5 w5 Bl5.out V5.out HP5.out hBe hBn hBl (Nat.zero_le _) E5.out.size).mono ?_
    rintro e w6 ⟨rfl, sv0, vs0, D0, hb6, F6, _, _⟩
    rw [hs0] at hb6 ⊢
    have C6 := Lib.hid (Bl5.out.at_over F6 C5.out (by decide) (by decide))
    have Fr6 := Lib.hid (Bl5.out.fresh E5.out (Nat.le_refl _) F6)
    have O6 := Lib.hid (show OutD w1 w6 w1.heap.size (w1.heap.size + 1) dm w1.heap.size w3.heap.size C bv (firstsM cls 256) sv0 vs0 D0 (.slice none 0 0) [] (.slice none 0 0) [B] [] [] from
      ⟨hb6, C6.out, ⟨World.ownsRow_nil _ _ _ _, fun i r h => by simp at h⟩, fun k hk => by simp [Value.ownBlock] at hk, World.ownsRow_nil _ _ _ _,
       BV5.out.elim fun b h1 => ⟨b, Bl5.out.row_over F6 h1 (by decide) (by decide)⟩, Fr6.out, rfl, hw3⟩)
    clear hb6 F6 hs0 C6 Fr6
    have hbl : (firstsM cls 256).length ≤ 256 := by have := firsts_le cls 256; omega
    have hbb : ∀ b ∈ firstsM cls 256, b < 256 := fun b hb => firsts_lt cls 256 b hb
    obtain ⟨bytes, hbytes⟩ : ∃ l, firstsM cls 256 = l := ⟨_, rfl⟩
    rw [hbytes] at O6 hbl hbb
    have HBY := Lib.hid hbytes
    have HBB := Lib.hid hbb
    have HBE := Lib.hid hBe
    have hD : dfaM rs = (endD G bytes B 2002 0).map fun n => ⟨ints cls, (roundD G bytes B n).next, (roundD G bytes B n).tags⟩ := by
      rw [HD.out, dfaOf, if_neg hBe, hbytes]
    obtain ⟨Ed, hEd⟩ : ∃ e, endD G bytes B 2002 0 = e := ⟨_, rfl⟩
    rw [hEd] at hD
    have HDD := Lib.hid hD
    have HEd := Lib.hid hEd
    clear hEd
    obtain ⟨K, hK⟩ : ∃ K, bytes.length = K := ⟨_, rfl⟩
    have HK := Lib.hid hK
    rw [hK] at hbl
    obtain ⟨ba, bcap, hbv, _⟩ := O6.out.byt.elim fun b h1 => ownsRow_slice h1
    rw [hK] at hbv
    subst hbv
    have HBL := Lib.hid hBl
    clear hbytes hbb hD hK hBn hBl
    go_wp2_with fail
    go_loopw [9] (fun x9 wr => ∃ n : Nat, n ≤ 2001 ∧ x9 = .int .i64 n ∧ Aside (Rounds G bytes n (roundD G bytes B n)) ∧ Aside (Ed = endD G bytes B (2002 - n) n) ∧ Aside (∃ sv vs D nv vals tv, OutD w1 wr w1.heap.size (w1.heap.size + 1) dm w1.heap.size w3.heap.size C (.slice ba K bcap) bytes sv vs D nv vals tv (roundD G bytes B n).sets (roundD G bytes B n).next (roundD G bytes B n).tags)) (fun x9 _ => 2002 - (intOf x9).toNat)
    case atStart => exact ⟨0, Nat.zero_le _, rfl, rounds_zero G bytes B HBE.out, HEd.out.symm, _, _, _, _, _, _, O6.out⟩
    case round =>
      obtain ⟨n, hn, rfl, hrd, hend, hout⟩ := hrel
      obtain ⟨sv, vs, D, nv, vals, tv, ho⟩ := hout.out
      have HO := Lib.hid ho
      have HRD := Lib.hid hrd.out
      have HEN := Lib.hid hend.out
      clear hrd hend hout ho O6 BV Bl5 C5 E5 V5 R5 M5 G5 HP5 C4 Bl4 E4
      obtain ⟨x, hx⟩ : ∃ x, roundD G bytes B n = x := ⟨_, rfl⟩
      rw [hx] at HO HRD
      have HX := Lib.hid hx
      obtain ⟨L, hL⟩ : ∃ L, x.sets.length = L := ⟨_, rfl⟩
      have HLx := Lib.hid hL
      have hlen : (roundD G bytes B n).sets.length = L := by rw [hx, hL]
      have HLEN := Lib.hid hlen
      have hle : n ≤ L := by rw [← hL]; exact HRD.out.le
      have hf0 : (2002 - n) = (2001 - n) + 1 := by omega
      have hE := HEN.out
      rw [hf0] at hE
      rw [endD_succ, hlen] at hE
      have HE2 := Lib.hid hE
      have hbl := HO.out.bld.blk
      obtain ⟨sa, scap, hsv, hsc⟩ := ownsRow_slice HO.out.bld.row
      rw [hL] at hsv
      subst hsv
      have d2 : wr.cell? ⟨w1.heap.size + 1, 2, none⟩ = some (.slice sa L scap) := cell_of_block hbl rfl
      clear hx hL hlen hE hf0 HEN hbl
      by_cases hlt : n < L
      case neg =>
        obtain rfl : n = L := by omega
        have hE := HE2.out
        rw [if_neg hlt] at hE
        have HE3 := Lib.hid hE
        clear hE hlt
        have hb := HO.out.blk
        have hr := HO.out.fr.at_ R1.out (fun h => h)
        have hone := cls_one C (by rw [← HC.out]; exact arrV_mem cls) nv tv HO.out.ones.1 HO.out.ones.2
        have hz3 : (C ++ [nv, tv]).toArray.size = 258 := by simp [hz]
        have hz4 : (C ++ [nv, tv]).length = 258 := by simp [hz]
        go_wp2_with (first
          | (refine wpList_load_row rfl 26 _ rfl w3.heap.size 26 (C ++ [nv, tv]) _ rfl hb Tryz.underlying26 rfl (by rw [hz4]; exact dfa_info) ?_)
          | (refine wpList_store_row rfl 26 _ _ rfl w.heap.size 26 Tryz.zeroCells26 (C ++ [nv, tv]).toArray rfl rfl hr (by rw [hz3]; exact dfa_info) (by rw [hz3]; exact zeroD_size) hone ?_))
        refine bodyPost_ret (results_dfa rfl rfl (setRow_heap _ _ _ _ _ _ hr) hz4) rfl ?_
        have hD : dfaM rs = some ⟨ints cls, x.next, x.tags⟩ := by rw [HDD.out, HE3.out, ← HX.out]; rfl
        rw [hD]
        refine ⟨⟨_, rfl, ?_⟩, Fr.setRow (G1.out.tr HO.out.fr) (.inr (Nat.le_refl _)) _⟩
        have hdn := HO.out.done hr (Fr.setRow (S := fun k => k = w.heap.size) (Fr.refl _ wr) (.inl rfl) (C ++ [nv, tv]).toArray)
        refine ⟨⟨nv, tv, by rw [dfaC]; show _ = Value.agg (arrV cls ++ _).toArray; rw [HC.out], hdn.1, hdn.2⟩, by rw [ints_length]; exact HCL.out.1, ?_, ?_⟩
        · show x.next.length ≤ _
          rw [HRD.out.hn]; omega
        · intro r hr2
          obtain ⟨i, hi, rfl⟩ := List.getElem_of_mem hr2
          have h1 := HRD.out.row i (by rw [← HRD.out.hn]; exact hi)
          have h2 : x.next.getD i [] = x.next[i] := by simp [List.getD, List.getElem?_eq_getElem hi]
          rw [h2, HK.out] at h1
          show x.next[i].length ≤ _
          omega
      case pos =>
        have hlt' : (n : Int) < (L : Int) := by omega
        by_cases hmany : 2000 < L
        case pos =>
          have hmany' : (2000 : Int) < (L : Int) := by omega
          have hE := HE2.out
          rw [if_pos hlt, if_pos hmany] at hE
          have HE3 := Lib.hid hE
          clear hE hlt hmany
          have hr := HO.out.fr.at_ R1.out (fun h => h)
          go_wp2_with (refine wpList_store_row rfl 26 _ _ rfl w.heap.size 26 Tryz.zeroCells26 Tryz.zeroCells26 rfl rfl hr (by rw [zeroD_size]; exact dfa_info) rfl zeroD_one ?_)
          have B2 := setRow_heap wr w.heap.size Tryz.zeroCells26 Tryz.zeroCells26 26 (0, 0) hr
          have B3 := B2
          rw [zeroD_list] at B3
          have hz4 : (dfaC (ints (List.replicate 256 0)) (.slice none 0 0) (.slice none 0 0)).length = 258 := dfaC_length _ _ _ (by rw [ints_length]; exact List.length_replicate)
          refine bodyPost_ret (results_dfa rfl rfl B3 hz4) rfl ?_
          have hD : dfaM rs = none := by rw [HDD.out, HE3.out]; rfl
          rw [hD]
          exact ⟨by rw [zeroD_list]; rfl, Fr.setRow (G1.out.tr HO.out.fr) (.inr (Nat.le_refl _)) _⟩
        case neg =>
          have hmany' : (L : Int) ≤ 2000 := by omega
          have hE := HE2.out
          rw [if_pos hlt, if_neg hmany] at hE
          have HE3 := Lib.hid hE
          obtain ⟨A, hA⟩ : ∃ A, x.sets.getD n [] = A := ⟨_, rfl⟩
          have HA := Lib.hid hA
          have hn0 : (0 : Int) ≤ (n : Int) := by omega
          have HAL2 := Lib.hid (show A.length ≤ 1000000 by
            have h1 := round_each (P := fun x => x.length ≤ 100000) (G := G) (bytes := bytes) (B := B) (fun C b => by have := stepM_len G C b; have := HFIT.out.len; omega) HBL.out n A (by
              rw [HX.out, ← hA]
              have : n < x.sets.length := by rw [HLx.out]; exact hlt
              simp [List.getD, List.getElem?_eq_getElem this])
            omega)
          have hLn : L ≤ 2000 := by omega
          have hKs : K ≤ 256 := hbl
          obtain ⟨wb, hwb⟩ : ∃ y, y = wr := ⟨_, rfl⟩
          subst hwb
          clear hE hA hlt hmany
          go_wp2_with fail
          clear d2
          go_loopw [10, 61] (fun x10 x61 wr => ∃ i : Nat, i ≤ K ∧ x61 = .int .i64 i ∧ Aside (RowD wb wr w1.heap.size (w1.heap.size + 1) dm w1.heap.size (.slice sa L scap) (rowM G A bytes x.sets i).1 x10 (rowM G A bytes x.sets i).2)) (fun _ x61 _ => K - (intOf x61).toNat)
          case atStart => exact ⟨0, Nat.zero_le _, rfl, RowD.start HO.out.bld⟩
          case round =>
            obtain ⟨i, hi', rfl, hrow⟩ := hrel
            obtain ⟨⟨sv', vs', D', hb', ho', ha'⟩, hr', hf'⟩ := hrow.out
            have HB' := Lib.hid hb'
            have HOw := Lib.hid ho'
            have HAp := Lib.hid ha'
            have HR' := Lib.hid hr'
            have HF' := Lib.hid hf'
            have hBl := hb'.blk
            clear hrow hb' ho' ha' hr' hf'
            obtain ⟨m, hm⟩ := (row_len G A bytes x.sets i).1
            have hrl := (row_len G A bytes x.sets i).2
            have hsl := row_le G A bytes x.sets i
            have HRS := Lib.hid (row_succ G A bytes x.sets i)
            obtain ⟨y, hy⟩ : ∃ y, rowM G A bytes x.sets i = y := ⟨_, rfl⟩
            rw [hy] at HB' HR' HRS hm hrl hsl
            have HY := Lib.hid hy
            have HM := Lib.hid hm
            rw [HLx.out] at hsl
            obtain ⟨N, hN⟩ : ∃ N, y.1.length = N := ⟨_, rfl⟩
            have HN := Lib.hid hN
            have hNL : L ≤ N := by rw [← hN, hm, List.length_append, HLx.out]; omega
            have hNs : N ≤ 2256 := by omega
            obtain ⟨sa2, scap2, hsv2, hsc2⟩ := ownsRow_slice HB'.out.row
            rw [hN] at hsv2
            subst hsv2
            obtain ⟨xa, xcap, hxv, hxc⟩ := ownsRow_slice HR'.out
            rw [hrl] at hxv
            subst hxv
            clear hy hm hN hsl
            by_cases hlt2 : i < K
            case neg =>
              obtain rfl : i = K := by omega
              have hO2 := HO.out.over HF'.out HB'.out HOw.out
              obtain ⟨na, ncap, hnv, hncp⟩ := ownsRow_slice hO2.nxt.row
              obtain ⟨ta, tcap, htv, htcp⟩ := ownsRow_slice hO2.tgs
              rw [HRD.out.hn] at hnv
              rw [HRD.out.ht] at htv
              subst hnv
              subst htv
              have HO2 := Lib.hid hO2
              have e256 : wr.cell? ⟨w3.heap.size, 256, none⟩ = some (.slice na n ncap) := cell_of_block hO2.blk (at_256 C hz _ _)
              obtain ⟨i0, hi, hz0, hz1, hz2⟩ := info_parts row_info
              have HNR := Lib.hid (show wr.ownsRow w1.heap.size 100 1 (.slice na n ncap) n vals by have h1 := hO2.nxt.row; rw [HRD.out.hn] at h1; exact h1)
              have HCB := Lib.hid (show ∀ (wn : World), (wr.alloc (.cells #[.slice xa i xcap] 100)).grownBy wn (Value.slice na n ncap).ownBlock → wn.heap[w3.heap.size]? = some (.cells (C ++ [Value.slice na n ncap, Value.slice ta n tcap]).toArray 26 (0, 0)) from fun wn hg =>
                (((Fr.refl _ wr).alloc _).grown hg (fun k hk => .inl hk) : Fr (fun k => (Value.slice na n ncap).ownBlock = some k) wr wn).at_ hO2.blk (row_off hO2.nxt.row hO2.blk (by decide)))
              have hw1b : w1.heap.size ≤ wr.heap.size := hO2.fr.size
              clear hO2
              go_wp2_with (at_builtin; refine wpList_append_lies _ rfl (.tmp 82) (.tmp 84) 23 rfl w1.heap.size 100 i0 _ 1 24 Tryz.underlying23 hi hz0 hz1 hz2 rfl (by decide) _ n vals rfl (HNR.out.alloc _) ⟨wr.heap.size, 0, none⟩ 1 1 [.slice xa i xcap] rfl rfl (getElem_block (alloc_new _ _)) (by simp [Value.oneCell']) (by decide) (by unfold maxLen; omega) (by omega) (by first | omega | (simp; omega)) (wr.heap.size + 1) (by simp) ?_; intro g2 cap2 w9 hown9 hgrow9 hat9 hlt9; (have HB9 := Lib.hid (HCB.out w9 hgrow9)); (have c256 : w9.cell? ⟨w3.heap.size, 256, none⟩ = some (.slice na n ncap) := cell_of_block HB9.out (at_256 C hz _ _)); (have f256 : w9.frozen? ⟨w3.heap.size, 256, none⟩ = false := free_of_block HB9.out); (have HOW9 := Lib.hid hown9); (have HG9 := Lib.hid hgrow9); (have HA9 : Hid ((Value.slice na n ncap).ownBlock = some g2 ∨ g2 = wr.heap.size + 1) := Lib.hid hat9); clear hown9 hgrow9 hat9 hlt9)
              have HOR := Lib.hid (show OutD w1 (w9.setCell ⟨w3.heap.size, 256, none⟩ (.slice (some ⟨g2, 0, none⟩) (n + 1) cap2)) w1.heap.size (w1.heap.size + 1) dm w1.heap.size w3.heap.size C (.slice ba i bcap) bytes (.slice sa2 N scap2) vs' D' (.slice (some ⟨g2, 0, none⟩) (n + 1) cap2) (vals ++ [.slice xa i xcap]) (.slice ta n tcap) y.1 (x.next ++ [y.2]) x.tags from by
                have h1 := OutD.row (row := y.2) (xv := .slice xa i xcap) (g2 := g2) (cap2 := cap2) (HO.out.over HF'.out HB'.out HOw.out) hz HR'.out HG9.out (by rw [HRD.out.hn]; exact HOW9.out) HA9.out
                rw [HRD.out.hn] at h1
                exact h1)
              obtain ⟨wq, hwq⟩ : ∃ q, w9.setCell ⟨w3.heap.size, 256, none⟩ (.slice (some ⟨g2, 0, none⟩) (n + 1) cap2) = q := ⟨_, rfl⟩
              rw [hwq] at HOR ⊢
              obtain ⟨v, hv1, hv2⟩ := HOR.out.bld.at_ n A (by rw [HM.out, ← HA.out]; exact sets_get (by rw [HLx.out]; omega))
              obtain ⟨sg, rfl, hsc3⟩ := row_at0 HOR.out.bld.row hv1
              have HV2 := Lib.hid hv2
              have HMM := Lib.hid (M1.out.move HOR.out.fr)
              obtain ⟨Z, hZ⟩ : ∃ Z, tagsM G (ints A) = Z := ⟨_, rfl⟩
              have HZ := Lib.hid hZ
              have hnN : (n : Int) < (N : Int) := by omega
              have e2 : wq.drew.cell? ⟨w1.heap.size + 1, 2, none⟩ = some (.slice (some ⟨sg, 0, none⟩) N scap2) := cell_of_block (w := wq.drew) HOR.out.bld.blk rfl
              have e3 : wq.drew.cell? ⟨sg, n, none⟩ = some v := hsc3
              have e4 : wq.drew.cell? ⟨w3.heap.size, 257, none⟩ = some (.slice ta n tcap) := cell_of_block (w := wq.drew) HOR.out.blk (at_257 C hz _ _)
              have e5 : (wq.alloc (.cells #[.int .u64 (Z : Int)] 28)).cell? ⟨w3.heap.size, 257, none⟩ = some (.slice ta n tcap) := cell_of_block ((Fr.alloc (Fr.refl none_ wq) _).at_ HOR.out.blk (fun h => h)) (at_257 C hz _ _)
              obtain ⟨j0, hj, hy0, hy1, hy2⟩ := info_parts set_info
              have HTR := Lib.hid (show wq.ownsRow w1.heap.size 28 1 (.slice ta n tcap) n (setsV x.tags) by have h1 := HOR.out.tgs; rw [HRD.out.ht] at h1; exact h1)
              have HCB2 := Lib.hid (show ∀ (wn : World), (wq.drew.alloc (.cells #[.int .u64 (Z : Int)] 28)).grownBy wn (Value.slice ta n tcap).ownBlock → wn.heap[w3.heap.size]? = some (.cells (C ++ [Value.slice (some ⟨g2, 0, none⟩) (n + 1) cap2, Value.slice ta n tcap]).toArray 26 (0, 0)) from fun wn hg =>
                (((Fr.refl _ wq).drew.alloc _).grown hg (fun k hk => .inl hk) : Fr (fun k => (Value.slice ta n tcap).ownBlock = some k) wq wn).at_ HOR.out.blk (row_off HOR.out.tgs HOR.out.blk (by decide)))
              have hw1q : w1.heap.size ≤ wq.heap.size := HOR.out.fr.size
              have HTAG := Lib.hid (tags_val dm wq.drew G st v (ints A) Z (HMM.out.move (Fr.refl none_ wq).drew) HFIT.out (HV2.out.move (Fr.refl none_ wq).drew) (by rw [ints_length]; exact HAL2.out) hZ)
              clear hv1 hv2 hsc3 hZ hwq HB9 HNR HCB HOW9 HG9 HA9 c256 f256 e256
              go_wp2_with fail
              go_region_law (first
                | (refine step_append_lies _ rfl (.tmp 88) (.tmp 98) 24 rfl w1.heap.size 28 j0 _ 1 8 Tryz.underlying24 hj hy0 hy1 hy2 rfl (by decide) _ n (setsV x.tags) rfl (HTR.out.drew.alloc _) ⟨wq.heap.size, 0, none⟩ 1 1 [.int .u64 (Z : Int)] rfl rfl (getElem_block (w := wq.drew.alloc _) (alloc_new _ _)) (by simp [Value.oneCell']) (by decide) (by unfold maxLen; omega) (by omega) (by simp; omega) (wq.heap.size + 1) (by simp) ?_
                   intro g3 cap3 wt hownt hgrowt hatt hltt
                   have HBT := Lib.hid (HCB2.out wt hgrowt)
                   have c257 : wt.cell? ⟨w3.heap.size, 257, none⟩ = some (.slice ta n tcap) := cell_of_block HBT.out (at_257 C hz _ _)
                   have f257 : wt.frozen? ⟨w3.heap.size, 257, none⟩ = false := free_of_block HBT.out
                   have HOWT := Lib.hid hownt
                   have HGT := Lib.hid hgrowt
                   have HATT : Hid ((Value.slice ta n tcap).ownBlock = some g3 ∨ g3 = wq.heap.size + 1) := Lib.hid hatt
                   clear hownt hgrowt hatt hltt)
                | (go_simp; go_at_call 68; refine HTAG.out.mono ?_; rintro e wx ⟨rfl, rfl⟩; dsimp only))
              all_goals
                have HOT := Lib.hid (show OutD w1 (wt.setCell ⟨w3.heap.size, 257, none⟩ (.slice (some ⟨g3, 0, none⟩) (n + 1) cap3)) w1.heap.size (w1.heap.size + 1) dm w1.heap.size w3.heap.size C (.slice ba i bcap) bytes (.slice (some ⟨sg, 0, none⟩) N scap2) vs' D' (.slice (some ⟨g2, 0, none⟩) (n + 1) cap2) (vals ++ [.slice xa i xcap]) (.slice (some ⟨g3, 0, none⟩) (n + 1) cap3) y.1 (x.next ++ [y.2]) (x.tags ++ [Z]) from by
                  have h1 := OutD.tag (z := Z) (g2 := g3) (cap2 := cap3) HOR.out hz (wd := wq.drew.alloc (.cells #[.int .u64 (Z : Int)] 28)) ((Fr.refl none_ wq).drew.alloc _) HGT.out (by rw [HRD.out.ht]; exact HOWT.out) (HATT.out.imp id (fun h => by omega))
                  rw [HRD.out.ht] at h1
                  exact h1)
                go_wp2_with fail
                go_roundw
                case rel =>
                  have hrd := rounds_succ (G := G) (bytes := bytes) (B := B) (n := n) (by rw [HX.out]; exact HRD.out) (by rw [HX.out, HLx.out]; omega)
                  have hnx : roundD G bytes B (n + 1) = ⟨y.1, x.next ++ [y.2], x.tags ++ [Z]⟩ := by
                    show Found.mk (rowM G ((roundD G bytes B n).sets.getD n []) bytes (roundD G bytes B n).sets bytes.length).1 _ _ = _
                    rw [HX.out, HA.out, HK.out, HY.out, HZ.out]
                  refine ⟨n + 1, by omega, by go_num, hrd, ?_, ?_⟩
                  · show Ed = endD G bytes B (2002 - (n + 1)) (n + 1)
                    rw [show 2002 - (n + 1) = 2001 - n by omega]
                    exact HE3.out
                  · rw [hnx]; exact ⟨_, _, _, _, _, _, HOT.out⟩
                case measure => simp [intOf]; omega
            case pos =>
              have hlt2' : (i : Int) < (K : Int) := by omega
              have hi0 : (0 : Int) ≤ (i : Int) := by omega
              have hnN : (n : Int) < (N : Int) := by omega
              obtain ⟨b, hb⟩ : ∃ b, bytes[i]? = some b := ⟨_, List.getElem?_eq_getElem (by rw [HK.out]; exact hlt2)⟩
              have hb256 : b < 256 := HBB.out b (List.mem_of_getElem? hb)
              have hbg : bytes.getD i 0 = b := by simp [List.getD, hb]
              have HBG := Lib.hid hbg
              have hO2 := HO.out.over HF'.out HB'.out HOw.out
              obtain ⟨bg, rfl, hbc⟩ := hO2.byt.elim fun bs h1 => row_at0 h1 (i := i) (x := .int .u8 (b : Int)) (by simp [bytesV, hb])
              obtain ⟨v, hv1, hv2⟩ := HB'.out.at_ n A (by rw [HM.out, ← HA.out]; exact sets_get (by rw [HLx.out]; omega))
              obtain ⟨sg, rfl, hsc3⟩ := row_at0 HB'.out.row hv1
              have d2 : wr.cell? ⟨w1.heap.size + 1, 2, none⟩ = some (.slice (some ⟨sg, 0, none⟩) N scap2) := cell_of_block hBl rfl
              have HV2 := Lib.hid hv2
              have HMM := Lib.hid (M1.out.move hO2.fr)
              have HPP := Lib.hid (HP.out.move (G1.out.tr hO2.fr))
              have hw1b : w1.heap.size ≤ wr.heap.size := hO2.fr.size
              have HO2 := Lib.hid hO2
              clear hb hbg hO2 hv1 hv2 hBl
              go_wp2_with fail
              refine (step_new dm wr G st v (ints A) b HMM.out HFIT.out HV2.out (by rw [ints_length]; exact HAL2.out) hb256).mono ?_
              rintro e wy ⟨v2, rfl, hi2, F2, hn2⟩
              have hst1 : ∀ n ∈ stepM G (ints A) b, n ≤ 100000 := fun n hn => by have := stepM_lt G (ints A) b n hn; have := HFIT.out.len; omega
              have hst2 : (stepM G (ints A) b).length ≤ 100000 := by have := stepM_len G (ints A) b; have := HFIT.out.len; omega
              have H2 := Lib.hid hi2
              have HN2 := Lib.hid hn2
              have HF2 := Lib.hid F2
              have HQ := Lib.hid (HB'.out.move F2)
              have HS2 := Lib.hid F2.size
              have HST1 := Lib.hid hst1
              have HSTP := HRS.out
              rw [HBG.out] at HSTP
              have HSP := Lib.hid HSTP
              obtain ⟨T, hT⟩ : ∃ T, stepM G (ints A) b = T := ⟨_, rfl⟩
              rw [hT] at H2 HST1 hst2 HSP
              clear hi2 hn2 F2 hT hst1 HSTP HRS
              go_wp2_with fail
              refine (number_any w1.heap.size (w1.heap.size + 1) dm w1.heap.size (.slice (some ⟨sg, 0, none⟩) N scap2) vs' D' y.1 T v2 wy HQ.out H2.out (HPP.out.move HF2.out) HST1.out hst2 (by rw [HN.out]; omega) (by have := HS2.out; omega)).mono ?_
              rintro e wz ⟨rfl, sv3, vs3, D3, hb3, F3, ho3, hu3⟩
              obtain ⟨Z, hZ⟩ : ∃ Z, (setNo y.1 T).2 = Z := ⟨_, rfl⟩
              obtain ⟨E3, hE3⟩ : ∃ E, (setNo y.1 T).1 = E := ⟨_, rfl⟩
              have HSP2 := HSP.out
              rw [hZ, hE3] at HSP2
              have HSP3 := Lib.hid HSP2
              rw [hE3] at hb3
              rw [hZ]
              have HB3 := Lib.hid hb3
              have HF3 := Lib.hid F3
              have HO3 := Lib.hid ho3
              have HU3 := Lib.hid hu3
              have HRZ := Lib.hid (show wz.ownsRow wb.heap.size 3 1 (.slice xa i xcap) i (intsV y.2) by
                have h1 := HQ.out.row_over F3 (row_keep HR'.out HF2.out (fun _ _ h => h)) (by decide) (by decide)
                rw [hrl] at h1
                exact h1)
              have hwbz : wb.heap.size ≤ wz.heap.size := by have := HF'.out.size; have := HS2.out; have := F3.size; omega
              clear hb3 F3 ho3 hu3 hZ hE3 HSP HSP2
              obtain ⟨i0, hi, hz0, hz1, hz2⟩ := info_parts int_info
              go_wp2_with (at_builtin; refine wpList_append_lies _ rfl (.tmp 65) (.tmp 78) 100 rfl wb.heap.size 3 i0 _ 1 8 Tryz.underlying100 hi hz0 hz1 hz2 rfl (by decide) _ i (intsV y.2) rfl (HRZ.out.alloc _) ⟨wz.heap.size, 0, none⟩ 1 1 [.int .i64 Z] rfl rfl (getElem_block (alloc_new _ _)) ?c1 (by decide) ?c2 ?c3 ?c4 (wz.heap.size + 1) (by simp) ?_)
              case c1 => simp [Value.oneCell']
              case c2 => unfold maxLen; omega
              case c3 => omega
              case c4 => first | omega | (simp; omega)
              intro g2 cap2 w9 hown9 hgrow9 hat9 hlt9
              have HNEW := Lib.hid (show RowD wb w9 w1.heap.size (w1.heap.size + 1) dm w1.heap.size (.slice sa L scap) E3 (.slice (some ⟨g2, 0, none⟩) (i + 1) cap2) (y.2 ++ [Z]) from by
                have h1 := RowD.step (g2 := g2) (cap2 := cap2) (xv := .slice xa i xcap) (row := y.2) (z := Z) (A := ints T) HB'.out HOw.out HAp.out HR'.out HF'.out HF2.out HN2.out HB3.out HF3.out HO3.out HU3.out hgrow9 (by rw [hrl]; exact hown9) hat9
                rw [hrl] at h1
                exact h1)
              clear hown9 hgrow9 hat9 hlt9
              go_wp2_with fail
              go_roundw
              case rel => exact ⟨i + 1, by omega, by go_num, by rw [HSP3.out]; exact HNEW.out⟩
              case measure => simp [intOf]; omega
end Go.Proofs.YtnenbihmokolpaaGreatDoor
