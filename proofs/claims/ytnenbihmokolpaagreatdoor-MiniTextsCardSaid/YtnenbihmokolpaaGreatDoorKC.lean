/-
  The builder of an automaton: the number of a set of states.
  The number of a set of states that is not empty.
  The builder of an automaton beside other rows: what stays while it turns.
-/
import Derived.Test.YtnenbihmokolpaaGreatDoorKB
import Derived.Lib.ItoaMem
namespace Go.Proofs.YtnenbihmokolpaaGreatDoor set_option linter.unusedVariables false set_option linter.unusedSimpArgs false
open Go.RowKit
open Go.Maps

/-- The table that strconv reads. -/
def PowOk (w : World) : Prop := Lib.TabIs Tryz.prog w "internal/strconv.uint64pow10" .u64 Lib.pow10Tab
theorem PowOk.move {w w' : World} (h : PowOk w) (hf : Fr none_ w w') : PowOk w' := by
  unfold PowOk Lib.TabIs World.var? at h ⊢
  cases hg : Tryz.prog.globalNamed "internal/strconv.uint64pow10" with
  | none => rw [hg] at h; simp at h
  | some g =>
    rw [hg] at h
    simp only [Option.bind_some] at h ⊢
    cases hb : w.heap[g]? with
    | none => rw [hb] at h; simp at h
    | some o => rw [hb] at h; rw [hf.at_ hb (fun h => h)]; exact h
theorem Fr.grow {S : Nat → Prop} {a w : World} (h : Fr S a w) (os : Array Obj) : Fr S a (Go.Sort.grow w os) :=
  ⟨h.os, h.tape, h.output, Nat.le_trans h.size (by simp [Go.Sort.grow]), fun k hk hn => by
    rw [← h.block k hk hn]
    have := h.size
    simp only [Go.Sort.grow]
    rw [Array.getElem?_append_left (by omega)]⟩
theorem itoa_any (n : Nat) (hn : n ≤ 100000) (w : World) (hp : PowOk w) :
    Calls Tryz.prog 85 #[.int .i64 (n : Int)] w fun e w' => e = .returned (.string ⟨(Lib.decDigits n).toArray⟩) ∧ Fr none_ w w' := by
  refine (Tryz.strconv_Itoa (n : Int) (by omega) (by omega) w hp).mono ?_
  rintro e w' ⟨rfl, k, os, rfl⟩
  rw [Lib.itoa_nonneg]
  exact ⟨rfl, ((Fr.refl none_ w).drewN k).grow os⟩
theorem nDigits_le (u : Nat) : Lib.nDigits u ≤ u + 1 := by
  induction u using Nat.strongRecOn with
  | _ u ih =>
    by_cases h : u < 10
    · rw [Lib.nDigits_small h]; omega
    · rw [Lib.nDigits_big h]; have := ih (u / 10) (by omega); omega
theorem keyS_len (A : List Nat) (h : ∀ n ∈ A, n ≤ 100000) : (keyS A).length ≤ 100002 * A.length := by
  induction A with
  | nil => simp [keyS]
  | cons a A ih =>
    have h1 := ih (fun n hn => h n (by simp [hn]))
    have h2 := h a (by simp)
    have h3 := nDigits_le a
    have e : (keyS (a :: A)).length = Lib.nDigits a + 1 + (keyS A).length := by
      simp [keyS, Lib.decDigits_length]; omega
    rw [e, List.length_cons]
    omega
def keyB (A : List Nat) : ByteArray := ⟨(keyS A).toArray⟩
theorem keyB_size (A : List Nat) : (keyB A).size = (keyS A).length := by show (keyS A).toArray.size = _; simp
theorem keyB_snoc (A : List Nat) (n : Nat) : keyB (A ++ [n]) = keyB A ++ ((⟨(Lib.decDigits n).toArray⟩ : ByteArray) ++ ⟨#[32]⟩) := by
  unfold keyB
  rw [keyS_snoc]
  apply ByteArray.ext
  simp [ByteArray.data_append]
def keyL (A : List Nat) : Lit := .string (keyS A)
theorem str_law : Keyed Tryz.prog 9 := string_keyed Tryz.underlying9
theorem keyL_some (A : List Nat) (h : (keyS A).length ≤ maxLen) : Go.keyOf Tryz.prog 9 (.string (keyB A)) = some (keyL A) := by
  have := WideMaps.keyOf_string_mk (P := Tryz.prog) Tryz.underlying9 (s := keyB A) (by rw [keyB_size]; exact h)
  rw [this]
  simp [keyL, keyB]
theorem keyL_inj (A B : List Nat) (h : keyL A = keyL B) : A = B := keyS_inj (by simpa [keyL] using h)

/-- The builder, in memory. -/
structure BldD (w : World) (B d dm mb : Nat) (sv : Value) (vs : List Value) (D : DataW Unit) (sets : List (List Nat)) : Prop where
  blk : w.heap[d]? = some (.cells #[.pointer (some ⟨dm, 0, none⟩), .map (some mb), sv] 128 (0, 0))
  map : w.ownsMap Tryz.prog 9 (plainElem (H := Unit) Tryz.prog 3) mb sets.length D
  is_ : MapIs keyL (fun A => (keyS A).length ≤ maxLen) D sets
  row : w.ownsRow B 100 1 sv sets.length vs
  at_ : ∀ (i : Nat) (A : List Nat), sets[i]? = some A → ∃ v, vs[i]? = some v ∧ IntsAt w v (ints A)
  hd : B ≤ d
  hm : B ≤ mb
/-- What of the builder may turn. -/
def bldS (d mb : Nat) (sv : Value) : Nat → Prop := fun k => k = d ∨ k = mb ∨ sv.ownBlock = some k
theorem BldD.move {w w' : World} {B d dm mb : Nat} {sv : Value} {vs : List Value} {D : DataW Unit} {sets : List (List Nat)} (h : BldD w B d dm mb sv vs D sets) (hf : Fr none_ w w') : BldD w' B d dm mb sv vs D sets :=
  ⟨hf.at_ h.blk (fun h => h), ownsMap_at h.map (hf.block mb h.map.lt (fun h => h)), h.is_, ownsRow_same h.row (fun b hb => hf.block b (h.row.lt b hb).2 (fun h => h)),
   fun i A hA => (h.at_ i A hA).elim fun v h1 => ⟨v, h1.1, h1.2.move hf⟩, h.hd, h.hm⟩
/-- Numbers that lie elsewhere stay while the builder turns. -/
theorem IntsAt.over {w w' : World} {B d dm mb : Nat} {sv : Value} {vs : List Value} {D : DataW Unit} {sets : List (List Nat)} (h : BldD w B d dm mb sv vs D sets) (hf : Fr (bldS d mb sv) w w') {v : Value} {A : List Int} (hv : IntsAt w v A) : IntsAt w' v A := by
  obtain ⟨b, hv⟩ := hv
  refine ⟨b, ?_⟩
  refine ⟨hv.1, ?_⟩
  rcases hv.2 with h1 | ⟨g, cap, cur, e1, e2, e3, e4⟩
  · exact .inl h1
  · refine .inr ⟨g, cap, cur, e1, e2, ?_, e4⟩
    refine (hf.block g (lt_of_block e3) ?_).trans e3
    rintro (rfl | rfl | hk)
    · rw [h.blk] at e3; simp at e3
    · obtain ⟨es, clock, hb, _⟩ := h.map
      rw [hb] at e3; simp at e3
    · rcases h.row.2 with ⟨h2, _⟩ | ⟨g2, cap2, cur2, f1, _, f3, _⟩
      · rw [h2] at hk; simp [Value.ownBlock] at hk
      · rw [f1] at hk
        simp only [Value.ownBlock, Option.some.injEq] at hk
        subst hk
        rw [f3] at e3
        simp at e3

set_option maxRecDepth 100000 in
set_option maxHeartbeats 2000000 in
theorem number_none (d : Nat) (v : Value) (w : World) (hv : IntsAt w v []) :
    Calls Tryz.prog 65 #[.pointer (some ⟨d, 0, none⟩), v] w fun e w' => e = .returned (.int .i64 (-1)) ∧ w = w' := by
  obtain ⟨a, cap, rfl, hc⟩ := hv.slice
  clear hv
  go_enter Tryz.func65, Tryz.ntmps65
  go_wp2_with fail
  go_ret
  exact ⟨rfl, rfl⟩
end Go.Proofs.YtnenbihmokolpaaGreatDoor

namespace Go.Proofs.YtnenbihmokolpaaGreatDoor set_option linter.unusedVariables false set_option linter.unusedSimpArgs false
open Go.RowKit
open Go.Maps

theorem row_info : (Tryz.prog.info? 100).map (fun i => (i.zero, i.size, i.bytes)) = some (some (.slice none 0 0), 1, 24) := by kernel_rfl
theorem BldD.ne {w : World} {B d dm mb : Nat} {sv : Value} {vs : List Value} {D : DataW Unit} {sets : List (List Nat)} (h : BldD w B d dm mb sv vs D sets) : d ≠ mb ∧ sv.ownBlock ≠ some d ∧ sv.ownBlock ≠ some mb := by
  obtain ⟨es, clock, hb, _⟩ := h.map
  refine ⟨?_, ?_, ?_⟩
  · rintro rfl
    rw [h.blk] at hb; simp at hb
  · intro hk
    rcases h.row.2 with ⟨h2, _⟩ | ⟨g2, cap2, cur2, f1, _, f3, _⟩
    · rw [h2] at hk; simp [Value.ownBlock] at hk
    · rw [f1] at hk
      simp only [Value.ownBlock, Option.some.injEq] at hk
      subst hk
      rw [h.blk] at f3
      simp at f3
  · intro hk
    rcases h.row.2 with ⟨h2, _⟩ | ⟨g2, cap2, cur2, f1, _, f3, _⟩
    · rw [h2] at hk; simp [Value.ownBlock] at hk
    · rw [f1] at hk
      simp only [Value.ownBlock, Option.some.injEq] at hk
      subst hk
      rw [hb] at f3
      simp at f3

set_option maxRecDepth 100000 in
set_option maxHeartbeats 4000000 in
theorem number_some (B d dm mb : Nat) (sv : Value) (vs : List Value) (D : DataW Unit) (sets : List (List Nat)) (A : List Nat) (v : Value) (w : World) (h : BldD w B d dm mb sv vs D sets) (hv : IntsAt w v (ints A)) (hp : PowOk w)
    (hA : A ≠ []) (hb : ∀ n ∈ A, n ≤ 100000) (hl : A.length ≤ 100000) (hs : sets.length ≤ 100000) (hB : B ≤ w.heap.size) :
    Calls Tryz.prog 65 #[.pointer (some ⟨d, 0, none⟩), v] w fun e w' => e = .returned (.int .i64 (setNo sets A).2) ∧ ∃ sv' vs' D', BldD w' B d dm mb sv' vs' D' (setNo sets A).1 ∧ Fr (bldS d mb sv) w w' ∧ (sv'.ownBlock = sv.ownBlock ∨ ∀ k, sv'.ownBlock = some k → w.heap.size ≤ k) ∧ (∀ u ∈ vs', u ∈ vs ∨ u = v) := by
  obtain ⟨a, cap, rfl, hc⟩ := hv.slice
  have hil : (ints A).length = A.length := ints_length A
  have hpos : 0 < A.length := List.length_pos_iff.2 hA
  rw [hil] at hc hv ⊢
  obtain ⟨L, hL⟩ : ∃ L, A.length = L := ⟨_, rfl⟩
  rw [hL] at hc hv hl hpos ⊢
  have HL := Lib.hid hL
  have HV := Lib.hid hv
  have HB := Lib.hid h
  have HP := Lib.hid hp
  have HKL := Lib.hid (keyS_len A hb)
  have HSN := Lib.hid (show (setNo sets A) = ((keyM sets A).1, ((keyM sets A).2 : Int)) by rw [setNo, if_neg hA])
  have HBN := Lib.hid hb
  have he0 : ((L : Int) == 0) = false := by rw [beq_eq_false_iff_ne]; omega
  clear hv h hp hA hb hL hil
  go_enter Tryz.func65, Tryz.ntmps65
  go_wp2_with fail
  clear he0
  go_loopw [5, 15] (fun x5 x15 wr => ∃ i : Nat, i ≤ L ∧ x15 = .int .i64 i ∧ x5 = .string (keyB (A.take i)) ∧ Aside (Fr none_ w wr)) (fun _ x15 _ => L - (intOf x15).toNat)
  case atStart => exact ⟨0, Nat.zero_le _, rfl, rfl, Fr.refl _ _⟩
  case round =>
    obtain ⟨i, hi', rfl, rfl, hfr⟩ := hrel
    have HFr := Lib.hid hfr.out
    clear hfr
    obtain ⟨ky, hky⟩ : ∃ s, keyB (A.take i) = s := ⟨_, rfl⟩
    have hks : ky.size ≤ 20000000000 := by
      rw [← hky, keyB_size]
      have h1 := keyS_len (A.take i) (fun n hn => HBN.out n (List.mem_of_mem_take hn))
      have h2 : (A.take i).length ≤ 100000 := by rw [List.length_take]; omega
      omega
    have HKY := Lib.hid hky
    rw [hky]
    clear hky
    by_cases hlt : i < L
    · have hlt' : (i : Int) < (L : Int) := by omega
      have hi0 : (0 : Int) ≤ (i : Int) := by omega
      obtain ⟨n, hn⟩ : ∃ n, A[i]? = some n := ⟨_, List.getElem?_eq_getElem (by rw [HL.out]; exact hlt)⟩
      have hnle : n ≤ 100000 := HBN.out n (List.mem_of_getElem? hn)
      have hni : (ints A)[i]? = some (n : Int) := by simp [ints, hn]
      obtain ⟨g, rfl, cx⟩ := (HV.out.move HFr.out).cell hni
      have HT := Lib.hid (show keyB (A.take (i + 1)) = ky ++ ((⟨(Lib.decDigits n).toArray⟩ : ByteArray) ++ ⟨#[32]⟩) by
        rw [List.take_add_one, hn, ← HKY.out]; exact keyB_snoc _ _)
      clear hn hni
      go_wp2_with fail
      refine (itoa_any n hnle _ (HP.out.move HFr.out)).mono ?_
      rintro e w2 ⟨rfl, F2⟩
      have K2 := Lib.hid (HFr.out.tr F2)
      clear F2 cx
      obtain ⟨sd, hsd⟩ : ∃ s, (⟨(Lib.decDigits n).toArray⟩ : ByteArray) = s := ⟨_, rfl⟩
      have hsz : sd.size ≤ 100001 := by
        rw [← hsd]
        show (Lib.decDigits n).toArray.size ≤ _
        have := nDigits_le n
        simp [Lib.decDigits_length]; omega
      rw [hsd] at HT ⊢
      have q1 : sd.size + 1 ≤ 9223372036854775807 := by omega
      have q2 : ky.size + (sd.size + 1) ≤ 9223372036854775807 := by omega
      clear hsd
      go_wp2_with fail
      go_roundw
      case rel => exact ⟨i + 1, by omega, by go_num, by rw [HT.out], K2.out⟩
      case measure => simp [intOf]; omega
    · obtain rfl : i = L := by omega
      have hky2 : keyB A = ky := by rw [← HKY.out, ← HL.out, List.take_length]
      have HB1 := Lib.hid (HB.out.move HFr.out)
      have HNE := Lib.hid HB1.out.ne
      have hkm : (keyS A).length ≤ maxLen := by have := HKL.out; rw [HL.out] at this; unfold maxLen; omega
      have hkey := keyL_some A hkm
      rw [hky2] at hkey
      have HHas := Lib.hid (HB1.out.is_.has A hkm)
      have HAtK := Lib.hid (HB1.out.is_.at_ A hkm)
      have HPut := Lib.hid (fun hn => HB1.out.is_.put (k := A) hkm hn (fun a b _ _ hab => keyL_inj a b hab) (str_law.key hkey))
      have HSz := Lib.hid HB1.out.is_.size
      obtain ⟨kl, hkl⟩ : ∃ l, keyL A = l := ⟨_, rfl⟩
      rw [hkl] at hkey HHas HAtK HPut
      have HK := Lib.hid hkey
      obtain ⟨sa, scap, rfl, hsc⟩ := ownsRow_slice HB1.out.row
      have b0 : wr.cell? ⟨d, 0, none⟩ = some (.pointer (some ⟨dm, 0, none⟩)) := cell_of_block HB1.out.blk rfl
      have b1 : wr.cell? ⟨d, 1, none⟩ = some (.map (some mb)) := cell_of_block HB1.out.blk rfl
      have b2 : wr.cell? ⟨d, 2, none⟩ = some (.slice sa sets.length scap) := cell_of_block HB1.out.blk rfl
      clear hkey hkl hky2 hkm
      by_cases hm : A ∈ sets
      · have hhas : Maps.has D kl = true := by rw [HHas.out]; simp [hm]
        have HKM := Lib.hid (show keyM sets A = (sets, idxM sets A) by rw [keyM, if_pos hm]; rfl)
        go_wp2_with (at_lookup; refine wpList_lookup_own_ok_int _ rfl (.tmp 29) (.tmp 30) 126 rfl 9 3 .i64 str_law Tryz.underlying126 Tryz.underlying3 (zeroI _) mb sets.length D rfl HB1.out.map (.string ky) kl rfl HK.out ?_; intro v hat hwc; (have hv2 : v = (idxM sets A : Int) := (by rw [HAtK.out hm] at hat; simpa using hat.symm)); clear hat hwc; subst hv2)
        go_ret
        refine ⟨by rw [HSN.out, HKM.out]; rfl, .slice sa sets.length scap, vs, D, ?_, HFr.out.none, .inl rfl, fun u hu => .inl hu⟩
        rw [HSN.out, HKM.out]
        exact HB1.out
      · have hhas : Maps.has D kl = false := by rw [HHas.out]; simp [hm]
        have HKM := Lib.hid (show keyM sets A = (sets ++ [A], sets.length) by rw [keyM, if_neg hm])
        obtain ⟨i0, hi, hz0, hz1, hz2⟩ := info_parts row_info
        have hlt := lt_of_block HB1.out.blk
        have hBd := HB1.out.hd
        have ht : ∀ (w3 : World), w3.heap[d]? = some (.cells #[.pointer (some ⟨dm, 0, none⟩), .map (some mb), .slice sa sets.length scap] 128 (0, 0)) → w3.cell? ⟨d, 2, none⟩ = some (.slice sa sets.length scap) ∧ w3.cell? ⟨d, 0, none⟩ = some (.pointer (some ⟨dm, 0, none⟩)) ∧ w3.cell? ⟨d, 1, none⟩ = some (.map (some mb)) ∧ w3.frozen? ⟨d, 2, none⟩ = false := fun w3 h3 => ⟨cell_of_block h3 rfl, cell_of_block h3 rfl, cell_of_block h3 rfl, free_of_block h3⟩
        have HT := Lib.hid ht
        clear ht
        go_wp2_with (first
          | (at_lookup; refine wpList_lookup_own_ok_int _ rfl (.tmp 29) (.tmp 30) 126 rfl 9 3 .i64 str_law Tryz.underlying126 Tryz.underlying3 (zeroI _) mb sets.length D rfl HB1.out.map (.string ky) kl rfl HK.out ?_; intro v hat hwc; clear hat hwc)
          | (at_mapUpdate; refine wpList_mapUpdate_own _ rfl (.tmp 44) (.tmp 45) (.tmp 46) 126 rfl 9 3 str_law Tryz.underlying126 _ mb sets.length D rfl HB1.out.map (by unfold maxLen; omega) (.string ky) (.int .i64 (sets.length : Int)) kl rfl rfl HK.out (.lit (.int .i64 (sets.length : Int))) [] (plainElem_int Tryz.underlying3 (WalkArith.wf_i64 (by omega))) ?_; intro w3 hown3 hgrow3; (have R0 := Lib.hid ((hgrow3.block d hlt (by intro e; injection e with e; exact HNE.out.1 e)).trans HB1.out.blk)); (have RO := Lib.hid hown3); (have RG := Lib.hid hgrow3); (have RR := Lib.hid (ownsRow_same HB1.out.row (fun b hb => hgrow3.block b (HB1.out.row.lt b hb).2 (by intro e; injection e with e; rw [e] at hb; exact HNE.out.2.2 hb)))); (have c32 := (HT.out w3 R0.out).1); clear hown3 hgrow3)
          | (at_builtin; refine wpList_append_lies _ rfl (.tmp 51) (.tmp 53) 23 rfl B 100 i0 _ 1 24 Tryz.underlying23 hi hz0 hz1 hz2 rfl (by decide) _ sets.length vs rfl (RR.out.alloc _) ⟨w3.heap.size, 0, none⟩ 1 1 [.slice a i cap] rfl rfl (getElem_block (alloc_new _ _)) (by simp [Value.oneCell']) (by decide) (by unfold maxLen; omega) (by omega) (by have := RG.out.size; simp; omega) (w3.heap.size + 1) (by simp) ?_; intro g2 cap2 w4 hown4 hgrow4 hat4 hlt4; (have S0 := Lib.hid ((hgrow4.block d (by have := RG.out.size; simp; omega) (fun e => HNE.out.2.1 e.symm)).trans ((Below.heap_alloc _ _ _ (by have := RG.out.size; omega)).trans R0.out))); (have SO := Lib.hid hown4); (have SG := Lib.hid hgrow4); (have SA := Lib.hid hat4); (have c42 := (HT.out w4 S0.out).1); (have f42 := (HT.out w4 S0.out).2.2.2); clear hown4 hgrow4 hat4))
        go_ret
        have FW : Fr (bldS d mb (.slice sa sets.length scap)) wr (w4.setCell ⟨d, 2, none⟩ (.slice (some ⟨g2, 0, none⟩) (sets.length + 1) cap2)) :=
          ((((Fr.refl (bldS d mb (.slice sa sets.length scap)) wr).grown RG.out (fun k hk => .inl (.inr (.inl (by injection hk with hk; exact hk.symm))))).alloc _).grown SG.out (fun k hk => .inl (.inr (.inr hk)))).setCell (p := ⟨d, 2, none⟩) (.inl (.inl rfl)) _
        have hgd : g2 ≠ d := by
          rcases SA.out with e | e
          · intro h2; rw [h2] at e; exact HNE.out.2.1 e
          · have := RG.out.size; omega
        refine ⟨by rw [HSN.out, HKM.out]; rfl, .slice (some ⟨g2, 0, none⟩) (sets.length + 1) cap2, vs ++ [.slice a i cap], D.put kl (.lit (.int .i64 (sets.length : Int))), ?_, HFr.out.none.tr FW, ?_, fun u hu => by simpa using hu⟩
        rotate_left
        · rcases SA.out with e | e
          · exact .inl e.symm
          · refine .inr (fun k hk => ?_)
            simp only [Value.ownBlock, Option.some.injEq] at hk
            have := RG.out.size; have := HFr.out.size; omega
        rw [HSN.out, HKM.out]
        refine ⟨?_, ?_, HPut.out hm, ?_, ?_, HB1.out.hd, HB1.out.hm⟩
        · have h1 := heap_setCell w4 S0.out 2 (.slice (some ⟨g2, 0, none⟩) (sets.length + 1) cap2)
          exact h1
        · rw [List.length_append]
          refine ownsMap_at RO.out ?_
          rw [Below.heap_setCell w4 ⟨d, 2, none⟩ _ mb (fun e => HNE.out.1 e.symm), SG.out.block mb (by have := RO.out.lt; simp; omega) (fun e => HNE.out.2.2 e.symm)]
          exact Below.heap_alloc _ _ _ RO.out.lt
        · rw [List.length_append]
          exact ownsRow_same SO.out (fun b hb => Below.heap_setCell w4 ⟨d, 2, none⟩ _ b (fun e => by
            simp only [Value.ownBlock, Option.some.injEq] at hb
            exact hgd (hb.trans e)))
        · intro j A2 hA2
          by_cases hj : j < sets.length
          · rw [List.getElem?_append_left hj] at hA2
            obtain ⟨v2, hv1, hv2⟩ := HB1.out.at_ j A2 hA2
            have hvl : vs.length = sets.length := by have := HB1.out.row.1; omega
            exact ⟨v2, by rw [List.getElem?_append_left (by omega)]; exact hv1, IntsAt.over HB1.out FW hv2⟩
          · rw [List.getElem?_append_right (by omega)] at hA2
            have hj2 : j - sets.length = 0 := by
              rcases Nat.eq_zero_or_pos (j - sets.length) with e | e
              · exact e
              · rw [List.getElem?_eq_none (by simp; omega)] at hA2; simp at hA2
            rw [hj2] at hA2
            have e2 : A = A2 := by simpa using hA2
            have hvl : vs.length = sets.length := by have := HB1.out.row.1; omega
            refine ⟨.slice a i cap, by rw [List.getElem?_append_right (by omega), hvl, hj2]; rfl, ?_⟩
            rw [← e2]
            exact IntsAt.over HB1.out FW (HV.out.move HFr.out)
end Go.Proofs.YtnenbihmokolpaaGreatDoor

namespace Go.Proofs.YtnenbihmokolpaaGreatDoor set_option linter.unusedVariables false set_option linter.unusedSimpArgs false
open Go.RowKit
open Go.Maps

section
variable {w w' : World} {B d dm mb : Nat} {sv : Value} {vs : List Value} {D : DataW Unit} {sets : List (List Nat)}
theorem BldD.not (h : BldD w B d dm mb sv vs D sets) {k : Nat} {cs : Array Value} {t : TypeId} {fr : Nat × Nat} (hb : w.heap[k]? = some (.cells cs t fr)) (h1 : t ≠ 128) (h2 : t ≠ 100) : ¬ bldS d mb sv k := by
  rintro (rfl | rfl | hk)
  · rw [h.blk] at hb
    simp only [Option.some.injEq, Obj.cells.injEq] at hb
    exact h1 hb.2.1.symm
  · obtain ⟨es, clock, hm, _⟩ := h.map
    rw [hm] at hb; simp at hb
  · rcases h.row.2 with ⟨h3, _⟩ | ⟨g2, cap2, cur2, f1, _, f3, _⟩
    · rw [h3] at hk; simp [Value.ownBlock] at hk
    · rw [f1] at hk
      simp only [Value.ownBlock, Option.some.injEq] at hk
      subst hk
      rw [f3] at hb
      simp only [Option.some.injEq, Obj.cells.injEq] at hb
      exact h2 hb.2.1.symm
theorem BldD.at_over (h : BldD w B d dm mb sv vs D sets) (hf : Fr (bldS d mb sv) w w') {k : Nat} {cs : Array Value} {t : TypeId} {fr : Nat × Nat} (hb : w.heap[k]? = some (.cells cs t fr)) (h1 : t ≠ 128) (h2 : t ≠ 100) : w'.heap[k]? = some (.cells cs t fr) := hf.at_ hb (h.not hb h1 h2)
theorem BldD.row_over (h : BldD w B d dm mb sv vs D sets) (hf : Fr (bldS d mb sv) w w') {base : Nat} {e : TypeId} {size n : Nat} {v : Value} {xs : List Value} (hr : w.ownsRow base e size v n xs) (h1 : e ≠ 128) (h2 : e ≠ 100) : w'.ownsRow base e size v n xs := by
  refine ⟨hr.1, ?_⟩
  rcases hr.2 with h3 | ⟨g, cap, cur, e1, e2, e3, e4⟩
  · exact .inl h3
  · exact .inr ⟨g, cap, cur, e1, e2, h.at_over hf e3 h1 h2, e4⟩
theorem BldD.fresh (h : BldD w B d dm mb sv vs D sets) {a : World} (hf0 : Fr none_ a w) (hB : a.heap.size ≤ B) (hf : Fr (bldS d mb sv) w w') : Fr none_ a w' := by
  refine hf0.fresh hf ?_
  rintro i (rfl | rfl | hk)
  · exact Nat.le_trans hB h.hd
  · exact Nat.le_trans hB h.hm
  · have := (h.row.lt i hk).1; omega

/-- The rows of an automaton under way. -/
structure NextD (w : World) (B : Nat) (nv : Value) (vals : List Value) (next : List (List Int)) : Prop where
  row : w.ownsRow B 100 1 nv next.length vals
  at_ : ∀ (i : Nat) (r : List Int), next[i]? = some r → ∃ v, vals[i]? = some v ∧ IntsAt w v r
theorem NextD.move {nv : Value} {vals : List Value} {next : List (List Int)} (h : NextD w B nv vals next) (hf : Fr none_ w w') : NextD w' B nv vals next :=
  ⟨ownsRow_same h.row (fun b hb => hf.block b (h.row.lt b hb).2 (fun h => h)), fun i r hr => (h.at_ i r hr).elim fun v h1 => ⟨v, h1.1, h1.2.move hf⟩⟩
theorem NextD.over {B2 : Nat} {nv : Value} {vals : List Value} {next : List (List Int)} (h : NextD w B2 nv vals next) (hb : BldD w B d dm mb sv vs D sets) (hf : Fr (bldS d mb sv) w w') (hne : ∀ k, nv.ownBlock = some k → sv.ownBlock ≠ some k) : NextD w' B2 nv vals next := by
  refine ⟨ownsRow_same h.row (fun k hk => hf.block k (h.row.lt k hk).2 ?_), fun i r hr => (h.at_ i r hr).elim fun v h1 => ⟨v, h1.1, IntsAt.over hb hf h1.2⟩⟩
  rintro (rfl | rfl | h3)
  · rcases h.row.2 with ⟨h4, _⟩ | ⟨g, cap, cur, e1, e2, e3, e4⟩
    · rw [h4] at hk; simp [Value.ownBlock] at hk
    · rw [e1] at hk
      simp only [Value.ownBlock, Option.some.injEq] at hk
      subst hk
      rw [hb.blk] at e3
      simp at e3
  · rcases h.row.2 with ⟨h4, _⟩ | ⟨g, cap, cur, e1, e2, e3, e4⟩
    · rw [h4] at hk; simp [Value.ownBlock] at hk
    · rw [e1] at hk
      simp only [Value.ownBlock, Option.some.injEq] at hk
      subst hk
      obtain ⟨es, clock, hm, _⟩ := hb.map
      rw [hm] at e3
      simp at e3
  · exact hne k hk h3
theorem IntsAt.nums {v : Value} {r : List Int} (h : IntsAt w v r) : NumsIn w v r := by
  obtain ⟨a, cap, rfl, hc⟩ := h.slice
  refine ⟨a, cap, rfl, fun j z hz => ?_⟩
  obtain ⟨g, rfl, hcell⟩ := h.cell hz
  exact ⟨_, rfl, by rw [Addr.add_mid, Nat.zero_add]; exact hcell⟩
theorem row_cell {base : Nat} {e : TypeId} {n : Nat} {v : Value} {xs : List Value} (h : w.ownsRow base e 1 v n xs) : ∃ a cap, v = .slice a n cap ∧ ∀ j x, xs[j]? = some x → ∃ ad, a = some ad ∧ w.cell? (ad.add j) = some x := by
  obtain ⟨a, cap, rfl, hc⟩ := ownsRow_slice h
  refine ⟨a, cap, rfl, fun j x hx => ?_⟩
  have hj := (List.getElem?_eq_some_iff.1 hx).1
  have hl := h.1
  obtain ⟨g, cap', hg, _, _⟩ := h.form (by omega)
  have h' := h
  rw [hg] at h'
  cases hg
  exact ⟨_, rfl, by rw [Addr.add_mid, Nat.zero_add, h'.cellAt j (by omega)]; exact hx⟩
theorem NextD.rows {nv : Value} {vals : List Value} {next : List (List Int)} (h : NextD w B nv vals next) : RowsIn w nv next := by
  obtain ⟨a, cap, e, hc⟩ := row_cell h.row
  refine ⟨a, cap, e, fun j r hr => ?_⟩
  obtain ⟨v, h1, h2⟩ := h.at_ j r hr
  obtain ⟨ad, h3, h4⟩ := hc j v h1
  exact ⟨ad, v, h3, h4, h2.nums⟩
def setsV (l : List Nat) : List Value := l.map fun (z : Nat) => Value.int .u64 (z : Int)
theorem sets_in {tv : Value} {tags : List Nat} (h : w.ownsRow B 28 1 tv tags.length (setsV tags)) : SetsIn w tv tags := by
  obtain ⟨a, cap, e, hc⟩ := row_cell h
  refine ⟨a, cap, e, fun j z hz => ?_⟩
  obtain ⟨ad, h3, h4⟩ := hc j (.int .u64 (z : Int)) (by simp [setsV, hz])
  exact ⟨ad, h3, h4⟩
end
end Go.Proofs.YtnenbihmokolpaaGreatDoor
