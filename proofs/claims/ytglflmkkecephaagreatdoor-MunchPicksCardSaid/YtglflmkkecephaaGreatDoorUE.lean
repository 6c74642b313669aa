/-
  A row of pairs that came in.
  MunchCuts: plain.
  MunchCuts: the walk.
-/
import Derived.Test.YtglflmkkecephaaGreatDoorUC
import Derived.Deep.Slices
namespace Go.Proofs.YtglflmkkecephaaGreatDoor
open Go.RowKit
open Go.Deep Go.ChangeShapes Go.WideShapes

def PairsAt (w : World) (a : Option Addr) (len : Nat) (ps : List (Int × Int)) : Prop := ps.length = len ∧ ∀ (j : Nat) (p : Int × Int), ps[j]? = some p → ∃ ad, a = some ad ∧ w.cell? (ad.add (j * 2)) = some (.int .i64 p.1) ∧ w.cell? (ad.add (j * 2 + 1)) = some (.int .i64 p.2)
theorem PairsAt.few {w : World} {a : Option Addr} {len : Nat} {ps : List (Int × Int)} (h : PairsAt w a len ps) (hl : len ≤ 1000000) : PairsIn w a len ps := ⟨h.1, hl, h.2⟩

set_option maxRecDepth 100000 in
theorem open_pairs {H : Type} {enc : TypeId × Value → H} {w : World} {held : Bool} {v : Value} {d : DataW H} {ps : List MemPlace} (h : DataW.Trod enc Tryz.prog w 0 (fun _ => true) held 40 v d ps) :
    ∃ (a : Option Addr) (len cap : Nat) (l : List (Int × Int)), v.cells.toList = [.slice a len cap] ∧ PairsAt w a len l ∧ len ≤ 9223372036854775807 := by
  obtain ⟨fuel, hf⟩ := h
  have ce : Tryz.prog.cellsOf 57 = 2 := by kernel_rfl
  have ci : Tryz.prog.cellsOf 3 = 1 := by kernel_rfl
  rcases open_slice Tryz.underlying40 hf with ⟨hcs, _⟩ | ⟨x, len, cap, m, n, D, Pl, hcs, _, hl, hm, hmm, _, hx⟩
  · exact ⟨none, 0, 0, [], hcs, ⟨rfl, fun j p hp => by simp at hp⟩, Nat.zero_le _⟩
  · have hlm : len ≤ m := by rw [hmm]; split <;> omega
    have each : ∀ i, i < len → ∃ p q : Int, w.cell? (x.add (i * 2)) = some (.int .i64 p) ∧ w.cell? (x.add (i * 2 + 1)) = some (.int .i64 q) := by
      intro i hi
      obtain ⟨cs', h1, h2⟩ := hx i (by omega)
      rw [ce] at h1
      obtain ⟨_, hlen, hcell⟩ := World.cells?_some h1
      obtain ⟨xs, k, _, _, _, hxl, hf⟩ := DataW.trod_array Tryz.underlying57 h2
      match cs', hlen with
      | [v0, v1], _ =>
        have g0 := hf 0 (by decide)
        have g1 := hf 1 (by decide)
        rw [ci, List.getElem?_eq_getElem (show 0 < xs.length by omega)] at g0
        rw [ci, List.getElem?_eq_getElem (show 1 < xs.length by omega)] at g1
        have e0 := hcell 0 (by omega)
        have e1 := hcell 1 (by omega)
        rw [Addr.add_add] at e0 e1
        obtain ⟨p, hp, _⟩ := DataW.trod_int Tryz.underlying3 g0
        obtain ⟨q, hq, _⟩ := DataW.trod_int Tryz.underlying3 g1
        refine ⟨p, q, ?_, ?_⟩
        · have : v0 = .int .i64 p := by simpa using hp
          rw [← this]; simpa using e0
        · have : v1 = .int .i64 q := by simpa using hq
          rw [← this]; simpa using e1
    refine ⟨some x, len, cap, (List.range len).map fun i => (intOf ((w.cell? (x.add (i * 2))).getD undef), intOf ((w.cell? (x.add (i * 2 + 1))).getD undef)), hcs, ⟨by simp, fun j p hp => ?_⟩, by unfold maxLen at hm; omega⟩
    have hj : j < len := by have := (List.getElem?_eq_some_iff.1 hp).1; simpa using this
    obtain ⟨y, z, q1, q2⟩ := each j hj
    simp [hj, q1, q2, intOf] at hp
    subst hp
    exact ⟨x, rfl, q1, q2⟩
end Go.Proofs.YtglflmkkecephaaGreatDoor

namespace Go.Proofs.YtglflmkkecephaaGreatDoor
open Go.RowKit

theorem pick_neg {D : Dfa} {bs : List Nat} {at_ : Int} {may : Nat} {ps : List (Int × Int)} (h : ¬ 0 ≤ (pickM D bs at_ may ps).1) : (pickM D bs at_ may ps).1 = -1 := by
  unfold pickM pickOf at h ⊢
  split
  · rename_i h1
    rw [if_pos h1] at h
    exact absurd (by show (0 : Int) ≤ ((_ : Nat) : Int); omega) h
  · rfl
/-- From a place on what is left is cut on. -/
def CutAt (D : Dfa) (bs : List Nat) (may : Nat) (ps : List (Int × Int)) (pre : List (Nat × Int)) (at_ : Int) : Prop :=
  0 ≤ at_ ∧ at_ ≤ bs.length ∧ endM pre = at_ ∧ ∃ f : Nat, (bs.length : Int) - at_ < f ∧ allM D bs may ps = pre ++ allFrom D bs may ps f at_
theorem CutAt.start (D : Dfa) (bs : List Nat) (may : Nat) (ps : List (Int × Int)) : CutAt D bs may ps [] 0 :=
  ⟨Int.le_refl _, by omega, rfl, bs.length + 1, by omega, rfl⟩
theorem CutAt.next {D : Dfa} {bs : List Nat} {may : Nat} {ps : List (Int × Int)} {pre : List (Nat × Int)} {at_ : Int} (h : CutAt D bs may ps pre at_) {x : Nat × Int} (hx : (allM D bs may ps)[pre.length]? = some x) :
    0 ≤ (pickM D bs at_ may ps).1 ∧ x = (bitM (pickM D bs at_ may ps).1, (pickM D bs at_ may ps).2) ∧ at_ < (pickM D bs at_ may ps).2 ∧ CutAt D bs may ps (pre ++ [x]) (pickM D bs at_ may ps).2 := by
  obtain ⟨h1, h2, h3, f, hf, h4⟩ := h
  rw [h4, List.getElem?_append_right (Nat.le_refl _), Nat.sub_self] at hx
  obtain ⟨f', rfl⟩ : ∃ f', f = f' + 1 := ⟨f - 1, by omega⟩
  rw [allFrom] at hx h4
  by_cases hn : 0 ≤ (pickM D bs at_ may ps).1
  · rw [if_pos hn] at hx h4
    have hx' : (bitM (pickM D bs at_ may ps).1, (pickM D bs at_ may ps).2) = x := by simpa using hx
    obtain ⟨q1, q2, q3, q4⟩ := pick_pos hn
    refine ⟨hn, hx'.symm, q2, by omega, q3, ?_, f', by omega, ?_⟩
    · rw [endM_snoc, ← hx']
    · rw [h4, hx', List.append_assoc]; rfl
  · rw [if_neg hn] at hx
    simp at hx
theorem CutAt.done {D : Dfa} {bs : List Nat} {may : Nat} {ps : List (Int × Int)} {pre : List (Nat × Int)} {at_ : Int} (h : CutAt D bs may ps pre at_) (hx : (allM D bs may ps).length ≤ pre.length) :
    (pickM D bs at_ may ps).1 = -1 ∧ endM (allM D bs may ps) = at_ ∧ allM D bs may ps = pre := by
  obtain ⟨h1, h2, h3, f, hf, h4⟩ := h
  have he : allFrom D bs may ps f at_ = [] := by
    have := congrArg List.length h4
    rw [List.length_append] at this
    exact List.eq_nil_of_length_eq_zero (by omega)
  rw [he, List.append_nil] at h4
  refine ⟨pick_neg fun hn => ?_, by rw [h4]; exact h3, h4⟩
  obtain ⟨f', rfl⟩ : ∃ f', f = f' + 1 := ⟨f - 1, by omega⟩
  rw [allFrom, if_pos hn] at he
  cases he
end Go.Proofs.YtglflmkkecephaaGreatDoor

namespace Go.Proofs.YtglflmkkecephaaGreatDoor
open Go.RowKit

theorem IntsAt.one (w : World) (z : Int) (g : Nat) (hg : g = w.heap.size) : IntsAt (w.alloc (.cells #[.int .i64 z] 3)) (.slice (some ⟨g, 0, none⟩) 1 1) [z] := by
  subst hg
  exact ⟨w.heap.size, World.ownsRow_lit w #[.int .i64 z] 1 (Nat.le_refl _) (by decide) rfl⟩

set_option maxRecDepth 100000 in
set_option maxHeartbeats 4000000 in
theorem few_any (D : Dfa) (v : Value) (s : ByteArray) (a : Option Addr) (len cap : Nat) (w : World) (h : DfaIn w v D) (htl : D.tags.length ≤ 9223372036854775807) :
    Calls Tryz.prog 16 #[v, .string s, .slice a len cap] w fun e w' => e = .returned (.bool (littleM D && decide (s.size ≤ 40) && decide (len ≤ 40))) ∧ Fr none_ w w' := by
  obtain ⟨R, hR⟩ : ∃ R, (littleM D && decide (s.size ≤ 40) && decide (len ≤ 40)) = R := ⟨_, rfl⟩
  have HR := Lib.hid hR
  rw [hR]
  obtain ⟨C, rfl, hz, hone⟩ := h.cells
  have HD := Lib.hid h
  have B0 := Lib.hid (alloc_new w (.cells C.toArray 26))
  have F0 := Lib.hid ((Fr.refl none_ w).alloc (.cells C.toArray 26))
  clear h hone hR
  go_enter Tryz.func16, Tryz.ntmps16
  go_wp2_with (refine wpList_load_row rfl 26 (.tmp 3) rfl w.heap.size 26 C _ rfl B0.out Tryz.underlying26 rfl (by rw [hz]; exact dfa_info) ?_)
  refine (little_any D _ _ (HD.out.move F0.out) htl).mono ?_
  rintro e w2 ⟨rfl, F1⟩
  have FA := Lib.hid (F0.out.tr F1)
  clear F1
  cases hl : littleM D with
  | false =>
    have HE := Lib.hid (show R = false by rw [← HR.out, hl]; rfl)
    go_wp2_with fail
    go_ret
    exact ⟨by rw [HE.out]; rfl, FA.out⟩
  | true =>
    by_cases h40 : s.size ≤ 40
    · have h4 : (s.size : Int) ≤ 40 := by omega
      by_cases hl40 : len ≤ 40
      · have h5 : (len : Int) ≤ 40 := by omega
        have HE := Lib.hid (show R = true by rw [← HR.out, hl]; simp [h40, hl40])
        go_wp2_with fail
        go_ret
        exact ⟨by rw [HE.out]; rfl, FA.out⟩
      · have h5 : decide ((len : Int) ≤ 40) = false := by simp; omega
        have HE := Lib.hid (show R = false by rw [← HR.out, hl]; simp [hl40])
        go_wp2_with fail
        go_ret
        exact ⟨by rw [HE.out]; rfl, FA.out⟩
    · have h4 : ¬ (s.size : Int) ≤ 40 := by omega
      have HE := Lib.hid (show R = false by rw [← HR.out, hl]; simp [h40])
      go_wp2_with fail
      go_ret
      exact ⟨by rw [HE.out]; rfl, FA.out⟩

set_option maxRecDepth 100000 in
set_option maxHeartbeats 4000000 in
theorem munchcuts_big (D : Dfa) (v : Value) (s : ByteArray) (may : Nat) (a : Option Addr) (len cap : Nat) (w : World) (hD : DfaIn w v D) (htl : D.tags.length ≤ 9223372036854775807) (hl : (littleM D && decide (s.size ≤ 40) && decide (len ≤ 40)) = false) (hp : PowOk w) (hT : TabOk w) :
    Calls Tryz.prog 5 #[v, .string s, .int .u64 (may : Int), .slice a len cap] w fun e w' => e = .returned (.bool true) ∧ Fr none_ w w' := by
  have HL := Lib.hid hl
  clear hl
  obtain ⟨C, rfl, hz, hone⟩ := hD.cells
  have HD0 := Lib.hid hD
  have HP := Lib.hid hp
  have HT := Lib.hid hT
  have B0 := Lib.hid (alloc_new w (.cells C.toArray 26))
  have F0 := Lib.hid ((Fr.refl none_ w).alloc (.cells C.toArray 26))
  clear hD hp hT hone
  go_enter Tryz.func5, Tryz.ntmps5
  go_wp2_with fail
  refine (works7_any _ (HP.out.move F0.out) (HT.out.move F0.out)).mono ?_
  rintro e w1 ⟨rfl, F1⟩
  have B1 := Lib.hid (F1.at_ B0.out (fun h => h))
  have FA := Lib.hid (F0.out.tr F1)
  clear F1 B0 F0
  go_wp2_with (refine wpList_load_row rfl 26 (.tmp 4) rfl w.heap.size 26 C _ rfl B1.out Tryz.underlying26 rfl ?_ ?_; (rw [hz]; exact dfa_info))
  refine (few_any D _ s a len cap _ (HD0.out.move FA.out) htl).mono ?_
  rintro e w2 ⟨rfl, F1⟩
  have FB := Lib.hid (FA.out.tr F1)
  clear F1 B1 FA
  rw [HL.out]
  go_wp2_with fail
  go_ret
  exact ⟨rfl, FB.out⟩

theorem piecesV_get : ∀ (l : List (Nat × Int)) (j : Nat) (p : Nat × Int), l[j]? = some p → (piecesV l)[j * 2]? = some (.int .u64 (p.1 : Int)) ∧ (piecesV l)[j * 2 + 1]? = some (.int .i64 p.2)
  | [], j, p, h => by simp at h
  | q :: l, 0, p, h => by
    simp at h
    subst h
    exact ⟨rfl, rfl⟩
  | q :: l, j + 1, p, h => by
    have ih := piecesV_get l j p (by simpa using h)
    have e : piecesV (q :: l) = .int .u64 (q.1 : Int) :: .int .i64 q.2 :: piecesV l := by simp [piecesV]
    rw [e, show (j + 1) * 2 = j * 2 + 1 + 1 by omega]
    exact ih

set_option maxRecDepth 100000 in
set_option maxHeartbeats 8000000 in
theorem munchcuts_good (D : Dfa) (v : Value) (s : ByteArray) (may : Nat) (ps : List (Int × Int)) (a : Option Addr) (len cap : Nat) (w : World) (hD : DfaIn w v D) (htl : D.tags.length ≤ 9223372036854775807) (htg : ∀ t ∈ D.tags, t < 18446744073709551616) (hmay : may < 18446744073709551616) (hl : (littleM D && decide (s.size ≤ 40) && decide (len ≤ 40)) = true) (h40 : s.size ≤ 40) (hps : PairsIn w a len ps) (hp : PowOk w) (hT : TabOk w) :
    Calls Tryz.prog 5 #[v, .string s, .int .u64 (may : Int), .slice a len cap] w fun e w' => e = .returned (.bool true) ∧ Fr none_ w w' := by
  have HL := Lib.hid hl
  have HTG := Lib.hid htg
  have HPS := Lib.hid hps
  clear hl htg hps
  obtain ⟨C, rfl, hz, hone⟩ := hD.cells
  have HD0 := Lib.hid hD
  have HP := Lib.hid hp
  have HT := Lib.hid hT
  have B0 := Lib.hid (alloc_new w (.cells C.toArray 26))
  have F0 := Lib.hid ((Fr.refl none_ w).alloc (.cells C.toArray 26))
  clear hD hp hT hone
  go_enter Tryz.func5, Tryz.ntmps5
  go_wp2_with fail
  refine (works7_any _ (HP.out.move F0.out) (HT.out.move F0.out)).mono ?_
  rintro e w1 ⟨rfl, F1⟩
  have B1 := Lib.hid (F1.at_ B0.out (fun h => h))
  have FA := Lib.hid (F0.out.tr F1)
  clear F1 B0 F0
  go_wp2_with (refine wpList_load_row rfl 26 (.tmp 4) rfl w.heap.size 26 C _ rfl B1.out Tryz.underlying26 rfl ?_ ?_; (rw [hz]; exact dfa_info))
  refine (few_any D _ s a len cap _ (HD0.out.move FA.out) htl).mono ?_
  rintro e w2 ⟨rfl, F1⟩
  have B2 := Lib.hid (F1.at_ B1.out (fun h => h))
  have FB := Lib.hid (FA.out.tr F1)
  clear F1 B1 FA
  rw [HL.out]
  go_wp2_with (refine wpList_load_row rfl 26 (.tmp 4) rfl w.heap.size 26 C _ rfl B2.out Tryz.underlying26 rfl ?_ ?_; (rw [hz]; exact dfa_info))
  refine (all_any D _ s may ps a len cap _ (HD0.out.move FB.out) HTG.out hmay (by omega) (HPS.out.move FB.out) (HT.out.move FB.out)).mono ?_
  rintro e w3 ⟨u, base, rfl, hown, _, F1⟩
  have B3 := Lib.hid (F1.at_ B2.out (fun h => h))
  have FC := Lib.hid (FB.out.tr F1)
  have hbs : (bytesN s).length = s.size := bytesN_length s
  have HCUT := Lib.hid (fun (pre : List (Nat × Int)) (at_ : Int) (h : CutAt D (bytesN s) may ps pre at_) => h.done)
  have HNEXT := Lib.hid (fun (pre : List (Nat × Int)) (at_ : Int) (x : Nat × Int) (h : CutAt D (bytesN s) may ps pre at_) (hx : (allM D (bytesN s) may ps)[pre.length]? = some x) => h.next hx)
  have HBND := Lib.hid (fun (pre : List (Nat × Int)) (at_ : Int) (h : CutAt D (bytesN s) may ps pre at_) => (show 0 ≤ at_ ∧ at_ ≤ s.size from ⟨h.1, by have := h.2.1; rw [hbs] at this; exact this⟩))
  have hstart := CutAt.start D (bytesN s) may ps
  obtain ⟨Z, hZ⟩ : ∃ Z, CutAt D (bytesN s) may ps = Z := ⟨_, rfl⟩
  rw [hZ] at HCUT HNEXT HBND hstart
  have HSTART := Lib.hid hstart
  obtain ⟨L, hL⟩ : ∃ L, allM D (bytesN s) may ps = L := ⟨_, rfl⟩
  rw [hL] at hown HCUT HNEXT ⊢
  obtain ⟨E, hE⟩ : ∃ E, endM L = E := ⟨_, rfl⟩
  rw [hE] at HCUT ⊢
  obtain ⟨N, hN⟩ : ∃ N, L.length = N := ⟨_, rfl⟩
  rw [hN] at hown HCUT
  have HN := Lib.hid hN
  obtain ⟨la, lcap, rfl, _⟩ := ownsRow_slice hown
  have HOW := Lib.hid hown
  clear F1 B2 FB hown hZ hL hE hN hstart hbs
  go_wp2_with fail
  go_loopw [13, 14] (fun x13 x14 wr => ∃ (i : Nat) (at_ : Int), i ≤ N ∧ x14 = .int .i64 i ∧ x13 = .int .i64 at_ ∧ Aside (Z (L.take i) at_) ∧ Aside (Fr none_ w3 wr)) (fun _ x14 _ => N - (intOf x14).toNat)
  case atStart => exact ⟨0, 0, Nat.zero_le _, rfl, rfl, HSTART.out, Fr.refl _ _⟩
  case round =>
    obtain ⟨i, at_, hi', rfl, rfl, h1', h2'⟩ := hrel
    have HZ := Lib.hid h1'.out
    have HF := Lib.hid h2'.out
    clear h1' h2' HSTART
    have hi0 : (0 : Int) ≤ (i : Int) := by omega
    have hti : (L.take i).length = i := by rw [List.length_take, HN.out]; omega
    have B4 := Lib.hid (HF.out.at_ B3.out (fun h => h))
    have FD := Lib.hid (FC.out.tr HF.out)
    by_cases hlt : i < N
    case neg =>
      have hil : ¬ (i : Int) < (N : Int) := by omega
      obtain ⟨q1, q2, _⟩ := HCUT.out _ _ HZ.out (by rw [hti]; omega)
      obtain ⟨q3, q4⟩ := HBND.out _ _ HZ.out
      subst q2
      obtain ⟨⟨n, to⟩, hP⟩ : ∃ P, pickM D (bytesN s) E may ps = P := ⟨_, rfl⟩
      rw [hP] at q1
      obtain rfl : n = -1 := q1
      have HPE := Lib.hid hP
      clear hP hti q3
      go_wp2_with fail
      refine wp_load_mid 26 _ rfl w.heap.size 0 rfl C _ (range_of B4.out) Tryz.underlying26 rfl (by rw [hz]; exact dfa_info) ?_
      go_wp2_with fail
      refine (pick_any D _ s E may ps a len cap _ (HD0.out.move FD.out) HTG.out hmay (by omega) (HPS.out.move FD.out) (HT.out.move FD.out)).mono ?_
      rintro e w4 ⟨rfl, F1⟩
      rw [HPE.out]
      have FE := Lib.hid (FD.out.tr F1)
      clear F1
      go_wp2_with fail
      go_ret
      exact ⟨rfl, FE.out⟩
    case pos =>
      have hil : (i : Int) < (N : Int) := by omega
      obtain ⟨x, hx⟩ : ∃ x, L[i]? = some x := ⟨_, List.getElem?_eq_getElem (by rw [HN.out]; exact hlt)⟩
      obtain ⟨r1, r2, r3, r4⟩ := HNEXT.out _ _ x HZ.out (by rw [hti]; exact hx)
      have HTK := Lib.hid (show L.take (i + 1) = L.take i ++ [x] by rw [List.take_add_one, hx]; rfl)
      obtain ⟨p1, p2⟩ := piecesV_get L i x hx
      rcases HOW.out.2 with ⟨_, h0⟩ | ⟨gl, cap', cur, hsl, _, _, hcp1, hcp2, _⟩
      · omega
      have hNb : N ≤ 9223372036854775807 := by have e : maxLen = 9223372036854775807 := rfl; omega
      injection hsl with hsl hs2 hs3
      subst hsl
      subst hs3
      clear hs2
      have c1 := (row_keep HOW.out HF.out (fun _ _ h => h)).cells rfl _ _ p1
      have c2 := (row_keep HOW.out HF.out (fun _ _ h => h)).cells rfl _ _ p2
      obtain ⟨⟨n, to⟩, hP⟩ : ∃ P, pickM D (bytesN s) at_ may ps = P := ⟨_, rfl⟩
      rw [hP] at r1 r2 r3 r4
      have r1 : 0 ≤ n := r1
      have r3 : at_ < to := r3
      subst r2
      have HZ2 := Lib.hid (show Z (L.take (i + 1)) to by rw [HTK.out]; exact r4)
      have HPE := Lib.hid hP
      clear hP hti hx r4 p1 p2
      go_wp2_with fail
      refine wp_load_mid 26 _ rfl w.heap.size 0 rfl C _ (range_of B4.out) Tryz.underlying26 rfl (by rw [hz]; exact dfa_info) ?_
      go_wp2_with fail
      refine (pick_any D _ s at_ may ps (a := a) len cap _ (HD0.out.move FD.out) HTG.out hmay (by omega) (HPS.out.move FD.out) (HT.out.move FD.out)).mono ?_
      rintro e w4 ⟨rfl, F1⟩
      rw [HPE.out]
      have FE := Lib.hid (HF.out.tr F1)
      rw [Addr.add_mid] at c1 c2
      obtain ⟨M, hM⟩ : ∃ M, bitM n = M := ⟨_, rfl⟩
      have HM2 := Lib.hid (show setM [n] = M by rw [← hM]; simp [setM])
      rw [hM] at c1
      replace c1 := cell_move F1 c1
      replace c2 := cell_move F1 c2
      clear F1 hM
      have g1 : decide (n < 0) = false := by simp; omega
      have g2 : ((M : Int) != (M : Int)) = false := by simp
      have g3 : (to != to) = false := by simp
      have g4 : decide (to ≤ at_) = false := by simp; omega
      go_wp2_with fail
      have G0 : Fr none_ w4 w4.drew := (Fr.refl none_ w4).drew
      have HSX := Lib.hid (show ∀ wx, Fr none_ w4 wx → wx.cell? ⟨gl, i * 2, none⟩ = some (.int .u64 (M : Int)) ∧ wx.cell? ⟨gl, i * 2 + 1, none⟩ = some (.int .i64 to) from fun wx hf => ⟨by have := cell_move hf c1; rwa [Nat.zero_add] at this, by have := cell_move hf c2; rwa [Nat.zero_add] at this⟩)
      rw [Nat.zero_add] at c1 c2
      have HI1 := Lib.hid (show IntsAt (w4.alloc (.cells #[.int .i64 n] 3)).drew (.slice (some ⟨w4.heap.size, 0, none⟩) 1 1) [n] from IntsAt.one w4 n _ rfl)
      go_region_held3 (fun w' => w'.cell? ⟨gl, i * 2, none⟩ = some (.int .u64 (M : Int)) ∧ w'.cell? ⟨gl, i * 2 + 1, none⟩ = some (.int .i64 to)) (first | exact HSX.out _ G0 | exact HSX.out _ ((Fr.refl none_ w4).alloc _).drew) (first
        | (go_at_call 24; refine (bitsOf_any (some ⟨w4.heap.size, 0, none⟩) 1 1 [n] _ HI1.out rfl (by decide)).mono ?_; rintro e wx ⟨rfl, rfl⟩; rw [HM2.out]))
      all_goals
        go_wp2_with fail
        go_roundw
        case rel => exact ⟨i + 1, to, by omega, by go_num, rfl, HZ2.out, FE.out.tr ((Fr.refl none_ w4).alloc _).drew⟩
        case measure => simp [intOf]; omega

theorem munchcuts_any (v : Value) (D : Dfa) (s : ByteArray) (may : Int) (a : Option Addr) (len cap : Nat) (ps : List (Int × Int)) (w : World) (h : DfaIn w v D ∧ (∀ t ∈ D.tags, t < 18446744073709551616) ∧ (∀ r ∈ D.next, ∀ z ∈ r, intDom z) ∧ D.tags.length ≤ 9223372036854775807) (hs : s.size ≤ 140737488351232) (h3 : 0 ≤ may ∧ may ≤ 18446744073709551615) (hps : PairsAt w a len ps ∧ len ≤ 9223372036854775807) (hT : TabOk w) (hp : PowOk w) :
    Calls Tryz.prog 5 #[v, .string s, .int .u64 may, .slice a len cap] w fun e w' => e = .returned (.bool true) ∧ Below w.heap.size w w' := by
  obtain ⟨hD, htg, _, htl⟩ := h
  obtain ⟨m, rfl⟩ := Int.eq_ofNat_of_zero_le h3.1
  have key : Calls Tryz.prog 5 #[v, .string s, .int .u64 (m : Int), .slice a len cap] w fun e w' => e = .returned (.bool true) ∧ Fr none_ w w' := by
    cases hl : (littleM D && decide (s.size ≤ 40) && decide (len ≤ 40)) with
    | false => exact munchcuts_big D v s m a len cap w hD htl hl hp hT
    | true =>
      have h1 := hl
      simp only [Bool.and_eq_true, decide_eq_true_eq] at h1
      exact munchcuts_good D v s m ps a len cap w hD htl htg (by omega) hl (by omega) (hps.1.few (by omega)) hp hT
  exact key.mono fun e w' h => ⟨h.1, h.2.below⟩
end Go.Proofs.YtglflmkkecephaaGreatDoor
