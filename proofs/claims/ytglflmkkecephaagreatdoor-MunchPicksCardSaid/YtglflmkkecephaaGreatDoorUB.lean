/-
  munch.Longest: plain, and the walk.
  munch.Win: plain, and the walk.
  munch.Win: the walk.
  munch.Pick: plain, and the walk.
  munch.each: all pieces; plain, and the walk of the iterator.
-/
import Derived.Test.YtglflmkkecephaaGreatDoorUA
import Derived.Test.YtglflmkkecephaaGreatDoorMD
namespace Go.Proofs.YtglflmkkecephaaGreatDoor set_option linter.unusedVariables false set_option linter.unusedSimpArgs false
open Go.RowKit

/-- The longest piece, among those of no more than d bytes. -/
def longTo (D : Dfa) (bs : List Nat) (a may : Nat) : Nat → Nat × Nat
  | 0 => (0, a)
  | d + 1 => if runD D ((bs.drop a).take (d + 1)) &&& may = 0 then longTo D bs a may d else (runD D ((bs.drop a).take (d + 1)) &&& may, a + d + 1)
def longM (D : Dfa) (bs : List Nat) (at_ : Int) (may : Nat) : Nat × Int := if 0 ≤ at_ ∧ at_ < bs.length then ((longTo D bs at_.toNat may (bs.length - at_.toNat)).1, ((longTo D bs at_.toNat may (bs.length - at_.toNat)).2 : Int)) else (0, at_)
theorem go_neg (D : Dfa) {a : Int} (h : a < 0) (b : Nat) : goM D a b = -1 := by unfold goM; simp [h]
theorem atD_neg (D : Dfa) : ∀ (bs : List Nat) {a : Int}, a < 0 → atD D a bs < 0 := by
  intro bs
  induction bs with
  | nil => exact fun h => h
  | cons b bs ih =>
    intro a h
    show atD D (goM D a b) bs < 0
    rw [go_neg D h]
    exact ih (by decide)
theorem atD_app (D : Dfa) (a : Int) (x y : List Nat) : atD D a (x ++ y) = atD D (atD D a x) y := by simp [atD]
theorem tag_neg (D : Dfa) {a : Int} (h : a < 0) : tagD D a = 0 := by unfold tagD; rw [if_pos (.inl h)]
theorem long_dead (D : Dfa) (bs : List Nat) (a may d : Nat) (h : atD D 0 ((bs.drop a).take d) < 0) : ∀ e, longTo D bs a may (d + e) = longTo D bs a may d := by
  intro e
  induction e with
  | zero => rfl
  | succ e ih =>
    rw [show d + (e + 1) = (d + e) + 1 by omega, longTo]
    have h1 : runD D ((bs.drop a).take (d + e + 1)) = 0 := by
      have h2 : (bs.drop a).take (d + e + 1) = (bs.drop a).take d ++ ((bs.drop a).drop d).take (e + 1) := by
        rw [show d + e + 1 = d + (e + 1) by omega, List.take_add]
      rw [runD, h2, atD_app]
      exact tag_neg D (atD_neg D _ h)
    rw [h1]
    simp only [Nat.zero_and, if_true]
    exact ih
theorem bytesN_at (s : ByteArray) {i : Nat} (h : i < s.size) : (bytesN s)[i]? = some (byteAt s i) := by
  have h1 := bytesN_take s i h
  have hl : ((bytesN s).take i).length = i := by rw [List.length_take, bytesN_length]; omega
  have h2 : ((bytesN s).take (i + 1))[i]? = some (byteAt s i) := by
    rw [h1, List.getElem?_append_right (by omega), hl, Nat.sub_self]; rfl
  rwa [List.getElem?_take_of_lt (by omega)] at h2
theorem cut_step {s : ByteArray} {a i : Nat} (h : i < s.size) (hai : a ≤ i) : ((bytesN s).drop a).take (i - a + 1) = ((bytesN s).drop a).take (i - a) ++ [byteAt s i] := by
  rw [List.take_add_one]
  congr 1
  rw [List.getElem?_drop, show a + (i - a) = i by omega, bytesN_at s h]; rfl
theorem piece_info : (Tryz.prog.info? 43).map (·.size) = some 2 := by kernel_rfl

/-- Within the loop. -/
structure LgSt (w wr : World) (b : Nat) (C : List Value) (m to : Nat) : Prop where
  box : wr.heap[b]? = some (.cells C.toArray 26 (0, 0))
  res : wr.heap[b + 1]? = some (.cells #[.int .u64 0, .int .i64 0] 43 (0, 0))
  out : wr.heap[b + 1 + 1]? = some (.cells #[.int .u64 (m : Int), .int .i64 (to : Int)] 43 (0, 0))
  fr : Fr none_ w wr
  base : w.heap.size ≤ b
theorem LgSt.move {w wr wx : World} {b : Nat} {C : List Value} {m to : Nat} (h : LgSt w wr b C m to) (hf : Fr none_ wr wx) : LgSt w wx b C m to :=
  ⟨hf.at_ h.box (fun h => h), hf.at_ h.res (fun h => h), hf.at_ h.out (fun h => h), h.fr.tr hf, h.base⟩

theorem lg_end {wr : World} {b : Nat} {x y : Value} {t : TypeId} (h : wr.heap[b]? = some (.cells #[x, y] t (0, 0))) (p q : Value) : ((wr.setCell ⟨b, 0, none⟩ p).setCell ⟨b, 1, none⟩ q).heap[b]? = some (.cells #[p, q] t (0, 0)) := by
  have h1 := heap_setCell wr h 0 p
  have h2 := heap_setCell _ h1 1 q
  exact h2
theorem LgSt.put {w wr : World} {b : Nat} {C : List Value} {m to : Nat} (h : LgSt w wr b C m to) (m' to' : Nat) : LgSt w ((wr.setCell ⟨b + 1 + 1, 0, none⟩ (.int .u64 (m' : Int))).setCell ⟨b + 1 + 1, 1, none⟩ (.int .i64 (to' : Int))) b C m' to' := by
  have other : ∀ k, k ≠ b + 1 + 1 → ((wr.setCell ⟨b + 1 + 1, 0, none⟩ (.int .u64 (m' : Int))).setCell ⟨b + 1 + 1, 1, none⟩ (.int .i64 (to' : Int))).heap[k]? = wr.heap[k]? := fun k hk => by
    rw [Below.heap_setCell _ _ _ k hk, Below.heap_setCell _ _ _ k hk]
  refine ⟨(other _ (by omega)).trans h.box, (other _ (by omega)).trans h.res, lg_end h.out _ _, ?_, h.base⟩
  exact (h.fr.setCell (p := ⟨b + 1 + 1, 0, none⟩) (.inr (by have := h.base; show w.heap.size ≤ b + 1 + 1; omega)) _).setCell (p := ⟨b + 1 + 1, 1, none⟩) (.inr (by have := h.base; show w.heap.size ≤ b + 1 + 1; omega)) _

set_option maxRecDepth 100000 in
set_option maxHeartbeats 4000000 in
theorem longest_out (D : Dfa) (v : Value) (s : ByteArray) (at_ : Int) (may : Nat) (w : World) (h : DfaIn w v D) (hs : s.size < 4611686018427387904) (hat : ¬ (0 ≤ at_ ∧ at_ < s.size)) :
    Calls Tryz.prog 17 #[v, .string s, .int .i64 at_, .int .u64 may] w fun e w' => e = .returned (.agg #[.int .u64 0, .int .i64 at_]) ∧ Fr none_ w w' := by
  obtain ⟨C, rfl, hz, hone⟩ := h.cells
  have HF := Lib.hid ((Fr.refl none_ w).alloc (.cells C.toArray 26))
  clear h hone
  obtain ⟨wa, hwa⟩ : ∃ x, (((w.alloc (.cells C.toArray 26)).alloc (.cells #[.int .u64 0, .int .i64 0] 43)).alloc (.cells #[.int .u64 0, .int .i64 at_] 43)) = x := ⟨_, rfl⟩
  have HWA := Lib.hid hwa
  have HAL := Lib.hid (alloc3 w (.cells C.toArray 26) (.cells #[.int .u64 0, .int .i64 0] 43) (.cells #[.int .u64 0, .int .i64 at_] 43))
  clear hwa
  have hcase : at_ < 0 ∨ (0 ≤ at_ ∧ (s.size : Int) ≤ at_) := by omega
  clear hat
  go_enter Tryz.func17, Tryz.ntmps17
  go_wp2_with fail
  rw [HWA.out]
  rw [HWA.out] at HAL
  go_loopw [10, 11] (fun x10 x11 wr => x10 = .int .i64 0 ∧ x11 = .int .i64 at_ ∧ Aside (wr = wa)) (fun _ x11 _ => 0)
  case atStart => exact ⟨rfl, rfl, rfl⟩
  case round =>
    obtain ⟨rfl, rfl, h'⟩ := hrel
    obtain rfl := h'.out
    clear h'
    obtain ⟨hfr, hb0, hb1, hb2⟩ := HAL.out
    have g0 : wr.cell? ⟨w.heap.size + 1 + 1, 0, none⟩ = some (.int .u64 0) := cell_of_block hb2 rfl
    have g1 : wr.cell? ⟨w.heap.size + 1 + 1, 1, none⟩ = some (.int .i64 at_) := cell_of_block hb2 rfl
    have g2 : wr.cell? ⟨w.heap.size + 1, 0, none⟩ = some (.int .u64 0) := cell_of_block hb1 rfl
    have g3 : wr.cell? ⟨w.heap.size + 1, 1, none⟩ = some (.int .i64 0) := cell_of_block hb1 rfl
    have g4 : wr.frozen? ⟨w.heap.size + 1, 0, none⟩ = false := free_of_block hb1
    have g5 : wr.frozen? ⟨w.heap.size + 1, 1, none⟩ = false := free_of_block hb1
    have HB1 := Lib.hid hb1
    have HFR := Lib.hid hfr
    clear hfr hb0 hb1 hb2
    rcases hcase with hc | ⟨hc, hc2⟩
    · have hn : ¬ (0 : Int) ≤ at_ := by omega
      go_wp2_with fail
      refine bodyPost_ret (results_cell_row rfl _ _ (w.heap.size + 1) _ _ _ _ rfl (lg_end HB1.out _ _) Tryz.underlying43 rfl piece_info) rfl ?_
      exact ⟨rfl, (HFR.out.setCell (p := ⟨w.heap.size + 1, 0, none⟩) (.inr (by show w.heap.size ≤ w.heap.size + 1; omega)) _).setCell (p := ⟨w.heap.size + 1, 1, none⟩) (.inr (by show w.heap.size ≤ w.heap.size + 1; omega)) _⟩
    · have hn : ¬ at_ < (s.size : Int) := by omega
      go_wp2_with fail
      refine bodyPost_ret (results_cell_row rfl _ _ (w.heap.size + 1) _ _ _ _ rfl (lg_end HB1.out _ _) Tryz.underlying43 rfl piece_info) rfl ?_
      exact ⟨rfl, (HFR.out.setCell (p := ⟨w.heap.size + 1, 0, none⟩) (.inr (by show w.heap.size ≤ w.heap.size + 1; omega)) _).setCell (p := ⟨w.heap.size + 1, 1, none⟩) (.inr (by show w.heap.size ≤ w.heap.size + 1; omega)) _⟩

theorem tag_of {D : Dfa} {z : Nat} {j : Nat} (hj : j < D.next.length) (hz : D.tags[j]? = some z) : tagD D (j : Int) = z := by
  have h1 := (List.getElem?_eq_some_iff.1 hz).1
  unfold tagD
  rw [if_neg (by
    rintro (h | h)
    · omega
    · have : (Nat.min D.tags.length D.next.length : Int) = ((min D.tags.length D.next.length : Nat) : Int) := rfl
      rw [this] at h
      omega)]
  rw [Int.toNat_natCast, List.getD, hz]; rfl
theorem tag_off {D : Dfa} {a : Int} (h : (D.tags.length : Int) ≤ a) : tagD D a = 0 := by
  unfold tagD
  rw [if_pos (.inr (by
    have : (Nat.min D.tags.length D.next.length : Int) = ((min D.tags.length D.next.length : Nat) : Int) := rfl
    rw [this]
    omega))]

set_option maxRecDepth 100000 in
set_option maxHeartbeats 4000000 in
theorem longest_in (D : Dfa) (v : Value) (s : ByteArray) (a : Nat) (may : Nat) (w : World) (h : DfaIn w v D) (ht : ∀ t ∈ D.tags, t < 18446744073709551616) (hmay : may < 18446744073709551616) (hs : s.size < 4611686018427387904) (has : a < s.size) :
    Calls Tryz.prog 17 #[v, .string s, .int .i64 (a : Int), .int .u64 may] w fun e w' => e = .returned (.agg #[.int .u64 ((longTo D (bytesN s) a may (s.size - a)).1 : Nat), .int .i64 ((longTo D (bytesN s) a may (s.size - a)).2 : Nat)]) ∧ Fr none_ w w' := by
  obtain ⟨C, na, ta, ncap, tcap, rfl, hz, h256, h257, hrow, htag⟩ := h.all
  have HD := Lib.hid h
  have H257 := Lib.hid h257
  have HTAG := Lib.hid htag
  have HTB := Lib.hid ht
  obtain ⟨wa, hwa⟩ : ∃ x, (((w.alloc (.cells C.toArray 26)).alloc (.cells #[.int .u64 0, .int .i64 0] 43)).alloc (.cells #[.int .u64 0, .int .i64 (a : Int)] 43)) = x := ⟨_, rfl⟩
  have HWA := Lib.hid hwa
  have HAL := Lib.hid (alloc3 w (.cells C.toArray 26) (.cells #[.int .u64 0, .int .i64 0] 43) (.cells #[.int .u64 0, .int .i64 (a : Int)] 43))
  obtain ⟨R, hR⟩ : ∃ R, longTo D (bytesN s) a may (s.size - a) = R := ⟨_, rfl⟩
  have HR := Lib.hid hR
  rw [hR]
  clear hwa h h256 h257 hrow htag ht hR
  go_enter Tryz.func17, Tryz.ntmps17
  go_wp2_with fail
  rw [HWA.out]
  rw [HWA.out] at HAL
  obtain ⟨b, hb⟩ : ∃ b, w.heap.size = b := ⟨_, rfl⟩
  have HB := Lib.hid hb
  have HS0 := Lib.hid (show LgSt w wa b C 0 a from by
    obtain ⟨q1, q2, q3, q4⟩ := HAL.out
    rw [hb] at q2 q3 q4
    exact ⟨q2, q3, q4, q1, by omega⟩)
  rw [hb]
  clear HAL HWA hb
  go_loopw [10, 11] (fun x10 x11 wr => ∃ (i : Nat) (st : Int) (m to : Nat), a ≤ i ∧ i ≤ s.size ∧ x11 = .int .i64 i ∧ x10 = .int .i64 st ∧ Aside (atD D 0 (((bytesN s).drop a).take (i - a)) = st ∧ longTo D (bytesN s) a may (i - a) = (m, to)) ∧ Aside (LgSt w wr b C m to)) (fun _ x11 _ => s.size - (intOf x11).toNat)
  case atStart => exact ⟨a, 0, 0, a, Nat.le_refl _, by omega, rfl, rfl, ⟨by rw [Nat.sub_self]; rfl, by rw [Nat.sub_self]; rfl⟩, HS0.out⟩
  case round =>
    obtain ⟨i, st, m, to, hai, his, rfl, rfl, h1', h2'⟩ := hrel
    have HAT := Lib.hid h1'.out.1
    have HLO := Lib.hid h1'.out.2
    have HST := Lib.hid h2'.out
    clear h1' h2' HS0
    have hi0 : (0 : Int) ≤ (i : Int) := by omega
    by_cases hgo : i < s.size ∧ 0 ≤ st
    case neg =>
      have HEND := Lib.hid (show R = (m, to) by
        rw [← HR.out]
        by_cases hlt : i < s.size
        · have hneg : st < 0 := by have : ¬ 0 ≤ st := fun h => hgo ⟨hlt, h⟩; omega
          have := long_dead D (bytesN s) a may (i - a) (by rw [HAT.out]; exact hneg) (s.size - i)
          rw [show i - a + (s.size - i) = s.size - a by omega] at this
          rw [this, HLO.out]
        · rw [show s.size - a = i - a by omega, HLO.out])
      have g0 : wr.cell? ⟨b + 1 + 1, 0, none⟩ = some (.int .u64 (m : Int)) := cell_of_block HST.out.out rfl
      have g1 : wr.cell? ⟨b + 1 + 1, 1, none⟩ = some (.int .i64 (to : Int)) := cell_of_block HST.out.out rfl
      have g2 : wr.cell? ⟨b + 1, 0, none⟩ = some (.int .u64 0) := cell_of_block HST.out.res rfl
      have g3 : wr.cell? ⟨b + 1, 1, none⟩ = some (.int .i64 0) := cell_of_block HST.out.res rfl
      have g4 : wr.frozen? ⟨b + 1, 0, none⟩ = false := free_of_block HST.out.res
      have g5 : wr.frozen? ⟨b + 1, 1, none⟩ = false := free_of_block HST.out.res
      have hbase := HST.out.base
      by_cases hlt : i < s.size
      case pos =>
        have hil : (i : Int) < (s.size : Int) := by omega
        have hsn : ¬ (0 : Int) ≤ st := fun h => hgo ⟨hlt, h⟩
        clear hgo
        go_wp2_with fail
        refine bodyPost_ret (results_cell_row rfl _ _ (b + 1) _ _ _ _ rfl (lg_end HST.out.res _ _) Tryz.underlying43 rfl piece_info) rfl ?_
        exact ⟨by rw [HEND.out], (HST.out.fr.setCell (p := ⟨b + 1, 0, none⟩) (.inr (by show w.heap.size ≤ b + 1; omega)) _).setCell (p := ⟨b + 1, 1, none⟩) (.inr (by show w.heap.size ≤ b + 1; omega)) _⟩
      case neg =>
        have hil : ¬ (i : Int) < (s.size : Int) := by omega
        clear hgo
        go_wp2_with fail
        refine bodyPost_ret (results_cell_row rfl _ _ (b + 1) _ _ _ _ rfl (lg_end HST.out.res _ _) Tryz.underlying43 rfl piece_info) rfl ?_
        exact ⟨by rw [HEND.out], (HST.out.fr.setCell (p := ⟨b + 1, 0, none⟩) (.inr (by show w.heap.size ≤ b + 1; omega)) _).setCell (p := ⟨b + 1, 1, none⟩) (.inr (by show w.heap.size ≤ b + 1; omega)) _⟩
    case pos =>
      obtain ⟨hlt, hs0⟩ := hgo
      have hil : (i : Int) < (s.size : Int) := by omega
      have hbl := byteAt_lt s i
      have HBE := Lib.hid (byteAt_eq s i hlt)
      have HAT2 := Lib.hid (show atD D 0 (((bytesN s).drop a).take (i + 1 - a)) = goM D st (byteAt s i) by
        rw [show i + 1 - a = i - a + 1 by omega, cut_step hlt hai, atD_snoc, HAT.out])
      have HL2 := Lib.hid (show longTo D (bytesN s) a may (i + 1 - a) = if tagD D (goM D st (byteAt s i)) &&& may = 0 then (m, to) else (tagD D (goM D st (byteAt s i)) &&& may, i + 1) by
        have e : ((bytesN s).drop a).take (i - a + 1) = ((bytesN s).drop a).take (i + 1 - a) := by rw [show i + 1 - a = i - a + 1 by omega]
        rw [show i + 1 - a = i - a + 1 by omega, longTo, e, runD, HAT2.out, HLO.out, show a + (i - a) + 1 = i + 1 by omega])
      have hgr := go_range D st (byteAt s i)
      go_wp2_with fail
      refine wp_region_held_drew (S := fun w' => w'.rangeAt b 0 C) (by kernel_rfl) (range_of ((Fr.refl none_ wr).drew.at_ HST.out.box (fun h => h))) (fun hHeld => ?_)
      refine wpAnyH_take (i := 0) lot0 (by kernel_rfl) (by kernel_rfl) (by kernel_rfl) (fun _ _ _ h => h) (yieldsIf_load_mid (by rfl) _ _ rfl _ _ rfl C _ (fun _ h => h) Tryz.underlying26 rfl (by rw [hz]; exact dfa_info)) (by assumption) ?_
      try simp only [Act.put, List.setIfInBounds_toArray, List.set_cons_zero, List.set_cons_succ]
      refine wpAnyH_take (i := 1) (v := ?_) lot1 (by kernel_rfl) (by kernel_rfl) (by kernel_rfl) (fun _ _ _ h => h) (Or.inl ⟨by rfl, ?_⟩) (by assumption) ?_
      rotate_left
      · (intro w hSw; (try dsimp only at hSw); go_simp) <;> with_reducible rfl
      try simp only [Act.put, List.setIfInBounds_toArray, List.set_cons_zero, List.set_cons_succ]
      refine wpAnyH_take (i := 2) (v := ?_) lot2 (by kernel_rfl) (by kernel_rfl) (by kernel_rfl) (fun _ _ _ h => h) (Or.inl ⟨by rfl, ?_⟩) (by assumption) ?_
      rotate_left
      · (intro w hSw; (try dsimp only at hSw); go_simp) <;> with_reducible rfl
      try simp only [Act.put, List.setIfInBounds_toArray, List.set_cons_zero, List.set_cons_succ]
      refine wpAnyH_take (i := 3) (v := ?_) lot3 (by kernel_rfl) (by kernel_rfl) (by kernel_rfl) (fun _ _ _ h => h) (Or.inl ⟨by rfl, ?_⟩) (by assumption) ?_
      rotate_left
      · (intro w hSw; (try dsimp only at hSw); go_simp) <;> with_reducible rfl
      try simp only [Act.put, List.setIfInBounds_toArray, List.set_cons_zero, List.set_cons_succ]
      refine wpAnyH_take (i := 4) (v := ?_) lot4 (by kernel_rfl) (by kernel_rfl) (by kernel_rfl) (fun _ _ _ h => h) (Or.inl ⟨by rfl, ?_⟩) (by assumption) ?_
      rotate_left
      · (intro w hSw; (try dsimp only at hSw); go_simp) <;> with_reducible rfl
      try simp only [Act.put, List.setIfInBounds_toArray, List.set_cons_zero, List.set_cons_succ]
      refine wpAnyH_ready (rs := [5]) (by kernel_rfl) (by simp) ?_
      refine AllReadyH.cons lot5 (fun K hK => ?_) AllReadyH.nil
      go_simp
      go_at_call 39
      rw [HBE.out]
      refine (dgo_any D _ st (byteAt s i) _ (HD.out.move (HST.out.fr.drew)) hbl).mono ?_
      rintro e wx ⟨rfl, Fx⟩
      have Gx := Lib.hid (((Fr.refl none_ wr).drew).tr Fx)
      clear Fx
      refine hK.out _ _ (range_of (Gx.out.at_ HST.out.box (fun h => h))) (fun hHeld => ?_)
      clear hK K
      try simp only [Act.put, List.setIfInBounds_toArray, List.set_cons_zero, List.set_cons_succ]
      refine wpAnyH_take (i := 6) (v := ?_) lot6 (by kernel_rfl) (by kernel_rfl) (by kernel_rfl) (fun _ _ _ h => h) (Or.inl ⟨by rfl, ?_⟩) (by assumption) ?_
      rotate_left
      · (intro w hSw; (try dsimp only at hSw); go_simp) <;> with_reducible rfl
      try simp only [Act.put, List.setIfInBounds_toArray, List.set_cons_zero, List.set_cons_succ]
      refine wpAnyH_done (by kernel_rfl) ?_ _
      have HSX := Lib.hid (HST.out.move Gx.out)
      have k1 : wx.cell? ⟨b, 257, none⟩ = some (.slice ta D.tags.length tcap) := cell_of_block HSX.out.box (by simpa using H257.out)
      obtain ⟨q, hq⟩ : ∃ q, goM D st (byteAt s i) = q := ⟨_, rfl⟩
      rw [hq] at HAT2 HL2 hgr ⊢
      clear hq HST
      by_cases hq0 : q < 0
      case pos =>
        have HN := Lib.hid (show longTo D (bytesN s) a may (i + 1 - a) = (m, to) by rw [HL2.out, tag_neg D hq0]; simp)
        go_wp2_with fail
        go_roundw
        case rel => exact ⟨i + 1, q, m, to, by omega, by omega, by go_num, rfl, ⟨HAT2.out, HN.out⟩, HSX.out⟩
        case measure => simp [intOf]; omega
      case neg =>
        by_cases hqt : (D.tags.length : Int) ≤ q
        case pos =>
          have HN := Lib.hid (show longTo D (bytesN s) a may (i + 1 - a) = (m, to) by rw [HL2.out, tag_off hqt]; simp)
          go_wp2_with fail
          go_roundw
          case rel => exact ⟨i + 1, q, m, to, by omega, by omega, by go_num, rfl, ⟨HAT2.out, HN.out⟩, HSX.out⟩
          case measure => simp [intOf]; omega
        case neg =>
          obtain ⟨p, rfl⟩ := Int.eq_ofNat_of_zero_le (show 0 ≤ q by omega)
          have hpn : p < D.next.length := by omega
          have hpt : p < D.tags.length := by omega
          have hp0 : (0 : Int) ≤ (p : Int) := by omega
          have hp1 : (p : Int) < (D.tags.length : Int) := by omega
          obtain ⟨z, hz2⟩ : ∃ z, D.tags[p]? = some z := ⟨_, List.getElem?_eq_getElem hpt⟩
          have hzl : z < 18446744073709551616 := HTB.out z (List.mem_of_getElem? hz2)
          obtain ⟨td, rfl, hc2⟩ := HTAG.out p z hz2
          have k2 : wx.cell? (td.add p) = some (.int .u64 (z : Int)) := cell_move HSX.out.fr hc2
          rw [tag_of hpn hz2] at HL2
          clear hz2 hc2
          go_wp2_with fail
          refine (meet_any z may _ hzl hmay).mono ?_
          rintro e wy ⟨rfl, rfl⟩
          obtain ⟨m2, hm2⟩ : ∃ m2, z &&& may = m2 := ⟨_, rfl⟩
          rw [hm2] at HL2 ⊢
          clear hm2
          by_cases hm0 : m2 = 0
          case pos =>
            subst hm0
            have HN := Lib.hid (show longTo D (bytesN s) a may (i + 1 - a) = (m, to) by rw [HL2.out]; simp)
            go_wp2_with fail
            go_roundw
            case rel => exact ⟨i + 1, _, m, to, by omega, by omega, by go_num, rfl, ⟨HAT2.out, HN.out⟩, HSX.out⟩
            case measure => simp [intOf]; omega
          case neg =>
            have hmI : ((m2 : Int) != 0) = true := by simp; omega
            have HN := Lib.hid (show longTo D (bytesN s) a may (i + 1 - a) = (m2, i + 1) by rw [HL2.out, if_neg hm0])
            have HPUT := Lib.hid (HSX.out.put m2 (i + 1))
            have k3 : wx.cell? ⟨b + 1 + 1, 0, none⟩ = some (.int .u64 (m : Int)) := cell_of_block HSX.out.out rfl
            have k4 : wx.cell? ⟨b + 1 + 1, 1, none⟩ = some (.int .i64 (to : Int)) := cell_of_block HSX.out.out rfl
            have k5 : wx.frozen? ⟨b + 1 + 1, 0, none⟩ = false := free_of_block HSX.out.out
            have k6 : wx.frozen? ⟨b + 1 + 1, 1, none⟩ = false := free_of_block HSX.out.out
            go_wp2_with fail
            go_roundw
            case rel => exact ⟨i + 1, _, m2, i + 1, by omega, by omega, by go_num, rfl, ⟨HAT2.out, HN.out⟩, HPUT.out⟩
            case measure => simp [intOf]; omega
end Go.Proofs.YtglflmkkecephaaGreatDoor

namespace Go.Proofs.YtglflmkkecephaaGreatDoor set_option linter.unusedVariables false set_option linter.unusedSimpArgs false
open Go.RowKit

theorem longest_any (D : Dfa) (v : Value) (s : ByteArray) (at_ : Int) (may : Nat) (w : World) (h : DfaIn w v D) (ht : ∀ t ∈ D.tags, t < 18446744073709551616) (hmay : may < 18446744073709551616) (hs : s.size < 4611686018427387904) :
    Calls Tryz.prog 17 #[v, .string s, .int .i64 at_, .int .u64 may] w fun e w' => e = .returned (.agg #[.int .u64 ((longM D (bytesN s) at_ may).1 : Nat), .int .i64 (longM D (bytesN s) at_ may).2]) ∧ Fr none_ w w' := by
  unfold longM
  by_cases hat : 0 ≤ at_ ∧ at_ < (s.size : Int)
  · obtain ⟨a, rfl⟩ := Int.eq_ofNat_of_zero_le hat.1
    rw [if_pos (by rw [bytesN_length]; exact hat), bytesN_length, Int.toNat_natCast]
    exact longest_in D v s a may w h ht hmay hs (by omega)
  · rw [if_neg (by rw [bytesN_length]; exact hat)]
    exact longest_out D v s at_ may w h hs hat

def hasM (s : Nat) (i : Int) : Bool := decide (0 ≤ i) && s.testBit i.toNat
def beatP (tags : Nat) (n : Int) (p : Int × Int) : Bool := decide (p.2 = n) && decide (p.1 ≠ n) && hasM tags p.1
def beatenM (tags : Nat) (ps : List (Int × Int)) (n : Int) : Bool := ps.any (beatP tags n)
def winM (tags : Nat) (ps : List (Int × Int)) : Nat := setM (((bitsL tags).filter fun (n : Nat) => !beatenM tags ps n).map fun (n : Nat) => (n : Int))
/-- A row of pairs. -/
def PairsIn (w : World) (a : Option Addr) (len : Nat) (ps : List (Int × Int)) : Prop := ps.length = len ∧ len ≤ 1000000 ∧ ∀ (j : Nat) (p : Int × Int), ps[j]? = some p → ∃ ad, a = some ad ∧ w.cell? (ad.add (j * 2)) = some (.int .i64 p.1) ∧ w.cell? (ad.add (j * 2 + 1)) = some (.int .i64 p.2)
theorem PairsIn.move {w w' : World} {a : Option Addr} {len : Nat} {ps : List (Int × Int)} (h : PairsIn w a len ps) (hf : Fr none_ w w') : PairsIn w' a len ps :=
  ⟨h.1, h.2.1, fun j p hp => (h.2.2 j p hp).elim fun ad q => ⟨ad, q.1, cell_move hf q.2.1, cell_move hf q.2.2⟩⟩

set_option maxRecDepth 100000 in
set_option maxHeartbeats 4000000 in
theorem beaten_any (tags : Nat) (ps : List (Int × Int)) (n : Int) (g1 g2 : Nat) (a : Option Addr) (len cap : Nat) (w : World) (htags : tags < 18446744073709551616) (hp : PairsIn w a len ps) (h1 : w.cell? ⟨g1, 0, none⟩ = some (.slice a len cap)) (h2 : w.cell? ⟨g2, 0, none⟩ = some (.int .u64 tags)) :
    Calls Tryz.prog 44 #[.int .i64 n, .pointer (some ⟨g1, 0, none⟩), .pointer (some ⟨g2, 0, none⟩)] w fun e w' => e = .returned (.bool (beatenM tags ps n)) ∧ Fr none_ w w' := by
  have HP := Lib.hid hp
  have hl6 := hp.2.1
  have HL := Lib.hid hp.1
  clear hp
  go_enter Tryz.func44, Tryz.ntmps44
  go_wp2_with fail
  go_loopw [9] (fun x9 wr => ∃ i : Nat, i ≤ len ∧ x9 = .int .i64 i ∧ Aside ((ps.take i).any (beatP tags n) = false) ∧ Aside (Fr none_ w wr)) (fun x9 _ => len - (intOf x9).toNat)
  case atStart => exact ⟨0, Nat.zero_le _, rfl, rfl, Fr.refl _ _⟩
  case round =>
    obtain ⟨i, hi', rfl, h1', h2'⟩ := hrel
    have HN := Lib.hid h1'.out
    have HF := Lib.hid h2'.out
    clear h1' h2'
    have hi0 : (0 : Int) ≤ (i : Int) := by omega
    by_cases hlt : i < len
    case neg =>
      have hil : ¬ (i : Int) < (len : Int) := by omega
      have HE := Lib.hid (show beatenM tags ps n = false by
        have := HN.out
        rw [List.take_of_length_le (by rw [HL.out]; omega)] at this
        exact this)
      go_wp2_with fail
      go_ret
      exact ⟨by rw [HE.out]; rfl, HF.out⟩
    case pos =>
      have hil : (i : Int) < (len : Int) := by omega
      obtain ⟨p, hpp⟩ : ∃ p, ps[i]? = some p := ⟨_, List.getElem?_eq_getElem (by rw [HL.out]; exact hlt)⟩
      obtain ⟨ad, rfl, c1, c2⟩ := (HP.out.move HF.out).2.2 i p hpp
      have HNX := Lib.hid (show (ps.take (i + 1)).any (beatP tags n) = beatP tags n p by
        rw [List.take_add_one, hpp, List.any_append, HN.out]; simp)
      have HY := Lib.hid (show beatP tags n p = true → beatenM tags ps n = true from fun h => List.any_eq_true.2 ⟨p, List.mem_of_getElem? hpp, h⟩)
      obtain ⟨x, y⟩ := p
      have c3 : wr.cell? ⟨g2, 0, none⟩ = some (.int .u64 tags) := cell_move HF.out h2
      have e1 : (ad.add (i * 2)).add 1 = ⟨(ad.add (i * 2)).block, (ad.add (i * 2)).off + 1, none⟩ := by rw [Addr.add_succ' _ 0]
      rw [← Addr.add_add, e1] at c2
      have HXI := Lib.hid (HF.out.alloc (.cells #[.int .i64 x, .int .i64 y] 57))
      have c4 : (wr.alloc (.cells #[.int .i64 x, .int .i64 y] 57)).cell? ⟨g2, 0, none⟩ = some (.int .u64 tags) := cell_move HXI.out h2
      clear hpp e1 c3
      by_cases hy : y = n
      case neg =>
        have hyI : (y == n) = false := by simp [hy]
        have HB := Lib.hid (show (ps.take (i + 1)).any (beatP tags n) = false by rw [HNX.out, beatP]; simp [hy])
        clear hy
        go_wp2_with fail
        go_roundw
        case rel => exact ⟨i + 1, by omega, by go_num, HB.out, HXI.out⟩
        case measure => simp [intOf]; omega
      case pos =>
        subst hy
        by_cases hx : x = y
        case pos =>
          subst hx
          have HB := Lib.hid (show (ps.take (i + 1)).any (beatP tags x) = false by rw [HNX.out, beatP]; simp)
          go_wp2_with fail
          go_roundw
          case rel => exact ⟨i + 1, by omega, by go_num, HB.out, HXI.out⟩
          case measure => simp [intOf]; omega
        case neg =>
          have hxI : (x != y) = true := by simp [hx]
          have HBP := Lib.hid (show beatP tags y (x, y) = hasM tags x by rw [beatP]; simp [hx])
          clear hx
          go_wp2_with fail
          refine (bhas_any tags x _ htags).mono ?_
          rintro e wy ⟨rfl, rfl⟩
          cases hh : (decide (0 ≤ x) && tags.testBit x.toNat) with
          | true =>
            have HE := Lib.hid (HY.out (by rw [HBP.out, hasM, hh]))
            clear hh
            go_wp2_with fail
            go_ret
            exact ⟨by rw [HE.out]; rfl, HXI.out⟩
          | false =>
            have HB := Lib.hid (show (ps.take (i + 1)).any (beatP tags y) = false by rw [HNX.out, HBP.out, hasM, hh])
            clear hh
            go_wp2_with fail
            go_roundw
            case rel => exact ⟨i + 1, by omega, by go_num, HB.out, HXI.out⟩
            case measure => simp [intOf]; omega
end Go.Proofs.YtglflmkkecephaaGreatDoor

namespace Go.Proofs.YtglflmkkecephaaGreatDoor set_option linter.unusedVariables false set_option linter.unusedSimpArgs false
open Go.RowKit

def winL (tags : Nat) (ps : List (Int × Int)) (l : List Nat) : Nat := setM ((l.filter fun (n : Nat) => !beatenM tags ps n).map fun (n : Nat) => (n : Int))
theorem winL_snoc (tags : Nat) (ps : List (Int × Int)) (l : List Nat) (n : Nat) : winL tags ps (l ++ [n]) = if beatenM tags ps n then winL tags ps l else winL tags ps l ||| bitM n := by
  unfold winL
  rw [List.filter_append]
  cases h : beatenM tags ps n with
  | true => simp [h]
  | false => simp [h, setM_snoc]

set_option maxRecDepth 100000 in
set_option maxHeartbeats 4000000 in
theorem win_any (tags : Nat) (ps : List (Int × Int)) (a : Option Addr) (len cap : Nat) (w : World) (htags : tags < 18446744073709551616) (hp : PairsIn w a len ps) (hT : TabOk w) :
    Calls Tryz.prog 21 #[.int .u64 tags, .slice a len cap] w fun e w' => e = .returned (.int .u64 (winM tags ps)) ∧ Fr none_ w w' := by
  have HP := Lib.hid hp
  have HT := Lib.hid hT
  have HF0 := Lib.hid (((Fr.refl none_ w).alloc (.cells #[.int .u64 (tags : Int)] 39)).alloc (.cells #[.slice a len cap] 40))
  have HB2 := Lib.hid (((Fr.refl none_ (w.alloc (.cells #[.int .u64 (tags : Int)] 39))).alloc (.cells #[.slice a len cap] 40)).at_ (alloc_new w (.cells #[.int .u64 (tags : Int)] 39)) (fun h => h))
  have hb3 := alloc_new (w.alloc (.cells #[.int .u64 (tags : Int)] 39)) (.cells #[.slice a len cap] 40)
  rw [show (w.alloc (.cells #[.int .u64 (tags : Int)] 39)).heap.size = w.heap.size + 1 by simp] at hb3
  have HB3 := Lib.hid hb3
  have c0 : ((w.alloc (.cells #[.int .u64 (tags : Int)] 39)).alloc (.cells #[.slice a len cap] 40)).cell? ⟨w.heap.size, 0, none⟩ = some (.int .u64 (tags : Int)) := cell_of_block HB2.out rfl
  clear hp hT hb3
  go_enter Tryz.func21, Tryz.ntmps21
  go_wp2_with fail
  refine (list_any tags htags _ (HT.out.move HF0.out)).mono ?_
  rintro e w1 ⟨v, base, rfl, hown, _, _, F1⟩
  have B2 := Lib.hid (F1.at_ HB2.out (fun h => h))
  have B3 := Lib.hid (F1.at_ HB3.out (fun h => h))
  have FA := Lib.hid (HF0.out.tr F1)
  obtain ⟨L, hL⟩ : ∃ L, bitsL tags = L := ⟨_, rfl⟩
  have HL := Lib.hid hL
  rw [hL] at hown
  have hLn : L.length ≤ 64 := by rw [← hL]; exact bitsL_length tags
  obtain ⟨N, hN⟩ : ∃ N, L.length = N := ⟨_, rfl⟩
  rw [hN] at hown hLn
  have HN := Lib.hid hN
  obtain ⟨la, lcap, rfl, _⟩ := ownsRow_slice hown
  have HOWN := Lib.hid hown
  clear hown F1 HB2 HB3 c0 HF0 hL hN
  go_wp2_with fail
  go_loopw [6, 13] (fun x6 x13 wr => ∃ i : Nat, i ≤ N ∧ x13 = .int .i64 i ∧ x6 = .int .u64 (winL tags ps (L.take i)) ∧ Aside (Fr none_ w1 wr)) (fun _ x13 _ => N - (intOf x13).toNat)
  case atStart => exact ⟨0, Nat.zero_le _, rfl, rfl, Fr.refl _ _⟩
  case round =>
    obtain ⟨i, hi', rfl, rfl, h'⟩ := hrel
    have HF := Lib.hid h'.out
    clear h'
    have hi0 : (0 : Int) ≤ (i : Int) := by omega
    obtain ⟨W, hW⟩ : ∃ W, winL tags ps (L.take i) = W := ⟨_, rfl⟩
    have hWl : W < 18446744073709551616 := by rw [← hW]; exact setM_lt _
    have HW := Lib.hid hW
    rw [hW]
    clear hW
    by_cases hlt : i < N
    case neg =>
      have hil : ¬ (i : Int) < (N : Int) := by omega
      have HE := Lib.hid (show winM tags ps = W by
        rw [← HW.out, List.take_of_length_le (by rw [HN.out]; omega), ← HL.out]; rfl)
      go_wp2_with fail
      go_ret
      exact ⟨by rw [HE.out]; rfl, FA.out.tr HF.out⟩
    case pos =>
      have hil : (i : Int) < (N : Int) := by omega
      obtain ⟨n, hn⟩ : ∃ n, L[i]? = some n := ⟨_, List.getElem?_eq_getElem (by rw [HN.out]; exact hlt)⟩
      have HNX := Lib.hid (show winL tags ps (L.take (i + 1)) = if beatenM tags ps n then W else W ||| bitM n by
        rw [List.take_add_one, hn, ← HW.out]; exact winL_snoc _ _ _ _)
      obtain ⟨lg, rfl, c1⟩ := row_at0 (row_keep HOWN.out HF.out (fun _ _ h => h)) (i := i) (x := .int .i64 (n : Int)) (by simp [nums, hn])
      clear hn
      go_wp2_with fail
      refine (beaten_any tags ps (n : Int) (w.heap.size + 1) w.heap.size a len cap _ htags (HP.out.move (FA.out.tr HF.out)) (cell_of_block (HF.out.at_ B3.out (fun h => h)) rfl) (cell_of_block (HF.out.at_ B2.out (fun h => h)) rfl)).mono ?_
      rintro e w2 ⟨rfl, F2⟩
      have HF2 := Lib.hid (HF.out.tr F2)
      clear F2 c1
      cases hb : beatenM tags ps n with
      | true =>
        rw [hb] at HNX
        clear hb
        go_wp2_with fail
        go_roundw
        case rel => exact ⟨i + 1, by omega, by go_num, by rw [HNX.out]; rfl, HF2.out⟩
        case measure => simp [intOf]; omega
      | false =>
        rw [hb] at HNX
        clear hb
        go_wp2_with fail
        refine (with_any W (n : Int) _ hWl).mono ?_
        rintro e w3 ⟨rfl, rfl⟩
        go_wp2_with fail
        go_roundw
        case rel => exact ⟨i + 1, by omega, by go_num, by rw [HNX.out]; rfl, HF2.out⟩
        case measure => simp [intOf]; omega
end Go.Proofs.YtglflmkkecephaaGreatDoor

namespace Go.Proofs.YtglflmkkecephaaGreatDoor set_option linter.unusedVariables false set_option linter.unusedSimpArgs false
open Go.RowKit

def pickOf (p : Nat × Int) (ps : List (Int × Int)) : Int × Int := if (bitsL (winM p.1 ps)).length = 1 then (((Lib.ctz 64 (winM p.1 ps) : Nat) : Int), p.2) else (-1, p.2)
def pickM (D : Dfa) (bs : List Nat) (at_ : Int) (may : Nat) (ps : List (Int × Int)) : Int × Int := pickOf (longM D bs at_ may) ps
theorem results_two {fn : Func} {p q : Tmp} (h : fn.results = #[.tmp p, .tmp q]) (tmps : Array Value) (w : World) : (results fn tmps).run Tryz.prog w = .ok (.tuple #[tmps.getD p undef, tmps.getD q undef]) w := by
  simp [results, h, go_sem]
theorem winM_lt (t : Nat) (ps : List (Int × Int)) : winM t ps < 18446744073709551616 := setM_lt _
theorem longTo_lt (D : Dfa) (bs : List Nat) (a may : Nat) (hm : may < 18446744073709551616) : ∀ d, (longTo D bs a may d).1 < 18446744073709551616
  | 0 => by simp [longTo]
  | d + 1 => by
    rw [longTo]
    split
    · exact longTo_lt D bs a may hm d
    · exact Nat.lt_of_le_of_lt Nat.and_le_right hm
theorem longM_lt (D : Dfa) (bs : List Nat) (at_ : Int) (may : Nat) (hm : may < 18446744073709551616) : (longM D bs at_ may).1 < 18446744073709551616 := by
  unfold longM
  split
  · exact longTo_lt D bs _ may hm _
  · show 0 < 18446744073709551616
    omega

set_option maxRecDepth 100000 in
set_option maxHeartbeats 4000000 in
theorem pick_any (D : Dfa) (v : Value) (s : ByteArray) (at_ : Int) (may : Nat) (ps : List (Int × Int)) (a : Option Addr) (len cap : Nat) (w : World) (h : DfaIn w v D) (ht : ∀ t ∈ D.tags, t < 18446744073709551616) (hmay : may < 18446744073709551616) (hs : s.size < 4611686018427387904) (hp : PairsIn w a len ps) (hT : TabOk w) :
    Calls Tryz.prog 19 #[v, .string s, .int .i64 at_, .int .u64 may, .slice a len cap] w fun e w' => e = .returned (.tuple #[.int .i64 (pickM D (bytesN s) at_ may ps).1, .int .i64 (pickM D (bytesN s) at_ may ps).2]) ∧ Fr none_ w w' := by
  obtain ⟨C, rfl, hz, hone⟩ := h.cells
  have HD := Lib.hid h
  have HTB := Lib.hid ht
  have HP := Lib.hid hp
  have HT := Lib.hid hT
  have B0 := Lib.hid (alloc_new w (.cells C.toArray 26))
  have F0 := Lib.hid ((Fr.refl none_ w).alloc (.cells C.toArray 26))
  obtain ⟨P, hP⟩ : ∃ P, longM D (bytesN s) at_ may = P := ⟨_, rfl⟩
  have hPl : P.1 < 18446744073709551616 := by rw [← hP]; exact longM_lt _ _ _ _ hmay
  have HPE := Lib.hid hP
  have HPK := Lib.hid (show pickM D (bytesN s) at_ may ps = pickOf P ps by rw [pickM, hP])
  obtain ⟨W, hW⟩ : ∃ W, winM P.1 ps = W := ⟨_, rfl⟩
  have hWl : W < 18446744073709551616 := by rw [← hW]; exact winM_lt _ _
  have HW := Lib.hid hW
  clear h ht hp hT hP hW hone
  go_enter Tryz.func19, Tryz.ntmps19
  go_wp2_with (refine wpList_load_row rfl 26 (.tmp 5) rfl w.heap.size 26 C _ rfl B0.out Tryz.underlying26 rfl (by rw [hz]; exact dfa_info) ?_)
  refine (longest_any D _ s at_ may _ (HD.out.move F0.out) HTB.out hmay hs).mono ?_
  rintro e w1 ⟨rfl, F1⟩
  rw [HPE.out]
  have FA := Lib.hid (F0.out.tr F1)
  obtain ⟨m, to⟩ := P
  have N1 := Lib.hid (alloc_new w1 (.cells #[.int .u64 (m : Int), .int .i64 to] 43))
  have FB := Lib.hid (FA.out.alloc (.cells #[.int .u64 (m : Int), .int .i64 to] 43))
  have c0 : (w1.alloc (.cells #[.int .u64 (m : Int), .int .i64 to] 43)).cell? ⟨w1.heap.size, 0, none⟩ = some (.int .u64 (m : Int)) := cell_of_block N1.out rfl
  clear F1 B0 F0 FA HPE
  go_wp2_with fail
  refine (win_any m ps a len cap _ hPl (HP.out.move FB.out) (HT.out.move FB.out)).mono ?_
  rintro e w2 ⟨rfl, F2⟩
  rw [show winM m ps = W from HW.out]
  have N2 := Lib.hid (F2.at_ N1.out (fun h => h))
  have FC := Lib.hid (FB.out.tr F2)
  obtain ⟨b, hb⟩ : ∃ b, w1.heap.size = b := ⟨_, rfl⟩
  rw [hb] at N2 ⊢
  clear F2 N1 FB c0 hb
  go_wp2_with fail
  refine (count_any W hWl _).mono ?_
  rintro e w3 ⟨rfl, rfl⟩
  have c1 : w2.cell? ⟨b, 1, none⟩ = some (.int .i64 to) := cell_of_block N2.out rfl
  by_cases h1 : (bitsL W).length = 1
  case pos =>
    have hW0 : W ≠ 0 := by rintro rfl; simp [bitsL_zero] at h1
    have HR := Lib.hid (show pickOf (m, to) ps = (((Lib.ctz 64 W : Nat) : Int), to) by unfold pickOf; rw [show winM (m, to).1 ps = W from HW.out, if_pos h1])
    have hcI : (((bitsL W).length : Int) == 1) = true := by simp; omega
    clear h1
    go_wp2_with fail
    go_quiet ((go_at_call 27; exact Calls.quiet_of_same ((first_any W hWl hW0 _ (HT.out.move (FC.out.drewN _))).mono fun e w' h => ⟨h.1, h.2.symm⟩)))
    go_wp2_with fail
    refine bodyPost_ret (results_two rfl _ _) rfl ?_
    exact ⟨by rw [HPK.out, HR.out]; rfl, FC.out.drewN _⟩
  case neg =>
    have HR := Lib.hid (show pickOf (m, to) ps = (-1, to) by unfold pickOf; rw [show winM (m, to).1 ps = W from HW.out, if_neg h1])
    have hcI : (((bitsL W).length : Int) == 1) = false := by simp; omega
    clear h1
    go_wp2_with fail
    go_quiet (fail)
    go_wp2_with fail
    refine bodyPost_ret (results_two rfl _ _) rfl ?_
    exact ⟨by rw [HPK.out, HR.out]; rfl, FC.out.drewN _⟩
end Go.Proofs.YtglflmkkecephaaGreatDoor

namespace Go.Proofs.YtglflmkkecephaaGreatDoor set_option linter.unusedVariables false set_option linter.unusedSimpArgs false
open Go.RowKit Go.Shelf
attribute [local go_sem] Oper.semAt_some

def allFrom (D : Dfa) (bs : List Nat) (may : Nat) (ps : List (Int × Int)) : Nat → Int → List (Nat × Int)
  | 0, _ => []
  | f + 1, at_ => if 0 ≤ (pickM D bs at_ may ps).1 then (bitM (pickM D bs at_ may ps).1, (pickM D bs at_ may ps).2) :: allFrom D bs may ps f (pickM D bs at_ may ps).2 else []
def allM (D : Dfa) (bs : List Nat) (may : Nat) (ps : List (Int × Int)) : List (Nat × Int) := allFrom D bs may ps (bs.length + 1) 0
theorem longTo_pos (D : Dfa) (bs : List Nat) (a may : Nat) : ∀ d, (longTo D bs a may d).1 ≠ 0 → a < (longTo D bs a may d).2 ∧ (longTo D bs a may d).2 ≤ a + d
  | 0 => fun h => absurd rfl h
  | d + 1 => by
    rw [longTo]
    split
    · intro h
      have := longTo_pos D bs a may d h
      omega
    · intro _
      show a < a + d + 1 ∧ a + d + 1 ≤ a + (d + 1)
      omega
theorem winM_zero (ps : List (Int × Int)) : winM 0 ps = 0 := by simp [winM, bitsL_zero, setM]
theorem pickOf_pos {p : Nat × Int} {ps : List (Int × Int)} (h : 0 ≤ (pickOf p ps).1) : p.1 ≠ 0 ∧ (pickOf p ps).1 < 64 ∧ (pickOf p ps).2 = p.2 := by
  have hw := winM_lt p.1 ps
  unfold pickOf at h ⊢
  split at h
  · rename_i h1
    rw [if_pos h1]
    have hw0 : winM p.1 ps ≠ 0 := fun e => by rw [e, bitsL_zero] at h1; simp at h1
    have hc := (low_form _ hw hw0).elim fun _ q => q.2
    refine ⟨fun e => hw0 (by rw [e]; exact winM_zero ps), ?_, rfl⟩
    show ((Lib.ctz 64 (winM p.1 ps) : Nat) : Int) < 64
    omega
  · exact absurd (show (0 : Int) ≤ -1 from h) (by decide)
theorem longM_pos {D : Dfa} {bs : List Nat} {at_ : Int} {may : Nat} (hp : (longM D bs at_ may).1 ≠ 0) : 0 ≤ at_ ∧ at_ < (longM D bs at_ may).2 ∧ (longM D bs at_ may).2 ≤ bs.length := by
  unfold longM at hp ⊢
  split at hp
  · rename_i h2
    rw [if_pos h2]
    obtain ⟨q1, q2⟩ := longTo_pos D bs at_.toNat may (bs.length - at_.toNat) hp
    refine ⟨h2.1, ?_, ?_⟩
    · show at_ < ((longTo D bs at_.toNat may (bs.length - at_.toNat)).2 : Int); omega
    · show ((longTo D bs at_.toNat may (bs.length - at_.toNat)).2 : Int) ≤ _; omega
  · exact absurd rfl hp
theorem pick_pos {D : Dfa} {bs : List Nat} {at_ : Int} {may : Nat} {ps : List (Int × Int)} (h : 0 ≤ (pickM D bs at_ may ps).1) : 0 ≤ at_ ∧ at_ < (pickM D bs at_ may ps).2 ∧ (pickM D bs at_ may ps).2 ≤ bs.length ∧ (pickM D bs at_ may ps).1 < 64 := by
  obtain ⟨h1, h2, h3⟩ := pickOf_pos (p := longM D bs at_ may) (ps := ps) h
  obtain ⟨q1, q2, q3⟩ := longM_pos h1
  exact ⟨q1, by rw [pickM, h3]; exact q2, by rw [pickM, h3]; exact q3, h2⟩

theorem wpIn_load_row {F : Fence} {n : Nat} {P : Program} {o : Oper} {a : Act} {w : World} {K : Act → World → Prop} {Q : Exit → Act → World → Prop} (ty : TypeId) (x : Operand) (ho : o.op = .load ty x)
    (g : Nat) (hx : a.eval x = .pointer (some ⟨g, 0, none⟩)) (t : TypeId) (cs : Array Value) (fr : Nat × Nat) (d : TypeDesc) (hg : w.heap[g]? = some (.cells cs t fr))
    (hu : P.underlying ty = some d) (hd : (match d with | .struct _ | .array _ _ => true | _ => false) = true) (hi : (P.info? ty).map (·.size) = some cs.size)
    (h : K (a.put o.dst (.agg cs)) w) : o.wpIn F n P a w K Q := by
  unfold Oper.wpIn
  refine ⟨?_, ?_⟩
  · simp [Oper.about, ho]
  · rw [Oper.semAt_plain F _ _ (by rw [ho]; intro c hc'; cases hc')]
    unfold execOp
    simp only [ho, hx, Instr.loadAt, Instr.sureAddr, Sem.run_bind, Sem.run_pure, Result.andThen_ok, run_loadVar_row w g t ty cs fr d hg hu hd hi]
    exact h

set_option maxRecDepth 100000 in
set_option maxHeartbeats 2000000 in
theorem meach_in (n : Nat) (hn : 1 ≤ n) (l b4 b5 b6 b7 : Nat) (D : Dfa) (C : List Value) (s : ByteArray) (may : Nat) (ps : List (Int × Int)) (a : Option Addr) (len cap : Nat) (ht : ∀ t ∈ D.tags, t < 18446744073709551616) (hmay : may < 18446744073709551616) (hs : s.size ≤ 1000000) (hz : C.length = 258) (J : List (Nat × Int) → World → Prop)
    (hJ : ∀ pre A A', J pre A → Fr none_ A A' → J pre A')
    (hI : ∀ pre A, J pre A → A.heap[b4]? = some (.cells C.toArray 26 (0, 0)) ∧ A.cell? ⟨b5, 0, none⟩ = some (.string s) ∧ A.cell? ⟨b6, 0, none⟩ = some (.int .u64 may) ∧ A.cell? ⟨b7, 0, none⟩ = some (.slice a len cap) ∧ DfaIn A (.agg C.toArray) D ∧ PairsIn A a len ps ∧ TabOk A)
    (hY : ∀ pre (m : Nat) (to : Int) W, J pre W → pre.length ≤ 1000000 → YieldAt Fence.wide (n - 1) Tryz.prog l #[.agg #[.int .u64 m, .int .i64 to]] W fun e W' => e = .returned (.bool true) ∧ J (pre ++ [(m, to)]) W')
    (W : World) (h0 : J [] W) :
    CallsIn Fence.wide n Tryz.prog 66 #[.func (.yield l) #[] #[], .pointer (some ⟨b4, 0, none⟩), .pointer (some ⟨b5, 0, none⟩), .pointer (some ⟨b6, 0, none⟩), .pointer (some ⟨b7, 0, none⟩)] W fun e W' => (∃ v, e = .returned v) ∧ J (allM D (bytesN s) may ps) W' := by
  refine callsIn_of_wp Tryz.func66 rfl trivial ?_ rfl
  simp only [Tryz.ntmps66, List.size_toArray, List.length_cons, List.length_nil, Nat.reduceAdd, Nat.reduceSub, Array.replicate_succ, Array.replicate_zero, List.push_toArray, List.append_toArray, List.nil_append, List.cons_append]
  have HJ := Lib.hid hJ
  have HI := Lib.hid hI
  have HY := Lib.hid hY
  have H0 := Lib.hid h0
  have HTB := Lib.hid ht
  obtain ⟨i1, i2, i3, i4, i5, i6, i7⟩ := hI _ _ h0
  have HB4 := Lib.hid i1
  have H5 := Lib.hid i5
  have H6 := Lib.hid i6
  have H7 := Lib.hid i7
  clear hJ hI hY h0 ht i1 i5 i6 i7
  gi_wp2_with fail
  refine wpIn_load_row 26 (.tmp 1) rfl b4 rfl 26 C.toArray _ _ HB4.out Tryz.underlying26 rfl (by rw [List.size_toArray, hz]; exact dfa_info) ?_
  gi_wp2_with fail
  refine ⟨trivial, ?_⟩
  refine (callsIn_wide.2 (pick_any D _ s 0 may ps a len cap _ H5.out HTB.out hmay (by omega) H6.out H7.out)).mono ?_
  rintro e W1 ⟨rfl, F1⟩
  have HJ1 := Lib.hid (HJ.out _ _ _ H0.out F1)
  have hlen : (bytesN s).length = s.size := bytesN_length s
  have HP0 := Lib.hid (show allM D (bytesN s) may ps = [] ++ (if 0 ≤ (pickM D (bytesN s) 0 may ps).1 then (bitM (pickM D (bytesN s) 0 may ps).1, (pickM D (bytesN s) 0 may ps).2) :: allFrom D (bytesN s) may ps s.size (pickM D (bytesN s) 0 may ps).2 else []) by
    rw [allM, hlen, allFrom]; rfl)
  have HPP := Lib.hid (show 0 ≤ (pickM D (bytesN s) 0 may ps).1 → 1 ≤ (pickM D (bytesN s) 0 may ps).2 ∧ (pickM D (bytesN s) 0 may ps).2 ≤ s.size ∧ (pickM D (bytesN s) 0 may ps).1 < 64 from fun h => by
    obtain ⟨q1, q2, q3, q4⟩ := pick_pos h
    rw [hlen] at q3
    exact ⟨by omega, q3, q4⟩)
  obtain ⟨⟨n0, t0⟩, hp0⟩ : ∃ p, pickM D (bytesN s) 0 may ps = p := ⟨_, rfl⟩
  rw [hp0] at HP0 HPP ⊢
  clear hp0 F1 H0 HB4 H5 H6 H7 i2 i3 i4
  gi_wp2_with fail
  gi_loopw [6, 7] (fun x6 x7 wr => ∃ (pre : List (Nat × Int)) (f : Nat) (nn t : Int), x6 = .int .i64 nn ∧ x7 = .int .i64 t ∧ f + pre.length = s.size ∧ (0 ≤ nn → pre.length + 1 ≤ t ∧ t ≤ s.size ∧ nn < 64) ∧ Aside (J pre wr ∧ allM D (bytesN s) may ps = pre ++ (if 0 ≤ nn then (bitM nn, t) :: allFrom D (bytesN s) may ps f t else []))) (fun x6 x7 wr => if intOf x6 < 0 then 0 else s.size + 1 - (intOf x7).toNat)
  case atStart => exact ⟨[], s.size, n0, t0, rfl, rfl, by simp, fun h => by have := HPP.out h; exact ⟨by simpa using this.1, this.2.1, this.2.2⟩, HJ1.out, HP0.out⟩
  case round =>
    obtain ⟨pre, f, nn, t, rfl, rfl, hf, hnn, h'⟩ := hrel
    have HJP := Lib.hid h'.out.1
    have HAL := Lib.hid h'.out.2
    clear h' HJ1 HP0 HPP
    by_cases h0 : 0 ≤ nn
    case neg =>
      have hE := HAL.out
      rw [if_neg h0, List.append_nil] at hE
      have HE := Lib.hid hE
      clear hE
      gi_wp2_with fail
      refine ⟨trivial, ?_⟩
      gi_wp2_with fail
      refine ⟨(fun f h => by cases h), ?_⟩
      gi_wp2_with fail
      go_end0
      exact ⟨⟨_, rfl⟩, by rw [HE.out]; exact HJP.out⟩
    case pos =>
      obtain ⟨hn1, hn2, hn3⟩ := hnn h0
      have hpl : pre.length ≤ 1000000 := by omega
      obtain ⟨f', hf'⟩ : ∃ f', f = f' + 1 := ⟨f - 1, by omega⟩
      subst hf'
      obtain ⟨M, hM⟩ : ∃ M, bitM nn = M := ⟨_, rfl⟩
      have hM2 : setM [nn] = M := by rw [← hM]; simp [setM]
      have hE := HAL.out
      rw [if_pos h0, hM, allFrom] at hE
      have HE := Lib.hid hE
      have HM2 := Lib.hid hM2
      have HJ2 := Lib.hid (HJ.out _ _ _ HJP.out ((Fr.refl none_ wr).alloc (.cells #[.int .i64 nn] 3)))
      have HIN := Lib.hid (show IntsAt (wr.alloc (.cells #[.int .i64 nn] 3)) (.slice (some ⟨wr.heap.size, 0, none⟩) 1 1) [nn] from ⟨0, rfl, .inr ⟨wr.heap.size, 1, #[.int .i64 nn], rfl, Nat.zero_le _, alloc_new wr _, Nat.le_refl _, by decide, rfl, rfl⟩⟩)
      clear hE hM hM2 HAL
      gi_wp2_with fail
      refine ⟨trivial, ?_⟩
      refine (callsIn_wide.2 (bitsOf_any (some ⟨wr.heap.size, 0, none⟩) 1 1 [nn] _ HIN.out rfl (by decide))).mono ?_
      rintro e w' ⟨rfl, rfl⟩
      rw [HM2.out]
      obtain ⟨fn, tmps, assign, body, hy, hR⟩ := HY.out pre M t _ HJ2.out hpl
      have HRR := Lib.hid hR
      clear hR
      gi_wp2_with fail
      refine HRR.out.mono ?_
      rintro e W3 ⟨rfl, hJ3⟩
      have HJ3 := Lib.hid hJ3
      obtain ⟨i1, i2, i3, i4, i5, i6, i7⟩ := HI.out _ _ hJ3
      have HB4 := Lib.hid i1
      have H5 := Lib.hid i5
      have H6 := Lib.hid i6
      have H7 := Lib.hid i7
      clear hJ3 hy i1 i5 i6 i7
      gi_wp2_with fail
      refine wpIn_load_row 26 (.tmp 1) rfl b4 rfl 26 C.toArray _ _ HB4.out Tryz.underlying26 rfl (by rw [List.size_toArray, hz]; exact dfa_info) ?_
      gi_wp2_with fail
      refine ⟨trivial, ?_⟩
      refine (callsIn_wide.2 (pick_any D _ s t may ps a len cap _ H5.out HTB.out hmay (by omega) H6.out H7.out)).mono ?_
      rintro e W4 ⟨rfl, F4⟩
      have HJ4 := Lib.hid (HJ.out _ _ _ HJ3.out F4)
      have HPP := Lib.hid (show 0 ≤ (pickM D (bytesN s) t may ps).1 → t < (pickM D (bytesN s) t may ps).2 ∧ (pickM D (bytesN s) t may ps).2 ≤ s.size ∧ (pickM D (bytesN s) t may ps).1 < 64 from fun h => by
        obtain ⟨q1, q2, q3, q4⟩ := pick_pos h
        rw [hlen] at q3
        exact ⟨q2, q3, q4⟩)
      obtain ⟨⟨n1, t1⟩, hp1⟩ : ∃ p, pickM D (bytesN s) t may ps = p := ⟨_, rfl⟩
      rw [hp1] at HE HPP ⊢
      clear hp1 F4 HB4 H5 H6 H7 i2 i3 i4
      gi_wp2_with fail
      refine ⟨⟨pre ++ [(M, t)], f', n1, t1, rfl, rfl, by rw [List.length_append]; simp; omega, fun h => by
        obtain ⟨q1, q2, q3⟩ := HPP.out h
        rw [List.length_append]
        exact ⟨by simp; omega, q2, q3⟩, HJ4.out, by rw [HE.out]; simp⟩, ?_⟩
      have hq := HPP.out
      have hb : ¬ nn < 0 := by omega
      show (if n1 < 0 then 0 else s.size + 1 - t1.toNat) < (if nn < 0 then 0 else s.size + 1 - t.toNat)
      split
      · omega
      · rename_i h1
        have := hq (by omega)
        omega
end Go.Proofs.YtglflmkkecephaaGreatDoor
