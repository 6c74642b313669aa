/-
  The walks over regex's reader: one byte of an item, a class, what is not too great, one of some.
-/
import Derived.Test.YtjbmppbciiemkaaPy
import Derived.Deep.LoopGhost
import Derived.Deep.AppendLies
namespace Go.Proofs.Ytjbmppbciiemkaa set_option linter.unusedVariables false set_option linter.unusedSimpArgs false
open Go.RowKit

theorem char_ok {s : ByteArray} {p d : Nat} {w : World} (hs : s.size ≤ 1000) (hb : w.heap[d]? = some (rdObj s p)) {b q : Nat} (h : charB s p = .ok (b, q)) :
    Calls Try.prog 52 #[.pointer (some ⟨d, 0, none⟩)] w fun e w' => e = .returned (.int .u8 b) ∧ w'.heap[d]? = some (rdObj s q) ∧ Fr (at1 d) w w' := by
  have := char_any s p d w hs hb
  rw [h] at this
  exact this
theorem char_err {s : ByteArray} {p d : Nat} {w : World} (hs : s.size ≤ 1000) (hb : w.heap[d]? = some (rdObj s p)) {n : Int} (h : charB s p = .error n) :
    Calls Try.prog 52 #[.pointer (some ⟨d, 0, none⟩)] w fun e w' => e = .panicked (wrongP n) ∧ Fr (at1 d) w w' := by
  have := char_any s p d w hs hb
  rw [h] at this
  exact this
theorem charB_lt {s : ByteArray} {p b q : Nat} (h : charB s p = .ok (b, q)) : b < 256 ∧ p < q ∧ q ≤ s.size := by
  simp only [charB] at h
  cases hn : nextB s p with
  | error n => simp [hn] at h
  | ok x =>
    obtain ⟨c, q0⟩ := x
    obtain ⟨h1, h2, h3, h4⟩ := nextB_lt hn
    simp only [hn] at h
    cases hm : namedB c with
    | some c' =>
      simp [hm] at h
      obtain ⟨rfl, rfl⟩ := h
      have : c' < 256 := by
        unfold namedB at hm
        split at hm
        · simp at hm; omega
        · split at hm
          · simp at hm; omega
          · split at hm
            · simp at hm; omega
            · split at hm
              · simp at hm; omega
              · simp at hm
      omega
    | none =>
      simp only [hm] at h
      split at h
      · cases hd : digitB s q0 with
        | error n => simp [hd] at h
        | ok x =>
          obtain ⟨hi, q1⟩ := x
          simp only [hd] at h
          cases hd2 : digitB s q1 with
          | error n => simp [hd2] at h
          | ok x =>
            obtain ⟨lo, q2⟩ := x
            simp [hd2] at h
            obtain ⟨rfl, rfl⟩ := h
            have d1 := digitB_lt hd
            have d2 := digitB_lt hd2
            have d3 : q1 < s.size := by
              simp only [digitB] at hd2
              cases hn2 : nextB s q1 with
              | error n => simp [hn2] at hd2
              | ok x => exact (nextB_lt hn2).2.2.1
            omega
      · split at h
        · simp at h
        · simp at h
          omega
theorem oneB_lt {s : ByteArray} {p b q : Nat} (h : oneB s p = .ok (b, q)) : b < 256 ∧ p < q ∧ q ≤ s.size := by
  simp only [oneB] at h
  split at h
  · have := charB_lt h; omega
  · cases hn : nextB s p with
    | error n => simp [hn] at h
    | ok x =>
      obtain ⟨c, q0⟩ := x
      have := nextB_lt hn
      simp only [hn] at h
      split at h
      · simp at h
      · simp at h; omega

theorem one_any (s : ByteArray) (p d : Nat) (w : World) (hs : s.size ≤ 1000) (hb : w.heap[d]? = some (rdObj s p)) :
    Calls Try.prog 60 #[.pointer (some ⟨d, 0, none⟩)] w (GotN d s w (oneB s p)) := by
  have HB := Lib.hid hb
  clear hb
  cases hi : isB s p 92 with
  | true =>
    have hm : oneB s p = charB s (p + 1) := by simp [oneB, hi]
    rw [hm]
    have HI := Lib.hid hi
    clear hm hi
    cases hc : charB s (p + 1) with
    | error n =>
      have HC := Lib.hid hc
      clear hc
      go_enter Try.func60, Try.ntmps60
      go_wp2_with fail
      refine (is_yes s p d 92 _ hs HB.out HI.out).mono ?_
      rintro e w1 ⟨rfl, hb1, F1⟩
      have HB1 := Lib.hid hb1
      have HF1 := Lib.hid F1
      clear hb1 F1
      go_wp2_with fail
      refine (char_err hs HB1.out HC.out).mono ?_
      rintro e w2 ⟨rfl, F2⟩
      have HF2 := Lib.hid (HF1.out.tr F2)
      clear F2
      go_wp2_with fail
      exact ⟨rfl, rfl, HF2.out⟩
    | ok x =>
      obtain ⟨b, q⟩ := x
      have HC := Lib.hid hc
      clear hc
      go_enter Try.func60, Try.ntmps60
      go_wp2_with fail
      refine (is_yes s p d 92 _ hs HB.out HI.out).mono ?_
      rintro e w1 ⟨rfl, hb1, F1⟩
      have HB1 := Lib.hid hb1
      have HF1 := Lib.hid F1
      clear hb1 F1
      go_wp2_with fail
      refine (char_ok hs HB1.out HC.out).mono ?_
      rintro e w2 ⟨rfl, hb2, F2⟩
      have HB2 := Lib.hid hb2
      have HF2 := Lib.hid (HF1.out.tr F2)
      clear F2 hb2
      go_wp2_with fail
      go_ret
      exact ⟨rfl, HB2.out, HF2.out⟩
  | false =>
    have HI := Lib.hid hi
    cases hn : nextB s p with
    | error n =>
      have hm : oneB s p = .error n := by simp [oneB, hi, hn]
      rw [hm]
      have HN := Lib.hid hn
      clear hm hi hn
      go_enter Try.func60, Try.ntmps60
      go_wp2_with fail
      refine (is_no s p d 92 _ hs HB.out HI.out).mono ?_
      rintro e w1 ⟨rfl, hb1, F1⟩
      have HB1 := Lib.hid hb1
      have HF1 := Lib.hid F1
      clear hb1 F1
      go_wp2_with fail
      refine (next_err hs HB1.out HN.out).mono ?_
      rintro e w2 ⟨rfl, F2⟩
      have HF2 := Lib.hid (HF1.out.tr F2)
      clear F2
      go_wp2_with fail
      exact ⟨rfl, rfl, HF2.out⟩
    | ok x =>
      obtain ⟨b, q⟩ := x
      have HN := Lib.hid hn
      by_cases hbad : b = 93 ∨ b = 45
      · have hm : oneB s p = .error 5 := by simp [oneB, hi, hn, hbad]
        rw [hm]
        clear hm hi hn
        by_cases h93 : b = 93
        · have e1 : ((b : Int) == 93) = true := by rw [beq_iff_eq]; omega
          clear hbad h93
          go_enter Try.func60, Try.ntmps60
          go_wp2_with fail
          refine (is_no s p d 92 _ hs HB.out HI.out).mono ?_
          rintro e w1 ⟨rfl, hb1, F1⟩
          have HB1 := Lib.hid hb1
          have HF1 := Lib.hid F1
          clear hb1 F1
          go_wp2_with fail
          refine (next_ok hs HB1.out HN.out).mono ?_
          rintro e w2 ⟨rfl, hb2, F2⟩
          have HF2 := Lib.hid (HF1.out.tr F2)
          clear F2 hb2
          go_wp2_with fail
          refine (fail_any _ _).mono ?_
          rintro e w3 ⟨rfl, rfl⟩
          go_wp2_with fail
          exact ⟨rfl, rfl, HF2.out⟩
        · have e1 : ((b : Int) == 93) = false := by rw [beq_eq_false_iff_ne]; omega
          have e2 : ((b : Int) == 45) = true := by rw [beq_iff_eq]; omega
          clear hbad h93
          go_enter Try.func60, Try.ntmps60
          go_wp2_with fail
          refine (is_no s p d 92 _ hs HB.out HI.out).mono ?_
          rintro e w1 ⟨rfl, hb1, F1⟩
          have HB1 := Lib.hid hb1
          have HF1 := Lib.hid F1
          clear hb1 F1
          go_wp2_with fail
          refine (next_ok hs HB1.out HN.out).mono ?_
          rintro e w2 ⟨rfl, hb2, F2⟩
          have HF2 := Lib.hid (HF1.out.tr F2)
          clear F2 hb2
          go_wp2_with fail
          refine (fail_any _ _).mono ?_
          rintro e w3 ⟨rfl, rfl⟩
          go_wp2_with fail
          exact ⟨rfl, rfl, HF2.out⟩
      · have hm : oneB s p = .ok (b, q) := by simp [oneB, hi, hn, hbad]
        rw [hm]
        have e1 : ((b : Int) == 93) = false := by rw [beq_eq_false_iff_ne]; omega
        have e2 : ((b : Int) == 45) = false := by rw [beq_eq_false_iff_ne]; omega
        clear hm hi hn hbad
        go_enter Try.func60, Try.ntmps60
        go_wp2_with fail
        refine (is_no s p d 92 _ hs HB.out HI.out).mono ?_
        rintro e w1 ⟨rfl, hb1, F1⟩
        have HB1 := Lib.hid hb1
        have HF1 := Lib.hid F1
        clear hb1 F1
        go_wp2_with fail
        refine (next_ok hs HB1.out HN.out).mono ?_
        rintro e w2 ⟨rfl, hb2, F2⟩
        have HF2 := Lib.hid (HF1.out.tr F2)
        have HB2 := Lib.hid hb2
        clear F2 hb2
        go_wp2_with fail
        go_ret
        exact ⟨rfl, HB2.out, HF2.out⟩

/-- What a read of a regex comes to. -/
def GotR (ok : Nat → Prop) (d : Nat) (s : ByteArray) (w : World) (m : Got Rx) (e : Ending) (w' : World) : Prop :=
  match m with
  | .ok (r, q) => ∃ v, e = .returned v ∧ RxV (fun k => ok k ∨ w.heap.size ≤ k) w' v r ∧ w'.heap[d]? = some (rdObj s q) ∧ Fr (at1 d) w w'
  | .error n => e = .panicked (wrongP n) ∧ Fr (at1 d) w w'

/-- The cells of a regex in a block of its own. -/
theorem six {w : World} {r : Nat} {k : Int} {b0 b1 b2 b3 : Nat} {v5 : Value} {t : TypeId} (h : w.heap[r]? = some (.cells #[.int .i64 k, .int .u64 b0, .int .u64 b1, .int .u64 b2, .int .u64 b3, v5] t (0, 0))) :
    w.cell? ⟨r, 0, none⟩ = some (.int .i64 k) ∧ w.cell? ⟨r, 1, none⟩ = some (.int .u64 b0) ∧ w.cell? ⟨r, 2, none⟩ = some (.int .u64 b1) ∧ w.cell? ⟨r, 3, none⟩ = some (.int .u64 b2) ∧ w.cell? ⟨r, 4, none⟩ = some (.int .u64 b3) ∧ w.cell? ⟨r, 5, none⟩ = some v5 :=
  ⟨cell_of_block h rfl, cell_of_block h rfl, cell_of_block h rfl, cell_of_block h rfl, cell_of_block h rfl, cell_of_block h rfl⟩
theorem alloc_new (w : World) (o : Obj) : (w.alloc o).heap[w.heap.size]? = some o := (MapKept.heap_alloc w o).1
theorem alloc_new2 (w : World) (o o2 : Obj) : ((w.alloc o).alloc o2).heap[w.heap.size]? = some o ∧ ((w.alloc o).alloc o2).heap[w.heap.size + 1]? = some o2 := by
  refine ⟨?_, ?_⟩
  · rw [Below.heap_alloc _ _ _ (by simp)]; exact alloc_new w o
  · have := alloc_new (w.alloc o) o2
    simpa using this

theorem set_six {w : World} {r : Nat} {o0 o1 o2 o3 o4 o5 : Value} {t : TypeId} (h : w.heap[r]? = some (.cells #[o0, o1, o2, o3, o4, o5] t (0, 0))) (v0 v1 v2 v3 v4 v5 : Value) :
    ((((((w.setCell ⟨r, 0, none⟩ v0).setCell ⟨r, 1, none⟩ v1).setCell ⟨r, 2, none⟩ v2).setCell ⟨r, 3, none⟩ v3).setCell ⟨r, 4, none⟩ v4).setCell ⟨r, 5, none⟩ v5).heap[r]? = some (.cells #[v0, v1, v2, v3, v4, v5] t (0, 0)) :=
  heap_setCell _ (heap_setCell _ (heap_setCell _ (heap_setCell _ (heap_setCell _ (heap_setCell w h 0 v0) 1 v1) 2 v2) 3 v3) 4 v4) 5 v5
theorem fr_six {S : Nat → Prop} {a w : World} {r : Nat} (h : Fr S a w) (hr : S r ∨ a.heap.size ≤ r) (v0 v1 v2 v3 v4 v5 : Value) :
    Fr S a ((((((w.setCell ⟨r, 0, none⟩ v0).setCell ⟨r, 1, none⟩ v1).setCell ⟨r, 2, none⟩ v2).setCell ⟨r, 3, none⟩ v3).setCell ⟨r, 4, none⟩ v4).setCell ⟨r, 5, none⟩ v5) :=
  ((((((h.setCell (p := ⟨r, 0, none⟩) hr v0).setCell (p := ⟨r, 1, none⟩) hr v1).setCell (p := ⟨r, 2, none⟩) hr v2).setCell (p := ⟨r, 3, none⟩) hr v3).setCell (p := ⟨r, 4, none⟩) hr v4).setCell (p := ⟨r, 5, none⟩) hr v5)
theorem results_six {fn : Func} {tm : Nat} (h : fn.results = #[.cell tm 28]) {tmps : Array Value} {r : Nat} (hp : tmps.getD tm undef = .pointer (some ⟨r, 0, none⟩)) {w : World} {v0 v1 v2 v3 v4 v5 : Value} {t : TypeId}
    (hb : w.heap[r]? = some (.cells #[v0, v1, v2, v3, v4, v5] t (0, 0))) : (results fn tmps).run Try.prog w = .ok (.agg #[v0, v1, v2, v3, v4, v5]) w := by
  have c0 : w.cell? ⟨r, 0, none⟩ = some v0 := cell_of_block hb rfl
  have c1 : w.cell? ⟨r, 1, none⟩ = some v1 := cell_of_block hb rfl
  have c2 : w.cell? ⟨r, 2, none⟩ = some v2 := cell_of_block hb rfl
  have c3 : w.cell? ⟨r, 3, none⟩ = some v3 := cell_of_block hb rfl
  have c4 : w.cell? ⟨r, 4, none⟩ = some v4 := cell_of_block hb rfl
  have c5 : w.cell? ⟨r, 5, none⟩ = some v5 := cell_of_block hb rfl
  have hp' : tmps[tm]?.getD undef = .pointer (some ⟨r, 0, none⟩) := by simpa using hp
  simp [results, h, hp', go_sem, c0, c1, c2, c3, c4, c5]

theorem fit_err (r : Rx) (n : Int) (v : Value) (w : World) (ok : Nat → Prop) (hv : RxV ok w v r) (hsz : r.size < 4611686018427387904) (h : fitR r = .error n) :
    Calls Try.prog 17 #[v] w fun e w' => e = .panicked (wrongP n) ∧ Fr none_ w w' := by
  unfold fitR at h
  split at h
  · rename_i hgt
    simp at h
    subst h
    obtain ⟨k, b0, b1, b2, b3, kids⟩ := r
    obtain ⟨a, cap, rfl, hc, hl⟩ := hv.open_
    have HL := Lib.hid hl
    have h500 : (500 : Int) < ((Rx.mk k b0 b1 b2 b3 kids).size : Int) := by omega
    clear hl hv hgt
    go_enter Try.func17, Try.ntmps17
    go_wp2_with fail
    have F0 := (((Fr.refl none_ w).alloc (.cells #[.int .i64 k, .int .u64 b0, .int .u64 b1, .int .u64 b2, .int .u64 b3, .slice a kids.length cap] 28)).alloc (.cells #[.int .i64 0, .int .u64 0, .int .u64 0, .int .u64 0, .int .u64 0, .slice none 0 0] 28))
    refine (size_any _ (.mk k b0 b1 b2 b3 kids) _ _ ok (Nat.le_refl _) hsz ((RxV.mk_ hc HL.out).move F0 (fun _ _ _ h => h))).mono ?_
    rintro e w1 ⟨rfl, F1⟩
    have HF := Lib.hid (F0.tr F1)
    clear F0 F1
    go_wp2_with fail
    exact ⟨rfl, rfl, HF.out⟩
  · simp at h

theorem fit_ok (r r' : Rx) (v : Value) (w : World) (ok : Nat → Prop) (hv : RxV ok w v r) (hsz : r.size < 4611686018427387904) (h : fitR r = .ok r') :
    Calls Try.prog 17 #[v] w fun e w' => e = .returned v ∧ r' = r ∧ Fr none_ w w' := by
  unfold fitR at h
  split at h
  · simp at h
  · rename_i hle
    simp at h
    subst h
    obtain ⟨k, b0, b1, b2, b3, kids⟩ := r
    obtain ⟨a, cap, rfl, hc, hl⟩ := hv.open_
    have HL := Lib.hid hl
    have h500 : ((Rx.mk k b0 b1 b2 b3 kids).size : Int) ≤ 500 := by omega
    clear hl hv hle
    go_enter Try.func17, Try.ntmps17
    go_wp2_with fail
    have F0 := (((Fr.refl none_ w).alloc (.cells #[.int .i64 k, .int .u64 b0, .int .u64 b1, .int .u64 b2, .int .u64 b3, .slice a kids.length cap] 28)).alloc (.cells #[.int .i64 0, .int .u64 0, .int .u64 0, .int .u64 0, .int .u64 0, .slice none 0 0] 28))
    refine (size_any _ (.mk k b0 b1 b2 b3 kids) _ _ ok (Nat.le_refl _) hsz ((RxV.mk_ hc HL.out).move F0 (fun _ _ _ h => h))).mono ?_
    rintro e w1 ⟨rfl, F1⟩
    obtain ⟨n1, n2⟩ := alloc_new2 w (.cells #[.int .i64 k, .int .u64 b0, .int .u64 b1, .int .u64 b2, .int .u64 b3, .slice a kids.length cap] 28) (.cells #[.int .i64 0, .int .u64 0, .int .u64 0, .int .u64 0, .int .u64 0, .slice none 0 0] 28)
    obtain ⟨c0, c1, c2, c3, c4, c5⟩ := six (F1.at_ n1 (fun h => h))
    have hb2 := F1.at_ n2 (fun h => h)
    obtain ⟨d0, d1, d2, d3, d4, d5⟩ := six hb2
    have f2 : ∀ o, w1.frozen? ⟨w.heap.size + 1, o, none⟩ = false := fun o => free_of_block hb2
    have HF := Lib.hid (F0.tr F1)
    have HB2 := Lib.hid hb2
    clear F0 F1 n1 n2 hb2
    go_wp2_with fail
    exact bodyPost_ret (results_six rfl rfl (set_six HB2.out _ _ _ _ _ _)) rfl ⟨rfl, trivial, fr_six HF.out (.inr (by omega)) _ _ _ _ _ _⟩
end Go.Proofs.Ytjbmppbciiemkaa
