/-
  The walks over regex's reader.
-/
import Derived.Test.YtgpmbkgedhcbjaaDoorPm
import Derived.Test.YtgpmbkgedhcbjaaDoorShelf
namespace Go.Proofs.YtgpmbkgedhcbjaaDoor
open Go.RowKit

/-- A reader's block. -/
def rdObj (s : ByteArray) (p : Nat) : Obj := .cells #[.string s, .int .i64 p] 64 (0, 0)
/-- What it panics with. -/
def wrongP (n : Int) : List PanicEntry := [{ v := .iface 60 (.agg #[.int .i64 n]), recovered := false }]

theorem fail_any (v : Value) (w : World) :
    Calls Tryd.prog 24 #[v] w fun e w' => e = .panicked (wrongP 5) ∧ w = w' := by
  go_enter Tryd.func24, Tryd.ntmps24
  go_wp2_with fail
  exact ⟨rfl, rfl, rfl⟩

theorem peek_in (s : ByteArray) (p d : Nat) (w : World) (hs : s.size ≤ 1000) (hb : w.heap[d]? = some (rdObj s p)) (hp : p < s.size) :
    Calls Tryd.prog 39 #[.pointer (some ⟨d, 0, none⟩)] w fun e w' => e = .returned (.tuple #[.int .u8 (byteAt s p), .bool true]) ∧ Fr none_ w w' := by
  have c0 : w.cell? ⟨d, 0, none⟩ = some (.string s) := cell_of_block hb rfl
  have c1 : w.cell? ⟨d, 1, none⟩ = some (.int .i64 p) := cell_of_block hb rfl
  have hp2 : (p : Int) < (s.size : Int) := by omega
  have hge : decide ((s.size : Int) ≤ (p : Int)) = false := by simp; omega
  have hp3 : (0 : Int) ≤ (p : Int) := by omega
  clear hb
  go_enter Tryd.func39, Tryd.ntmps39
  go_wp2_with fail
  go_quiet (fail)
  go_wp2_with fail
  go_quiet (fail)
  go_wp2_with fail
  go_ret2
  exact ⟨by simp [byteAt_eq s p hp], by repeat (first | exact Fr.refl _ _ | apply Fr.drewN)⟩

theorem peek_out (s : ByteArray) (p d : Nat) (w : World) (hs : s.size ≤ 1000) (hb : w.heap[d]? = some (rdObj s p)) (hp : ¬ p < s.size) :
    Calls Tryd.prog 39 #[.pointer (some ⟨d, 0, none⟩)] w fun e w' => e = .returned (.tuple #[.int .u8 0, .bool false]) ∧ Fr none_ w w' := by
  have c0 : w.cell? ⟨d, 0, none⟩ = some (.string s) := cell_of_block hb rfl
  have c1 : w.cell? ⟨d, 1, none⟩ = some (.int .i64 p) := cell_of_block hb rfl
  have hge : decide ((s.size : Int) ≤ (p : Int)) = true := by simp; omega
  clear hb
  go_enter Tryd.func39, Tryd.ntmps39
  go_wp2_with fail
  go_quiet (fail)
  go_wp2_with fail
  go_ret2
  exact ⟨rfl, by repeat (first | exact Fr.refl _ _ | apply Fr.drewN)⟩

/-- A reader's block behind a store of its place. -/
theorem rd_step {w : World} {s : ByteArray} {p d : Nat} (hb : w.heap[d]? = some (rdObj s p)) (q : Nat) : (w.setCell ⟨d, 1, none⟩ (.int .i64 q)).heap[d]? = some (rdObj s q) := by
  have := heap_setCell w hb 1 (.int .i64 q)
  simpa [rdObj] using this

theorem is_yes (s : ByteArray) (p d b : Nat) (w : World) (hs : s.size ≤ 1000) (hb : w.heap[d]? = some (rdObj s p)) (h : isB s p b = true) :
    Calls Tryd.prog 34 #[.pointer (some ⟨d, 0, none⟩), .int .u8 b] w fun e w' => e = .returned (.bool true) ∧ w'.heap[d]? = some (rdObj s (p + 1)) ∧ Fr (at1 d) w w' := by
  simp only [isB, Bool.and_eq_true, decide_eq_true_eq] at h
  obtain ⟨hp, hbb⟩ := h
  have HBB := Lib.hid hbb
  have HB := Lib.hid hb
  clear hbb hb
  go_enter Tryd.func34, Tryd.ntmps34
  go_wp2_with fail
  refine (peek_in s p d _ hs HB.out hp).mono ?_
  rintro e w1 ⟨rfl, F1⟩
  have hb1 := F1.at_ HB.out (fun h => h)
  have c1 : w1.cell? ⟨d, 1, none⟩ = some (.int .i64 p) := cell_of_block hb1 rfl
  have f1 : w1.frozen? ⟨d, 1, none⟩ = false := free_of_block hb1
  have HB1 := Lib.hid hb1
  have HF1 := Lib.hid F1
  rw [HBB.out]
  clear hb1 F1
  go_wp2_with fail
  go_ret
  refine ⟨rfl, ?_, rd_set HF1.out 1 _⟩
  exact rd_step HB1.out (p + 1)

theorem is_no (s : ByteArray) (p d b : Nat) (w : World) (hs : s.size ≤ 1000) (hb : w.heap[d]? = some (rdObj s p)) (h : isB s p b = false) :
    Calls Tryd.prog 34 #[.pointer (some ⟨d, 0, none⟩), .int .u8 b] w fun e w' => e = .returned (.bool false) ∧ w'.heap[d]? = some (rdObj s p) ∧ Fr (at1 d) w w' := by
  have HB := Lib.hid hb
  clear hb
  by_cases hp : p < s.size
  · have hbb : ((byteAt s p : Int) == (b : Int)) = false := by
      simp [isB, hp] at h
      rw [beq_eq_false_iff_ne]; omega
    clear h
    go_enter Tryd.func34, Tryd.ntmps34
    go_wp2_with fail
    refine (peek_in s p d _ hs HB.out hp).mono ?_
    rintro e w1 ⟨rfl, F1⟩
    have HB1 := Lib.hid (F1.at_ HB.out (fun h => h))
    have HF1 := Lib.hid F1
    clear F1
    go_wp2_with fail
    go_ret
    exact ⟨rfl, HB1.out, HF1.out.none⟩
  · clear h
    go_enter Tryd.func34, Tryd.ntmps34
    go_wp2_with fail
    refine (peek_out s p d _ hs HB.out hp).mono ?_
    rintro e w1 ⟨rfl, F1⟩
    have HB1 := Lib.hid (F1.at_ HB.out (fun h => h))
    have HF1 := Lib.hid F1
    clear F1
    go_wp2_with fail
    go_ret
    exact ⟨rfl, HB1.out, HF1.out.none⟩

/-- What a read of a byte comes to. -/
def GotN (d : Nat) (s : ByteArray) (w : World) (m : Got Nat) (e : Ending) (w' : World) : Prop :=
  match m with
  | .ok (b, q) => e = .returned (.int .u8 b) ∧ w'.heap[d]? = some (rdObj s q) ∧ Fr (at1 d) w w'
  | .error n => e = .panicked (wrongP n) ∧ Fr (at1 d) w w'

theorem next_any (s : ByteArray) (p d : Nat) (w : World) (hs : s.size ≤ 1000) (hb : w.heap[d]? = some (rdObj s p)) :
    Calls Tryd.prog 44 #[.pointer (some ⟨d, 0, none⟩)] w (GotN d s w (nextB s p)) := by
  have HB := Lib.hid hb
  clear hb
  by_cases hp : p < s.size
  · have hm : nextB s p = .ok (byteAt s p, p + 1) := by simp [nextB, hp]
    rw [hm]
    clear hm
    go_enter Tryd.func44, Tryd.ntmps44
    go_wp2_with fail
    refine (peek_in s p d _ hs HB.out hp).mono ?_
    rintro e w1 ⟨rfl, F1⟩
    have hb1 := F1.at_ HB.out (fun h => h)
    have c1 : w1.cell? ⟨d, 1, none⟩ = some (.int .i64 p) := cell_of_block hb1 rfl
    have f1 : w1.frozen? ⟨d, 1, none⟩ = false := free_of_block hb1
    have HB1 := Lib.hid hb1
    have HF1 := Lib.hid F1
    clear hb1 F1
    go_wp2_with fail
    go_ret
    exact ⟨rfl, rd_step HB1.out (p + 1), rd_set HF1.out 1 _⟩
  · have hm : nextB s p = .error 5 := by simp [nextB, hp]
    rw [hm]
    clear hm
    go_enter Tryd.func44, Tryd.ntmps44
    go_wp2_with fail
    refine (peek_out s p d _ hs HB.out hp).mono ?_
    rintro e w1 ⟨rfl, F1⟩
    have HF1 := Lib.hid F1
    clear F1
    go_wp2_with fail
    refine (fail_any _ _).mono ?_
    rintro e w2 ⟨rfl, rfl⟩
    go_wp2_with fail
    exact ⟨rfl, rfl, HF1.out.none⟩

/-- A contract for a place: for its case by case use. -/
theorem next_ok {s : ByteArray} {p d : Nat} {w : World} (hs : s.size ≤ 1000) (hb : w.heap[d]? = some (rdObj s p)) {b q : Nat} (h : nextB s p = .ok (b, q)) :
    Calls Tryd.prog 44 #[.pointer (some ⟨d, 0, none⟩)] w fun e w' => e = .returned (.int .u8 b) ∧ w'.heap[d]? = some (rdObj s q) ∧ Fr (at1 d) w w' := by
  have := next_any s p d w hs hb
  rw [h] at this
  exact this
theorem next_err {s : ByteArray} {p d : Nat} {w : World} (hs : s.size ≤ 1000) (hb : w.heap[d]? = some (rdObj s p)) {n : Int} (h : nextB s p = .error n) :
    Calls Tryd.prog 44 #[.pointer (some ⟨d, 0, none⟩)] w fun e w' => e = .panicked (wrongP n) ∧ Fr (at1 d) w w' := by
  have := next_any s p d w hs hb
  rw [h] at this
  exact this

theorem digit_index (b : Nat) (hb : b < 256) : Lib.indexByte [48, 49, 50, 51, 52, 53, 54, 55, 56, 57, 97, 98, 99, 100, 101, 102] ((b : Int).toNat.toUInt8) = match digitV b with | none => -1 | some n => (n : Int) := by
  have : ∀ b : Fin 256, Lib.indexByte [48, 49, 50, 51, 52, 53, 54, 55, 56, 57, 97, 98, 99, 100, 101, 102] ((b.val : Int).toNat.toUInt8) = match digitV b.val with | none => -1 | some n => (n : Int) := by decide +kernel
  exact this ⟨b, hb⟩
theorem digitV_lt {b n : Nat} (h : digitV b = some n) : n < 16 := by
  unfold digitV at h
  split at h
  · simp at h; omega
  · split at h
    · simp at h; omega
    · simp at h

set_option maxRecDepth 100000 in
theorem digit_any (s : ByteArray) (p d : Nat) (w : World) (hs : s.size ≤ 1000) (hb : w.heap[d]? = some (rdObj s p)) :
    Calls Tryd.prog 61 #[.pointer (some ⟨d, 0, none⟩)] w (GotN d s w (digitB s p)) := by
  have HB := Lib.hid hb
  clear hb
  cases hn : nextB s p with
  | error n =>
    have hm : digitB s p = .error n := by simp [digitB, hn]
    rw [hm]
    clear hm
    have HN := Lib.hid hn
    clear hn
    go_enter Tryd.func61, Tryd.ntmps61
    go_wp2_with fail
    refine (next_err hs HB.out HN.out).mono ?_
    rintro e w1 ⟨rfl, F1⟩
    have HF1 := Lib.hid F1
    clear F1
    go_wp2_with fail
    exact ⟨rfl, rfl, HF1.out⟩
  | ok x =>
    obtain ⟨b, q⟩ := x
    have HN := Lib.hid hn
    have hbl : b < 256 := by
      simp only [nextB] at hn
      split at hn
      · simp at hn; rw [← hn.1]; exact byteAt_lt _ _
      · simp at hn
    have HI := Lib.hid (digit_index b hbl)
    cases hd : digitV b with
    | none =>
      have hm : digitB s p = .error 5 := by simp [digitB, hn, hd]
      rw [hm]
      clear hm hn
      rw [hd] at HI
      clear hd
      go_enter Tryd.func61, Tryd.ntmps61
      go_wp2_with fail
      refine (next_ok hs HB.out HN.out).mono ?_
      rintro e w1 ⟨rfl, hb1, F1⟩
      have HF1 := Lib.hid F1
      clear F1 hb1
      go_wp2_with fail
      refine (Tryd.strings_IndexByte _ _ _).mono ?_
      rintro e w2 ⟨rfl, rfl⟩
      rw [HI.out]
      go_wp2_with fail
      refine (fail_any _ _).mono ?_
      rintro e w2 ⟨rfl, rfl⟩
      go_wp2_with fail
      exact ⟨rfl, rfl, HF1.out⟩
    | some n =>
      have hl := digitV_lt hd
      have hm : digitB s p = .ok (n, q) := by simp [digitB, hn, hd]
      rw [hm]
      clear hm hn
      rw [hd] at HI
      clear hd
      go_enter Tryd.func61, Tryd.ntmps61
      go_wp2_with fail
      refine (next_ok hs HB.out HN.out).mono ?_
      rintro e w1 ⟨rfl, hb1, F1⟩
      have HF1 := Lib.hid F1
      have HB1 := Lib.hid hb1
      clear F1 hb1
      go_wp2_with fail
      refine (Tryd.strings_IndexByte _ _ _).mono ?_
      rintro e w2 ⟨rfl, rfl⟩
      rw [HI.out]
      have h0 : (0 : Int) ≤ (n : Int) := by omega
      have h1 : (n : Int) < 256 := by omega
      go_wp2_with fail
      go_ret
      exact ⟨rfl, HB1.out, HF1.out⟩
end Go.Proofs.YtgpmbkgedhcbjaaDoor
