/-
  How regex's reader reads, in plain Lean: a text, a place in it, and what comes of it.
  The walks over regex's reader.
  The walks over regex's reader, further on.
-/
import Derived.Test.YtjbmppbciiemkaaRx
import Derived.Test.YtjbmppbciiemkaaShelf
namespace Go.Proofs.Ytjbmppbciiemkaa set_option linter.unusedVariables false set_option linter.unusedSimpArgs false

def byteAt (s : ByteArray) (p : Nat) : Nat := if h : p < s.size then s[p].toNat else 0
theorem byteAt_eq (s : ByteArray) (p : Nat) (h : p < s.size) : s[p].toNat = byteAt s p := by simp [byteAt, h]
theorem byteAt_lt (s : ByteArray) (p : Nat) : byteAt s p < 256 := by
  unfold byteAt; split
  · exact UInt8.toNat_lt _
  · omega

/-- An error's number, or what was read and the place behind it. -/
abbrev Got (α : Type) := Except Int (α × Nat)

def isB (s : ByteArray) (p b : Nat) : Bool := decide (p < s.size) && decide (byteAt s p = b)
def nextB (s : ByteArray) (p : Nat) : Got Nat := if p < s.size then .ok (byteAt s p, p + 1) else .error 5
def digitV (b : Nat) : Option Nat := if 48 ≤ b ∧ b ≤ 57 then some (b - 48) else if 97 ≤ b ∧ b ≤ 102 then some (b - 87) else none
def digitB (s : ByteArray) (p : Nat) : Got Nat :=
  match nextB s p with
  | .error e => .error e
  | .ok (b, q) => match digitV b with
    | none => .error 5
    | some n => .ok (n, q)
def wordB (b : Nat) : Bool := decide (97 ≤ b ∧ b ≤ 122) || decide (65 ≤ b ∧ b ≤ 90) || decide (48 ≤ b ∧ b ≤ 57)
def namedB (b : Nat) : Option Nat := if b = 110 then some 10 else if b = 116 then some 9 else if b = 114 then some 13 else if b = 115 then some 32 else none
def charB (s : ByteArray) (p : Nat) : Got Nat :=
  match nextB s p with
  | .error e => .error e
  | .ok (b, q) => match namedB b with
    | some c => .ok (c, q)
    | none =>
      if b = 120 then
        match digitB s q with
        | .error e => .error e
        | .ok (hi, q1) => match digitB s q1 with
          | .error e => .error e
          | .ok (lo, q2) => .ok (hi * 16 + lo, q2)
      else if wordB b then .error 5 else .ok (b, q)
def oneB (s : ByteArray) (p : Nat) : Got Nat :=
  if isB s p 92 then charB s (p + 1) else
    match nextB s p with
    | .error e => .error e
    | .ok (b, q) => if b = 93 ∨ b = 45 then .error 5 else .ok (b, q)

/-- Four words of bits. -/
structure Bs where
  b0 : Nat
  b1 : Nat
  b2 : Nat
  b3 : Nat
def Bs.zero : Bs := ⟨0, 0, 0, 0⟩
def Bs.add (x : Bs) (b : Nat) : Bs :=
  match b / 64 with
  | 0 => { x with b0 := x.b0 ||| 2 ^ (b % 64) }
  | 1 => { x with b1 := x.b1 ||| 2 ^ (b % 64) }
  | 2 => { x with b2 := x.b2 ||| 2 ^ (b % 64) }
  | _ => { x with b3 := x.b3 ||| 2 ^ (b % 64) }
def Bs.others (x : Bs) : Bs := ⟨18446744073709551615 - x.b0, 18446744073709551615 - x.b1, 18446744073709551615 - x.b2, 18446744073709551615 - x.b3⟩
def Bs.rx (x : Bs) : Rx := .mk 1 x.b0 x.b1 x.b2 x.b3 []
/-- n bytes from one on. -/
def Bs.addN (x : Bs) (b : Nat) : Nat → Bs
  | 0 => x
  | n + 1 => (x.add b).addN (b + 1) n
def classL (s : ByteArray) : Nat → Bs → Nat → Option (Got Bs)
  | 0, _, _ => none
  | k + 1, x, p =>
    if isB s p 93 then some (.ok (x, p + 1)) else
      match oneB s p with
      | .error e => some (.error e)
      | .ok (lo, q) =>
        match (if isB s q 45 then oneB s (q + 1) else .ok (lo, q)) with
        | .error e => some (.error e)
        | .ok (hi, q2) => if hi < lo then some (.error 5) else classL s k (x.addN lo (hi + 1 - lo)) q2
def classB (s : ByteArray) (k p : Nat) : Option (Got Rx) :=
  let not := isB s p 94
  match classL s k Bs.zero (if not then p + 1 else p) with
  | none => none
  | some (.error e) => some (.error e)
  | some (.ok (x, q)) => some (.ok ((if not then x.others else x).rx, q))
def fitR (r : Rx) : Except Int Rx := if r.size > 500 then .error 4 else .ok r
def ofR (kind : Int) (l : List Rx) : Rx :=
  match l with
  | [] => .zero
  | [r] => r
  | l => .mk kind 0 0 0 0 l
def starR (r : Rx) : Rx := .mk 4 0 0 0 0 [r]
def behindB (s : ByteArray) : Nat → Rx → Nat → Option (Got Rx)
  | 0, _, _ => none
  | k + 1, r, p =>
    if isB s p 42 then
      match fitR (starR r) with
      | .error e => some (.error e)
      | .ok r' => behindB s k r' (p + 1)
    else if isB s p 43 then
      match fitR (.mk 2 0 0 0 0 [r, starR r]) with
      | .error e => some (.error e)
      | .ok r' => behindB s k r' (p + 1)
    else if isB s p 63 then
      match fitR (.mk 3 0 0 0 0 [r, .zero]) with
      | .error e => some (.error e)
      | .ok r' => behindB s k r' (p + 1)
    else some (.ok (r, p))

mutual
def waysB (s : ByteArray) : Nat → Nat → Option (Got Rx)
  | 0, _ => none
  | k + 1, p =>
    match wayB s k [] p with
    | none => none
    | some (.error e) => some (.error e)
    | some (.ok (r, q)) => waysL s k [r] q
def waysL (s : ByteArray) : Nat → List Rx → Nat → Option (Got Rx)
  | 0, _, _ => none
  | k + 1, l, p =>
    if isB s p 124 then
      match wayB s k [] (p + 1) with
      | none => none
      | some (.error e) => some (.error e)
      | some (.ok (r, q)) => waysL s k (l ++ [r]) q
    else some (.ok (ofR 3 l, p))
def wayB (s : ByteArray) : Nat → List Rx → Nat → Option (Got Rx)
  | 0, _, _ => none
  | k + 1, l, p =>
    if ¬ p < s.size ∨ byteAt s p = 124 ∨ byteAt s p = 41 then some (.ok (ofR 2 l, p)) else
      match atomB s k p with
      | none => none
      | some (.error e) => some (.error e)
      | some (.ok (r, q)) => match fitR r with
        | .error e => some (.error e)
        | .ok r => match behindB s k r q with
          | none => none
          | some (.error e) => some (.error e)
          | some (.ok (r2, q2)) => wayB s k (l ++ [r2]) q2
def atomB (s : ByteArray) : Nat → Nat → Option (Got Rx)
  | 0, _ => none
  | k + 1, p =>
    match nextB s p with
    | .error e => some (.error e)
    | .ok (b, q) =>
      if b = 40 then
        match waysB s k q with
        | none => none
        | some (.error e) => some (.error e)
        | some (.ok (r, q2)) => if isB s q2 41 then some (.ok (r, q2 + 1)) else some (.error 5)
      else if b = 91 then classB s k q
      else if b = 46 then some (.ok ((Bs.zero.add 10).others.rx, q))
      else if b = 92 then
        match charB s q with
        | .error e => some (.error e)
        | .ok (c, q2) => some (.ok ((Bs.zero.add c).rx, q2))
      else if b = 42 ∨ b = 43 ∨ b = 63 ∨ b = 93 ∨ b = 124 ∨ b = 41 then some (.error 5)
      else some (.ok ((Bs.zero.add b).rx, q))
end
/-- The regex of a text, or an error's number. -/
def parseB (s : ByteArray) (k : Nat) : Option (Except Int Rx) :=
  if s.size > 200 then some (.error 4) else
    match waysB s k 0 with
    | none => none
    | some (.error e) => some (.error e)
    | some (.ok (r, q)) => if q < s.size then some (.error 5) else match fitR r with
      | .error e => some (.error e)
      | .ok r => some (.ok r)
end Go.Proofs.Ytjbmppbciiemkaa

namespace Go.Proofs.Ytjbmppbciiemkaa set_option linter.unusedVariables false set_option linter.unusedSimpArgs false
open Go.RowKit

/-- A reader's block. -/
def rdObj (s : ByteArray) (p : Nat) : Obj := .cells #[.string s, .int .i64 p] 43 (0, 0)
/-- What it panics with. -/
def wrongP (n : Int) : List PanicEntry := [{ v := .iface 39 (.agg #[.int .i64 n]), recovered := false }]

theorem fail_any (v : Value) (w : World) :
    Calls Try.prog 16 #[v] w fun e w' => e = .panicked (wrongP 5) ∧ w = w' := by
  go_enter Try.func16, Try.ntmps16
  go_wp2_with fail
  exact ⟨rfl, rfl, rfl⟩

theorem peek_in (s : ByteArray) (p d : Nat) (w : World) (hs : s.size ≤ 1000) (hb : w.heap[d]? = some (rdObj s p)) (hp : p < s.size) :
    Calls Try.prog 39 #[.pointer (some ⟨d, 0, none⟩)] w fun e w' => e = .returned (.tuple #[.int .u8 (byteAt s p), .bool true]) ∧ Fr none_ w w' := by
  have c0 : w.cell? ⟨d, 0, none⟩ = some (.string s) := cell_of_block hb rfl
  have c1 : w.cell? ⟨d, 1, none⟩ = some (.int .i64 p) := cell_of_block hb rfl
  have hp2 : (p : Int) < (s.size : Int) := by omega
  have hge : decide ((s.size : Int) ≤ (p : Int)) = false := by simp; omega
  have hp3 : (0 : Int) ≤ (p : Int) := by omega
  clear hb
  go_enter Try.func39, Try.ntmps39
  go_wp2_with fail
  go_quiet (fail)
  go_wp2_with fail
  go_quiet (fail)
  go_wp2_with fail
  go_ret2
  exact ⟨by simp [byteAt_eq s p hp], by repeat (first | exact Fr.refl _ _ | apply Fr.drewN)⟩

theorem peek_out (s : ByteArray) (p d : Nat) (w : World) (hs : s.size ≤ 1000) (hb : w.heap[d]? = some (rdObj s p)) (hp : ¬ p < s.size) :
    Calls Try.prog 39 #[.pointer (some ⟨d, 0, none⟩)] w fun e w' => e = .returned (.tuple #[.int .u8 0, .bool false]) ∧ Fr none_ w w' := by
  have c0 : w.cell? ⟨d, 0, none⟩ = some (.string s) := cell_of_block hb rfl
  have c1 : w.cell? ⟨d, 1, none⟩ = some (.int .i64 p) := cell_of_block hb rfl
  have hge : decide ((s.size : Int) ≤ (p : Int)) = true := by simp; omega
  clear hb
  go_enter Try.func39, Try.ntmps39
  go_wp2_with fail
  go_quiet (fail)
  go_wp2_with fail
  go_ret2
  exact ⟨rfl, by repeat (first | exact Fr.refl _ _ | apply Fr.drewN)⟩

/-- A reader's block behind a store of its place. -/
theorem rd_step {w : World} {s : ByteArray} {p d : Nat} (hb : w.heap[d]? = some (rdObj s p)) (q : Nat) : (w.setCell ⟨d, 1, none⟩ (.int .i64 q)).heap[d]? = some (rdObj s q) := by
  have := heap_setCell w hb 1 (.int .i64 q)
  simpa [rdObj] using this

theorem is_yes (s : ByteArray) (p d b : Nat) (w : World) (hs : s.size ≤ 1000) (hb : w.heap[d]? = some (rdObj s p)) (h : isB s p b = true) :
    Calls Try.prog 27 #[.pointer (some ⟨d, 0, none⟩), .int .u8 b] w fun e w' => e = .returned (.bool true) ∧ w'.heap[d]? = some (rdObj s (p + 1)) ∧ Fr (at1 d) w w' := by
  simp only [isB, Bool.and_eq_true, decide_eq_true_eq] at h
  obtain ⟨hp, hbb⟩ := h
  have HBB := Lib.hid hbb
  have HB := Lib.hid hb
  clear hbb hb
  go_enter Try.func27, Try.ntmps27
  go_wp2_with fail
  refine (peek_in s p d _ hs HB.out hp).mono ?_
  rintro e w1 ⟨rfl, F1⟩
  have hb1 := F1.at_ HB.out (fun h => h)
  have c1 : w1.cell? ⟨d, 1, none⟩ = some (.int .i64 p) := cell_of_block hb1 rfl
  have f1 : w1.frozen? ⟨d, 1, none⟩ = false := free_of_block hb1
  have HB1 := Lib.hid hb1
  have HF1 := Lib.hid F1
  rw [HBB.out]
  clear hb1 F1
  go_wp2_with fail
  go_ret
  refine ⟨rfl, ?_, rd_set HF1.out 1 _⟩
  exact rd_step HB1.out (p + 1)

theorem is_no (s : ByteArray) (p d b : Nat) (w : World) (hs : s.size ≤ 1000) (hb : w.heap[d]? = some (rdObj s p)) (h : isB s p b = false) :
    Calls Try.prog 27 #[.pointer (some ⟨d, 0, none⟩), .int .u8 b] w fun e w' => e = .returned (.bool false) ∧ w'.heap[d]? = some (rdObj s p) ∧ Fr (at1 d) w w' := by
  have HB := Lib.hid hb
  clear hb
  by_cases hp : p < s.size
  · have hbb : ((byteAt s p : Int) == (b : Int)) = false := by
      simp [isB, hp] at h
      rw [beq_eq_false_iff_ne]; omega
    clear h
    go_enter Try.func27, Try.ntmps27
    go_wp2_with fail
    refine (peek_in s p d _ hs HB.out hp).mono ?_
    rintro e w1 ⟨rfl, F1⟩
    have HB1 := Lib.hid (F1.at_ HB.out (fun h => h))
    have HF1 := Lib.hid F1
    clear F1
    go_wp2_with fail
    go_ret
    exact ⟨rfl, HB1.out, HF1.out.none⟩
  · clear h
    go_enter Try.func27, Try.ntmps27
    go_wp2_with fail
    refine (peek_out s p d _ hs HB.out hp).mono ?_
    rintro e w1 ⟨rfl, F1⟩
    have HB1 := Lib.hid (F1.at_ HB.out (fun h => h))
    have HF1 := Lib.hid F1
    clear F1
    go_wp2_with fail
    go_ret
    exact ⟨rfl, HB1.out, HF1.out.none⟩

/-- What a read of a byte comes to. -/
def GotN (d : Nat) (s : ByteArray) (w : World) (m : Got Nat) (e : Ending) (w' : World) : Prop :=
  match m with
  | .ok (b, q) => e = .returned (.int .u8 b) ∧ w'.heap[d]? = some (rdObj s q) ∧ Fr (at1 d) w w'
  | .error n => e = .panicked (wrongP n) ∧ Fr (at1 d) w w'

theorem next_any (s : ByteArray) (p d : Nat) (w : World) (hs : s.size ≤ 1000) (hb : w.heap[d]? = some (rdObj s p)) :
    Calls Try.prog 48 #[.pointer (some ⟨d, 0, none⟩)] w (GotN d s w (nextB s p)) := by
  have HB := Lib.hid hb
  clear hb
  by_cases hp : p < s.size
  · have hm : nextB s p = .ok (byteAt s p, p + 1) := by simp [nextB, hp]
    rw [hm]
    clear hm
    go_enter Try.func48, Try.ntmps48
    go_wp2_with fail
    refine (peek_in s p d _ hs HB.out hp).mono ?_
    rintro e w1 ⟨rfl, F1⟩
    have hb1 := F1.at_ HB.out (fun h => h)
    have c1 : w1.cell? ⟨d, 1, none⟩ = some (.int .i64 p) := cell_of_block hb1 rfl
    have f1 : w1.frozen? ⟨d, 1, none⟩ = false := free_of_block hb1
    have HB1 := Lib.hid hb1
    have HF1 := Lib.hid F1
    clear hb1 F1
    go_wp2_with fail
    go_ret
    exact ⟨rfl, rd_step HB1.out (p + 1), rd_set HF1.out 1 _⟩
  · have hm : nextB s p = .error 5 := by simp [nextB, hp]
    rw [hm]
    clear hm
    go_enter Try.func48, Try.ntmps48
    go_wp2_with fail
    refine (peek_out s p d _ hs HB.out hp).mono ?_
    rintro e w1 ⟨rfl, F1⟩
    have HF1 := Lib.hid F1
    clear F1
    go_wp2_with fail
    refine (fail_any _ _).mono ?_
    rintro e w2 ⟨rfl, rfl⟩
    go_wp2_with fail
    exact ⟨rfl, rfl, HF1.out.none⟩

/-- A contract for a place: for its case by case use. -/
theorem next_ok {s : ByteArray} {p d : Nat} {w : World} (hs : s.size ≤ 1000) (hb : w.heap[d]? = some (rdObj s p)) {b q : Nat} (h : nextB s p = .ok (b, q)) :
    Calls Try.prog 48 #[.pointer (some ⟨d, 0, none⟩)] w fun e w' => e = .returned (.int .u8 b) ∧ w'.heap[d]? = some (rdObj s q) ∧ Fr (at1 d) w w' := by
  have := next_any s p d w hs hb
  rw [h] at this
  exact this
theorem next_err {s : ByteArray} {p d : Nat} {w : World} (hs : s.size ≤ 1000) (hb : w.heap[d]? = some (rdObj s p)) {n : Int} (h : nextB s p = .error n) :
    Calls Try.prog 48 #[.pointer (some ⟨d, 0, none⟩)] w fun e w' => e = .panicked (wrongP n) ∧ Fr (at1 d) w w' := by
  have := next_any s p d w hs hb
  rw [h] at this
  exact this

theorem digit_index (b : Nat) (hb : b < 256) : Lib.indexByte [48, 49, 50, 51, 52, 53, 54, 55, 56, 57, 97, 98, 99, 100, 101, 102] ((b : Int).toNat.toUInt8) = match digitV b with | none => -1 | some n => (n : Int) := by
  have : ∀ b : Fin 256, Lib.indexByte [48, 49, 50, 51, 52, 53, 54, 55, 56, 57, 97, 98, 99, 100, 101, 102] ((b.val : Int).toNat.toUInt8) = match digitV b.val with | none => -1 | some n => (n : Int) := by decide +kernel
  exact this ⟨b, hb⟩
theorem digitV_lt {b n : Nat} (h : digitV b = some n) : n < 16 := by
  unfold digitV at h
  split at h
  · simp at h; omega
  · split at h
    · simp at h; omega
    · simp at h

set_option maxRecDepth 100000 in
theorem digit_any (s : ByteArray) (p d : Nat) (w : World) (hs : s.size ≤ 1000) (hb : w.heap[d]? = some (rdObj s p)) :
    Calls Try.prog 61 #[.pointer (some ⟨d, 0, none⟩)] w (GotN d s w (digitB s p)) := by
  have HB := Lib.hid hb
  clear hb
  cases hn : nextB s p with
  | error n =>
    have hm : digitB s p = .error n := by simp [digitB, hn]
    rw [hm]
    clear hm
    have HN := Lib.hid hn
    clear hn
    go_enter Try.func61, Try.ntmps61
    go_wp2_with fail
    refine (next_err hs HB.out HN.out).mono ?_
    rintro e w1 ⟨rfl, F1⟩
    have HF1 := Lib.hid F1
    clear F1
    go_wp2_with fail
    exact ⟨rfl, rfl, HF1.out⟩
  | ok x =>
    obtain ⟨b, q⟩ := x
    have HN := Lib.hid hn
    have hbl : b < 256 := by
      simp only [nextB] at hn
      split at hn
      · simp at hn; rw [← hn.1]; exact byteAt_lt _ _
      · simp at hn
    have HI := Lib.hid (digit_index b hbl)
    cases hd : digitV b with
    | none =>
      have hm : digitB s p = .error 5 := by simp [digitB, hn, hd]
      rw [hm]
      clear hm hn
      rw [hd] at HI
      clear hd
      go_enter Try.func61, Try.ntmps61
      go_wp2_with fail
      refine (next_ok hs HB.out HN.out).mono ?_
      rintro e w1 ⟨rfl, hb1, F1⟩
      have HF1 := Lib.hid F1
      clear F1 hb1
      go_wp2_with fail
      refine (Try.strings_IndexByte _ _ _).mono ?_
      rintro e w2 ⟨rfl, rfl⟩
      rw [HI.out]
      go_wp2_with fail
      refine (fail_any _ _).mono ?_
      rintro e w2 ⟨rfl, rfl⟩
      go_wp2_with fail
      exact ⟨rfl, rfl, HF1.out⟩
    | some n =>
      have hl := digitV_lt hd
      have hm : digitB s p = .ok (n, q) := by simp [digitB, hn, hd]
      rw [hm]
      clear hm hn
      rw [hd] at HI
      clear hd
      go_enter Try.func61, Try.ntmps61
      go_wp2_with fail
      refine (next_ok hs HB.out HN.out).mono ?_
      rintro e w1 ⟨rfl, hb1, F1⟩
      have HF1 := Lib.hid F1
      have HB1 := Lib.hid hb1
      clear F1 hb1
      go_wp2_with fail
      refine (Try.strings_IndexByte _ _ _).mono ?_
      rintro e w2 ⟨rfl, rfl⟩
      rw [HI.out]
      have h0 : (0 : Int) ≤ (n : Int) := by omega
      have h1 : (n : Int) < 256 := by omega
      go_wp2_with fail
      go_ret
      exact ⟨rfl, HB1.out, HF1.out⟩
end Go.Proofs.Ytjbmppbciiemkaa

namespace Go.Proofs.Ytjbmppbciiemkaa set_option linter.unusedVariables false set_option linter.unusedSimpArgs false
open Go.RowKit

theorem word_any (b : Nat) (hb : b < 256) (w : World) :
    Calls Try.prog 62 #[.int .u8 b] w fun e w' => e = .returned (.bool (wordB b)) ∧ w = w' := by
  by_cases h1 : 97 ≤ b
  · by_cases h2 : b ≤ 122
    · have hw : wordB b = true := by simp [wordB]; omega
      rw [hw]; clear hw
      go_enter Try.func62, Try.ntmps62
      go_wp2
      go_ret
      refine ⟨?_, rfl⟩; simp <;> omega
    · have hw : wordB b = false := by simp [wordB]; omega
      rw [hw]; clear hw
      have g1 : ¬ b ≤ 90 := by omega
      have g2 : ¬ b ≤ 57 := by omega
      have g3 : 65 ≤ b := by omega
      have g4 : 48 ≤ b := by omega
      go_enter Try.func62, Try.ntmps62
      go_wp2
      go_ret
      refine ⟨?_, rfl⟩; simp <;> omega
  · by_cases h3 : 65 ≤ b
    · by_cases h4 : b ≤ 90
      · have hw : wordB b = true := by simp [wordB]; omega
        rw [hw]; clear hw
        go_enter Try.func62, Try.ntmps62
        go_wp2
        go_ret
        refine ⟨?_, rfl⟩; simp <;> omega
      · have hw : wordB b = false := by simp [wordB]; omega
        rw [hw]; clear hw
        have g2 : ¬ b ≤ 57 := by omega
        have g4 : 48 ≤ b := by omega
        go_enter Try.func62, Try.ntmps62
        go_wp2
        go_ret
        refine ⟨?_, rfl⟩; simp <;> omega
    · by_cases h5 : 48 ≤ b
      · by_cases h6 : b ≤ 57
        · have hw : wordB b = true := by simp [wordB]; omega
          rw [hw]; clear hw
          go_enter Try.func62, Try.ntmps62
          go_wp2
          go_ret
          refine ⟨?_, rfl⟩; simp <;> omega
        · have hw : wordB b = false := by simp [wordB]; omega
          rw [hw]; clear hw
          go_enter Try.func62, Try.ntmps62
          go_wp2
          go_ret
          refine ⟨?_, rfl⟩; simp <;> omega
      · have hw : wordB b = false := by simp [wordB]; omega
        rw [hw]; clear hw
        go_enter Try.func62, Try.ntmps62
        go_wp2
        go_ret
        refine ⟨?_, rfl⟩; simp <;> omega

theorem run_put {P : Program} {T K V : TypeId} (hT : P.underlying T = some (.map K V)) (hK : P.underlying K = some (.int .u8)) (W : World) (r : Nat) (es : Array MapEntry) (c : Nat) (k : Int) (v : Value)
    (hr : W.heap[r]? = some (.map es c)) (hf : Instr.findNow (.int .u8) (.int .u8 k) es.toList 0 = some none) :
    (Instr.mapUpdate T (.map (some r)) (.int .u8 k) v).run P W = .ok () { W with heap := W.heap.setIfInBounds r (.map (es.push { key := .int .u8 k, val := v, born := c }) (c + 1)) } := by
  have hk : MapKept.IsKey (.int .u8) (.int .u8 k) := by simp [MapKept.IsKey]
  simp [Instr.mapUpdate, run_underlying hT, MapKept.run_getObj_map hr, MapKept.run_checkKey hK hk, MapKept.run_findKey hK hf, MapKept.run_setObj_map _ hr, Result.andThen]
theorem run_put_new {P : Program} {T K V : TypeId} (hT : P.underlying T = some (.map K V)) (hK : P.underlying K = some (.int .u8)) (W : World) (es : Array MapEntry) (c : Nat) (k : Int) (v : Value)
    (hf : Instr.findNow (.int .u8) (.int .u8 k) es.toList 0 = some none) :
    (Instr.mapUpdate T (.map (some W.heap.size)) (.int .u8 k) v).run P (W.alloc (.map es c)) = .ok () (W.alloc (.map (es.push { key := .int .u8 k, val := v, born := c }) (c + 1))) := by
  rw [run_put hT hK (W.alloc (.map es c)) W.heap.size es c k v (MapKept.heap_alloc W _).1 hf]
  have : (W.alloc (.map es c)).heap.setIfInBounds W.heap.size (.map (es.push { key := .int .u8 k, val := v, born := c }) (c + 1)) = (W.alloc (.map (es.push { key := .int .u8 k, val := v, born := c }) (c + 1))).heap := by
    show (W.heap.push _).setIfInBounds W.heap.size _ = W.heap.push _
    apply Array.toList_inj.1
    simp [Array.toList_setIfInBounds, List.set_append]
  rw [this]
  rfl
theorem run_look_none {P : Program} {T K V : TypeId} {z : Value} (hT : P.underlying T = some (.map K V)) (hK : P.underlying K = some (.int .u8)) (hz : ∀ w, (zeroValue V).run P w = .ok z w) (W : World) (r : Nat) (es : Array MapEntry) (c : Nat) (k : Int)
    (hr : W.heap[r]? = some (.map es c)) (hf : Instr.findNow (.int .u8) (.int .u8 k) es.toList 0 = some none) :
    (Instr.lookup T (.map (some r)) (.int .u8 k) true).run P W = .ok (.tuple #[z, .bool false]) W := by
  have hk : MapKept.IsKey (.int .u8) (.int .u8 k) := by simp [MapKept.IsKey]
  simp [Instr.lookup, run_underlying hT, MapKept.run_getObj_map hr, MapKept.run_checkKey hK hk, MapKept.run_findKey hK hf, hz, Result.andThen]
theorem run_look_some {P : Program} {T K V : TypeId} (hT : P.underlying T = some (.map K V)) (hK : P.underlying K = some (.int .u8)) (W : World) (r : Nat) (es : Array MapEntry) (c : Nat) (k : Int) (i : Nat) (v : Value)
    (hr : W.heap[r]? = some (.map es c)) (hf : Instr.findNow (.int .u8) (.int .u8 k) es.toList 0 = some (some (i, v))) :
    (Instr.lookup T (.map (some r)) (.int .u8 k) true).run P W = .ok (.tuple #[v, .bool true]) W := by
  have hk : MapKept.IsKey (.int .u8) (.int .u8 k) := by simp [MapKept.IsKey]
  simp [Instr.lookup, run_underlying hT, MapKept.run_getObj_map hr, MapKept.run_checkKey hK hk, MapKept.run_findKey hK hf, Result.andThen]

def nm (k v : Int) (b : Nat) : MapEntry := { key := .int .u8 k, val := .int .u8 v, born := b }
def nmAll : Array MapEntry := #[nm 110 10 0, nm 116 9 1, nm 114 13 2, nm 115 32 3]
def nmGot (b : Nat) : Value := match namedB b with
  | some c => .tuple #[.int .u8 c, .bool true]
  | none => .tuple #[.int .u8 0, .bool false]
theorem nm_look {W : World} {r : Nat} (hr : W.heap[r]? = some (.map nmAll 4)) (b : Nat) :
    (Instr.lookup 90 (.map (some r)) (.int .u8 b) true).run Try.prog W = .ok (nmGot b) W := by
  have lks := fun (i : Nat) (v : Value) => run_look_some Try.underlying90 Try.underlying5 W r nmAll 4 (b : Int) i v hr
  have lkn := run_look_none (z := .int .u8 0) Try.underlying90 Try.underlying5 (fun w => by kernel_rfl) W r nmAll 4 (b : Int) hr
  unfold nmGot namedB
  by_cases h1 : b = 110
  · subst h1; exact lks 0 _ rfl
  · by_cases h2 : b = 116
    · subst h2; exact lks 1 _ rfl
    · by_cases h3 : b = 114
      · subst h3; exact lks 2 _ rfl
      · by_cases h4 : b = 115
        · subst h4; exact lks 3 _ rfl
        · have e1 : ((b : Int) == 110) = false := by rw [beq_eq_false_iff_ne]; omega
          have e2 : ((b : Int) == 116) = false := by rw [beq_eq_false_iff_ne]; omega
          have e3 : ((b : Int) == 114) = false := by rw [beq_eq_false_iff_ne]; omega
          have e4 : ((b : Int) == 115) = false := by rw [beq_eq_false_iff_ne]; omega
          rw [lkn (by simp [nmAll, nm, Instr.findNow, Instr.sameNow, e1, e2, e3, e4])]
          simp [h1, h2, h3, h4]
theorem digit_ok {s : ByteArray} {p d : Nat} {w : World} (hs : s.size ≤ 1000) (hb : w.heap[d]? = some (rdObj s p)) {b q : Nat} (h : digitB s p = .ok (b, q)) :
    Calls Try.prog 61 #[.pointer (some ⟨d, 0, none⟩)] w fun e w' => e = .returned (.int .u8 b) ∧ w'.heap[d]? = some (rdObj s q) ∧ Fr (at1 d) w w' := by
  have := digit_any s p d w hs hb
  rw [h] at this
  exact this
theorem digit_err {s : ByteArray} {p d : Nat} {w : World} (hs : s.size ≤ 1000) (hb : w.heap[d]? = some (rdObj s p)) {n : Int} (h : digitB s p = .error n) :
    Calls Try.prog 61 #[.pointer (some ⟨d, 0, none⟩)] w fun e w' => e = .panicked (wrongP n) ∧ Fr (at1 d) w w' := by
  have := digit_any s p d w hs hb
  rw [h] at this
  exact this
theorem nextB_lt {s : ByteArray} {p b q : Nat} (h : nextB s p = .ok (b, q)) : b < 256 ∧ q = p + 1 ∧ p < s.size ∧ b = byteAt s p := by
  simp only [nextB] at h
  split at h
  · simp at h; exact ⟨by rw [← h.1]; exact byteAt_lt _ _, h.2.symm, by assumption, h.1.symm⟩
  · simp at h
theorem digitB_lt {s : ByteArray} {p b q : Nat} (h : digitB s p = .ok (b, q)) : b < 16 ∧ q = p + 1 := by
  simp only [digitB] at h
  split at h
  · simp at h
  · rename_i hn
    split at h
    · simp at h
    · rename_i hd
      simp at h
      exact ⟨by rw [← h.1]; exact digitV_lt hd, by rw [← h.2]; exact (nextB_lt hn).2.1⟩

theorem or_digits (hi lo : Nat) (h : hi < 16) (l : lo < 16) : bits BinOp.or IntKind.u8 ((hi : Int) * 16) (lo : Int) = (hi : Int) * 16 + lo := by
  have : ∀ a b : Fin 16, bits BinOp.or IntKind.u8 ((a.val : Int) * 16) (b.val : Int) = (a.val : Int) * 16 + b.val := by decide +kernel
  exact this ⟨hi, h⟩ ⟨lo, l⟩
set_option maxRecDepth 100000 in
set_option maxHeartbeats 1000000 in
theorem char_any (s : ByteArray) (p d : Nat) (w : World) (hs : s.size ≤ 1000) (hb : w.heap[d]? = some (rdObj s p)) :
    Calls Try.prog 52 #[.pointer (some ⟨d, 0, none⟩)] w (GotN d s w (charB s p)) := by
  have m0 := @run_makeMap Try.prog
  have m1 : ∀ W : World, (Instr.mapUpdate 90 (.map (some W.heap.size)) (.int .u8 110) (.int .u8 10)).run Try.prog (W.alloc (.map #[] 0)) = .ok () (W.alloc (.map #[nm 110 10 0] 1)) := fun W => run_put_new Try.underlying90 Try.underlying5 W _ _ _ _ rfl
  have m2 : ∀ W : World, (Instr.mapUpdate 90 (.map (some W.heap.size)) (.int .u8 116) (.int .u8 9)).run Try.prog (W.alloc (.map #[nm 110 10 0] 1)) = .ok () (W.alloc (.map #[nm 110 10 0, nm 116 9 1] 2)) := fun W => run_put_new Try.underlying90 Try.underlying5 W _ _ _ _ rfl
  have m3 : ∀ W : World, (Instr.mapUpdate 90 (.map (some W.heap.size)) (.int .u8 114) (.int .u8 13)).run Try.prog (W.alloc (.map #[nm 110 10 0, nm 116 9 1] 2)) = .ok () (W.alloc (.map #[nm 110 10 0, nm 116 9 1, nm 114 13 2] 3)) := fun W => run_put_new Try.underlying90 Try.underlying5 W _ _ _ _ rfl
  have m4 : ∀ W : World, (Instr.mapUpdate 90 (.map (some W.heap.size)) (.int .u8 115) (.int .u8 32)).run Try.prog (W.alloc (.map #[nm 110 10 0, nm 116 9 1, nm 114 13 2] 3)) = .ok () (W.alloc (.map nmAll 4)) := fun W => run_put_new Try.underlying90 Try.underlying5 W _ _ _ _ rfl
  have hdlt := lt_of_block hb
  have F0 := Lib.hid ((Fr.refl none_ w).alloc (.map nmAll 4))
  have HB0 := Lib.hid (F0.out.at_ hb (fun h => h))
  have HM0 := Lib.hid (MapKept.heap_alloc w (.map nmAll 4)).1
  have HNE := Lib.hid (show ¬ at1 d w.heap.size by simp only [at1]; omega)
  clear hb
  cases hn : nextB s p with
  | error n =>
    have hm : charB s p = .error n := by simp [charB, hn]
    rw [hm]
    have HN := Lib.hid hn
    clear hn hm
    go_enter Try.func52, Try.ntmps52
    go_wp2_with fail
    refine (next_err hs HB0.out HN.out).mono ?_
    rintro e w1 ⟨rfl, F1⟩
    have HF1 := Lib.hid (F0.out.none.tr F1)
    clear F1
    go_wp2_with fail
    exact ⟨rfl, rfl, HF1.out⟩
  | ok x =>
    obtain ⟨b, q⟩ := x
    have hbl := (nextB_lt hn).1
    have HN := Lib.hid hn
    cases hnm : namedB b with
    | some c =>
      have hm : charB s p = .ok (c, q) := by simp [charB, hn, hnm]
      rw [hm]
      clear hm hn
      have HNM := Lib.hid hnm
      clear hnm
      go_enter Try.func52, Try.ntmps52
      go_wp2_with fail
      refine (next_ok hs HB0.out HN.out).mono ?_
      rintro e w1 ⟨rfl, hb1, F1⟩
      have lk := nm_look (F1.at_ HM0.out HNE.out) b
      unfold nmGot at lk
      rw [HNM.out] at lk
      simp only at lk
      have HF1 := Lib.hid (F0.out.none.tr F1)
      have HB1 := Lib.hid hb1
      clear F1 hb1
      go_wp2_with fail
      go_ret
      exact ⟨rfl, HB1.out, HF1.out⟩
    | none =>
      have HNM := Lib.hid hnm
      by_cases h120 : b = 120
      · have hbe : ((b : Int) == 120) = true := by rw [beq_iff_eq]; omega
        cases h1 : digitB s q with
        | error n =>
          have hm : charB s p = .error n := by simp only [charB, hn, hnm]; rw [if_pos h120]; simp only [h1]
          rw [hm]
          have H1 := Lib.hid h1
          clear hm hn hnm h1 h120
          go_enter Try.func52, Try.ntmps52
          go_wp2_with fail
          refine (next_ok hs HB0.out HN.out).mono ?_
          rintro e w1 ⟨rfl, hb1, F1⟩
          have lk := nm_look (F1.at_ HM0.out HNE.out) b
          unfold nmGot at lk
          rw [HNM.out] at lk
          simp only at lk
          have HF1 := Lib.hid (F0.out.none.tr F1)
          have HB1 := Lib.hid hb1
          clear F1 hb1
          go_wp2_with fail
          refine (digit_err hs HB1.out H1.out).mono ?_
          rintro e w2 ⟨rfl, F2⟩
          have HF2 := Lib.hid (HF1.out.tr F2)
          clear F2
          go_wp2_with fail
          exact ⟨rfl, rfl, HF2.out⟩
        | ok x1 =>
          obtain ⟨hi, q1⟩ := x1
          have hil := (digitB_lt h1).1
          have H1 := Lib.hid h1
          cases h2 : digitB s q1 with
          | error n =>
            have hm : charB s p = .error n := by simp only [charB, hn, hnm]; rw [if_pos h120]; simp only [h1, h2]
            rw [hm]
            have H2 := Lib.hid h2
            clear hm hn hnm h1 h2 h120
            go_enter Try.func52, Try.ntmps52
            go_wp2_with fail
            refine (next_ok hs HB0.out HN.out).mono ?_
            rintro e w1 ⟨rfl, hb1, F1⟩
            have lk := nm_look (F1.at_ HM0.out HNE.out) b
            unfold nmGot at lk
            rw [HNM.out] at lk
            simp only at lk
            have HF1 := Lib.hid (F0.out.none.tr F1)
            have HB1 := Lib.hid hb1
            clear F1 hb1
            go_wp2_with fail
            refine (digit_ok hs HB1.out H1.out).mono ?_
            rintro e w2 ⟨rfl, hb2, F2⟩
            have HF2 := Lib.hid (HF1.out.tr F2)
            have HB2 := Lib.hid hb2
            clear F2 hb2
            go_wp2_with fail
            refine (digit_err hs HB2.out H2.out).mono ?_
            rintro e w3 ⟨rfl, F3⟩
            have HF3 := Lib.hid (HF2.out.tr F3)
            clear F3
            go_wp2_with fail
            exact ⟨rfl, rfl, HF3.out⟩
          | ok x2 =>
            obtain ⟨lo, q2⟩ := x2
            have hll := (digitB_lt h2).1
            have hm : charB s p = .ok (hi * 16 + lo, q2) := by simp only [charB, hn, hnm]; rw [if_pos h120]; simp only [h1, h2]
            rw [hm]
            have H2 := Lib.hid h2
            clear hm hn hnm h1 h2 h120
            go_enter Try.func52, Try.ntmps52
            go_wp2_with fail
            refine (next_ok hs HB0.out HN.out).mono ?_
            rintro e w1 ⟨rfl, hb1, F1⟩
            have lk := nm_look (F1.at_ HM0.out HNE.out) b
            unfold nmGot at lk
            rw [HNM.out] at lk
            simp only at lk
            have HF1 := Lib.hid (F0.out.none.tr F1)
            have HB1 := Lib.hid hb1
            clear F1 hb1
            go_wp2_with fail
            refine (digit_ok hs HB1.out H1.out).mono ?_
            rintro e w2 ⟨rfl, hb2, F2⟩
            have HF2 := Lib.hid (HF1.out.tr F2)
            have HB2 := Lib.hid hb2
            clear F2 hb2
            go_wp2_with fail
            refine (digit_ok hs HB2.out H2.out).mono ?_
            rintro e w3 ⟨rfl, hb3, F3⟩
            have HF3 := Lib.hid (HF2.out.tr F3)
            have HB3 := Lib.hid hb3
            clear F3 hb3
            go_wp2_with fail
            go_ret
            have ho := or_digits hi lo hil hll
            exact ⟨by simp [ho], HB3.out, HF3.out⟩
      · have hne : ((b : Int) == 120) = false := by rw [beq_eq_false_iff_ne]; omega
        cases hw : wordB b with
        | true =>
          have hm : charB s p = .error 5 := by simp [charB, hn, hnm, h120, hw]
          rw [hm]
          have HW := Lib.hid hw
          clear hm hn hnm hw h120
          go_enter Try.func52, Try.ntmps52
          go_wp2_with fail
          refine (next_ok hs HB0.out HN.out).mono ?_
          rintro e w1 ⟨rfl, hb1, F1⟩
          have lk := nm_look (F1.at_ HM0.out HNE.out) b
          unfold nmGot at lk
          rw [HNM.out] at lk
          simp only at lk
          have HF1 := Lib.hid (F0.out.none.tr F1)
          clear F1 hb1
          go_wp2_with fail
          refine (word_any b hbl _).mono ?_
          rintro e w2 ⟨rfl, rfl⟩
          rw [HW.out]
          go_wp2_with fail
          refine (fail_any _ _).mono ?_
          rintro e w2 ⟨rfl, rfl⟩
          go_wp2_with fail
          exact ⟨rfl, rfl, HF1.out⟩
        | false =>
          have hm : charB s p = .ok (b, q) := by simp [charB, hn, hnm, h120, hw]
          rw [hm]
          have HW := Lib.hid hw
          clear hm hn hnm hw h120
          go_enter Try.func52, Try.ntmps52
          go_wp2_with fail
          refine (next_ok hs HB0.out HN.out).mono ?_
          rintro e w1 ⟨rfl, hb1, F1⟩
          have lk := nm_look (F1.at_ HM0.out HNE.out) b
          unfold nmGot at lk
          rw [HNM.out] at lk
          simp only at lk
          have HF1 := Lib.hid (F0.out.none.tr F1)
          have HB1 := Lib.hid hb1
          clear F1 hb1
          go_wp2_with fail
          refine (word_any b hbl _).mono ?_
          rintro e w2 ⟨rfl, rfl⟩
          rw [HW.out]
          go_wp2_with fail
          go_ret
          exact ⟨rfl, HB1.out, HF1.out⟩
end Go.Proofs.Ytjbmppbciiemkaa
