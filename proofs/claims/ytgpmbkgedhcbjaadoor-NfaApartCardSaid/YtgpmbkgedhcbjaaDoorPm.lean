/-
  How regex's reader reads, in plain Lean: a text, a place in it, and what comes of it.
-/
import Derived.Test.YtgpmbkgedhcbjaaDoorRx
namespace Go.Proofs.YtgpmbkgedhcbjaaDoor

def byteAt (s : ByteArray) (p : Nat) : Nat := if h : p < s.size then s[p].toNat else 0
theorem byteAt_eq (s : ByteArray) (p : Nat) (h : p < s.size) : s[p].toNat = byteAt s p := by simp [byteAt, h]
theorem byteAt_lt (s : ByteArray) (p : Nat) : byteAt s p < 256 := by
  unfold byteAt; split
  · exact UInt8.toNat_lt _
  · omega

/-- An error's number, or what was read and the place behind it. -/
abbrev Got (α : Type) := Except Int (α × Nat)

def isB (s : ByteArray) (p b : Nat) : Bool := decide (p < s.size) && decide (byteAt s p = b)
def nextB (s : ByteArray) (p : Nat) : Got Nat := if p < s.size then .ok (byteAt s p, p + 1) else .error 5
def digitV (b : Nat) : Option Nat := if 48 ≤ b ∧ b ≤ 57 then some (b - 48) else if 97 ≤ b ∧ b ≤ 102 then some (b - 87) else none
def digitB (s : ByteArray) (p : Nat) : Got Nat :=
  match nextB s p with
  | .error e => .error e
  | .ok (b, q) => match digitV b with
    | none => .error 5
    | some n => .ok (n, q)
def wordB (b : Nat) : Bool := decide (97 ≤ b ∧ b ≤ 122) || decide (65 ≤ b ∧ b ≤ 90) || decide (48 ≤ b ∧ b ≤ 57)
def namedB (b : Nat) : Option Nat := if b = 110 then some 10 else if b = 116 then some 9 else if b = 114 then some 13 else if b = 115 then some 32 else none
def charB (s : ByteArray) (p : Nat) : Got Nat :=
  match nextB s p with
  | .error e => .error e
  | .ok (b, q) => match namedB b with
    | some c => .ok (c, q)
    | none =>
      if b = 120 then
        match digitB s q with
        | .error e => .error e
        | .ok (hi, q1) => match digitB s q1 with
          | .error e => .error e
          | .ok (lo, q2) => .ok (hi * 16 + lo, q2)
      else if wordB b then .error 5 else .ok (b, q)
def oneB (s : ByteArray) (p : Nat) : Got Nat :=
  if isB s p 92 then charB s (p + 1) else
    match nextB s p with
    | .error e => .error e
    | .ok (b, q) => if b = 93 ∨ b = 45 then .error 5 else .ok (b, q)

/-- Four words of bits. -/
structure Bs where
  b0 : Nat
  b1 : Nat
  b2 : Nat
  b3 : Nat
def Bs.zero : Bs := ⟨0, 0, 0, 0⟩
def Bs.add (x : Bs) (b : Nat) : Bs :=
  match b / 64 with
  | 0 => { x with b0 := x.b0 ||| 2 ^ (b % 64) }
  | 1 => { x with b1 := x.b1 ||| 2 ^ (b % 64) }
  | 2 => { x with b2 := x.b2 ||| 2 ^ (b % 64) }
  | _ => { x with b3 := x.b3 ||| 2 ^ (b % 64) }
def Bs.others (x : Bs) : Bs := ⟨18446744073709551615 - x.b0, 18446744073709551615 - x.b1, 18446744073709551615 - x.b2, 18446744073709551615 - x.b3⟩
def Bs.rx (x : Bs) : Rx := .mk 1 x.b0 x.b1 x.b2 x.b3 []
/-- n bytes from one on. -/
def Bs.addN (x : Bs) (b : Nat) : Nat → Bs
  | 0 => x
  | n + 1 => (x.add b).addN (b + 1) n
def classL (s : ByteArray) : Nat → Bs → Nat → Option (Got Bs)
  | 0, _, _ => none
  | k + 1, x, p =>
    if isB s p 93 then some (.ok (x, p + 1)) else
      match oneB s p with
      | .error e => some (.error e)
      | .ok (lo, q) =>
        match (if isB s q 45 then oneB s (q + 1) else .ok (lo, q)) with
        | .error e => some (.error e)
        | .ok (hi, q2) => if hi < lo then some (.error 5) else classL s k (x.addN lo (hi + 1 - lo)) q2
def classB (s : ByteArray) (k p : Nat) : Option (Got Rx) :=
  let not := isB s p 94
  match classL s k Bs.zero (if not then p + 1 else p) with
  | none => none
  | some (.error e) => some (.error e)
  | some (.ok (x, q)) => some (.ok ((if not then x.others else x).rx, q))
def fitR (r : Rx) : Except Int Rx := if r.size > 500 then .error 4 else .ok r
def ofR (kind : Int) (l : List Rx) : Rx :=
  match l with
  | [] => .zero
  | [r] => r
  | l => .mk kind 0 0 0 0 l
def starR (r : Rx) : Rx := .mk 4 0 0 0 0 [r]
def behindB (s : ByteArray) : Nat → Rx → Nat → Option (Got Rx)
  | 0, _, _ => none
  | k + 1, r, p =>
    if isB s p 42 then
      match fitR (starR r) with
      | .error e => some (.error e)
      | .ok r' => behindB s k r' (p + 1)
    else if isB s p 43 then
      match fitR (.mk 2 0 0 0 0 [r, starR r]) with
      | .error e => some (.error e)
      | .ok r' => behindB s k r' (p + 1)
    else if isB s p 63 then
      match fitR (.mk 3 0 0 0 0 [r, .zero]) with
      | .error e => some (.error e)
      | .ok r' => behindB s k r' (p + 1)
    else some (.ok (r, p))

mutual
def waysB (s : ByteArray) : Nat → Nat → Option (Got Rx)
  | 0, _ => none
  | k + 1, p =>
    match wayB s k [] p with
    | none => none
    | some (.error e) => some (.error e)
    | some (.ok (r, q)) => waysL s k [r] q
def waysL (s : ByteArray) : Nat → List Rx → Nat → Option (Got Rx)
  | 0, _, _ => none
  | k + 1, l, p =>
    if isB s p 124 then
      match wayB s k [] (p + 1) with
      | none => none
      | some (.error e) => some (.error e)
      | some (.ok (r, q)) => waysL s k (l ++ [r]) q
    else some (.ok (ofR 3 l, p))
def wayB (s : ByteArray) : Nat → List Rx → Nat → Option (Got Rx)
  | 0, _, _ => none
  | k + 1, l, p =>
    if ¬ p < s.size ∨ byteAt s p = 124 ∨ byteAt s p = 41 then some (.ok (ofR 2 l, p)) else
      match atomB s k p with
      | none => none
      | some (.error e) => some (.error e)
      | some (.ok (r, q)) => match fitR r with
        | .error e => some (.error e)
        | .ok r => match behindB s k r q with
          | none => none
          | some (.error e) => some (.error e)
          | some (.ok (r2, q2)) => wayB s k (l ++ [r2]) q2
def atomB (s : ByteArray) : Nat → Nat → Option (Got Rx)
  | 0, _ => none
  | k + 1, p =>
    match nextB s p with
    | .error e => some (.error e)
    | .ok (b, q) =>
      if b = 40 then
        match waysB s k q with
        | none => none
        | some (.error e) => some (.error e)
        | some (.ok (r, q2)) => if isB s q2 41 then some (.ok (r, q2 + 1)) else some (.error 5)
      else if b = 91 then classB s k q
      else if b = 46 then some (.ok ((Bs.zero.add 10).others.rx, q))
      else if b = 92 then
        match charB s q with
        | .error e => some (.error e)
        | .ok (c, q2) => some (.ok ((Bs.zero.add c).rx, q2))
      else if b = 42 ∨ b = 43 ∨ b = 63 ∨ b = 93 ∨ b = 124 ∨ b = 41 then some (.error 5)
      else some (.ok ((Bs.zero.add b).rx, q))
end
/-- The regex of a text, or an error's number. -/
def parseB (s : ByteArray) (k : Nat) : Option (Except Int Rx) :=
  if s.size > 200 then some (.error 4) else
    match waysB s k 0 with
    | none => none
    | some (.error e) => some (.error e)
    | some (.ok (r, q)) => if q < s.size then some (.error 5) else match fitR r with
      | .error e => some (.error e)
      | .ok r => some (.ok r)
end Go.Proofs.YtgpmbkgedhcbjaaDoor
