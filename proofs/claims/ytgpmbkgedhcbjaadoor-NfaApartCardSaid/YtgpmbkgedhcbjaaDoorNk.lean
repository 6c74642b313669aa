/-
  Texts that came in; Over and Parsed of layer 4.
-/
import Derived.Test.YtgpmbkgedhcbjaaDoorNj
import Derived.Test.YtgpmbkgedhcbjaaDoorPe
namespace Go.Proofs.YtgpmbkgedhcbjaaDoor
open Go.RowKit

/-- Texts in memory. -/
structure StrsAt (w : World) (a : Option Addr) (len : Nat) (zs : List ByteArray) : Prop where
  len_ : zs.length = len
  max : len ≤ maxLen
  cell : ∀ i z, zs[i]? = some z → ∃ ad, a = some ad ∧ w.cell? (ad.add i) = some (.string z)
  size : ∀ z ∈ zs, z.size ≤ maxLen
theorem StrsAt.move {w w' : World} {a : Option Addr} {len : Nat} {zs : List ByteArray} (h : StrsAt w a len zs) (hf : Fr none_ w w') : StrsAt w' a len zs :=
  ⟨h.len_, h.max, fun i z hz => (h.cell i z hz).elim fun ad h1 => ⟨ad, h1.1, hf.cell h1.2 (fun h => h)⟩, h.size⟩
theorem add_block (ad : Addr) (n : Nat) : (ad.add n).block = ad.block := by unfold Addr.add; split <;> rfl

/-- Whole numbers that came in. -/
structure IntsIn (w : World) (a : Option Addr) (len : Nat) (zs : List Int) : Prop where
  len_ : zs.length = len
  max : len ≤ maxLen
  cell : ∀ i z, zs[i]? = some z → ∃ ad, a = some ad ∧ w.cell? (ad.add i) = some (.int .i64 z)
  wf : ∀ z ∈ zs, (Lit.int .i64 z).wf = true
theorem IntsIn.move {w w' : World} {a : Option Addr} {len : Nat} {zs : List Int} (h : IntsIn w a len zs) (hf : Fr none_ w w') : IntsIn w' a len zs :=
  ⟨h.len_, h.max, fun i z hz => (h.cell i z hz).elim fun ad h1 => ⟨ad, h1.1, hf.cell h1.2 (fun h => h)⟩, h.wf⟩
theorem IntsAt.cell {w : World} {a : Option Addr} {n cap : Nat} {A : List Int} (h : IntsAt w (.slice a n cap) A) {i : Nat} {z : Int} (hz : A[i]? = some z) : ∃ g, a = some ⟨g, 0, none⟩ ∧ w.cell? ⟨g, i, none⟩ = some (.int .i64 z) := by
  obtain ⟨b, h⟩ := h
  have hi := (List.getElem?_eq_some_iff.1 hz).1
  obtain ⟨g, cap', hg, _, _⟩ := h.form (by omega)
  have h' := h
  rw [hg] at h'
  cases hg
  exact ⟨g, rfl, by rw [h'.cellAt i (by omega)]; simp [intsV, hz]⟩
/-- Are there more than is looked at? -/
def Few (zs : List ByteArray) : Prop := zs.length ≤ 8 ∧ ∀ z ∈ zs, z.size ≤ 40

set_option maxRecDepth 100000 in
set_option maxHeartbeats 1000000 in
theorem over_no (a : Option Addr) (len cap : Nat) (zs : List ByteArray) (w : World) (h : StrsAt w a len zs) (hf : Few zs) :
    Calls Tryd.prog 5 #[.slice a len cap] w fun e w' => e = .returned (.bool false) ∧ w = w' := by
  have hl : len ≤ 8 := by have := hf.1; rw [h.len_] at this; exact this
  have H := Lib.hid h
  have HF := Lib.hid hf
  clear h hf
  go_enter Tryd.func5, Tryd.ntmps5
  go_wp2_with fail
  go_loop [3] (fun x3 => ∃ i : Nat, i ≤ len ∧ x3 = .int .i64 i) (fun x3 => len - (intOf x3).toNat)
  case atStart => exact ⟨0, Nat.zero_le _, rfl⟩
  case round =>
    obtain ⟨i, hi, rfl⟩ := hrel
    by_cases hlt : i < len
    · obtain ⟨z, hz⟩ : ∃ z, zs[i]? = some z := ⟨zs[i]'(by rw [H.out.len_]; exact hlt), List.getElem?_eq_getElem _⟩
      obtain ⟨ad, rfl, hc⟩ := H.out.cell i z hz
      have hzs : (z.size : Int) ≤ 40 := by have := HF.out.2 z (List.mem_of_getElem? hz); omega
      have hi8 : (i : Int) ≤ 8 := by omega
      have hil : (i : Int) < (len : Int) := by omega
      clear hz
      go_wp2_with fail
      go_round
      case rel => exact ⟨i + 1, by omega, by go_num⟩
      case measure => simp [intOf]; omega
    · obtain rfl : i = len := by omega
      have hl8 : (i : Int) ≤ 8 := by omega
      go_wp2_with fail
      go_ret
      exact ⟨by simpa using hl8, rfl⟩
set_option maxRecDepth 100000 in
set_option maxHeartbeats 1000000 in
theorem over_yes (a : Option Addr) (len cap : Nat) (zs : List ByteArray) (w : World) (h : StrsAt w a len zs) (hf : ¬ Few zs) :
    Calls Tryd.prog 5 #[.slice a len cap] w fun e w' => e = .returned (.bool true) ∧ w = w' := by
  have hm : len ≤ 9223372036854775807 := by have := h.max; unfold maxLen at this; omega
  have H := Lib.hid h
  have HF := Lib.hid hf
  clear h hf
  go_enter Tryd.func5, Tryd.ntmps5
  go_wp2_with fail
  go_loop [3] (fun x3 => ∃ i : Nat, i ≤ len ∧ i ≤ 9 ∧ x3 = .int .i64 i ∧ Aside (∀ j z, j < i → zs[j]? = some z → z.size ≤ 40)) (fun x3 => len - (intOf x3).toNat)
  case atStart => exact ⟨0, Nat.zero_le _, by omega, rfl, fun j z hj => by omega⟩
  case round =>
    obtain ⟨i, hi, hi9, rfl, hall⟩ := hrel
    have HALL := Lib.hid hall.out
    clear hall
    by_cases hlt : i < len ∧ i ≤ 8
    · obtain ⟨hlt, hi8⟩ := hlt
      obtain ⟨z, hz⟩ : ∃ z, zs[i]? = some z := ⟨zs[i]'(by rw [H.out.len_]; exact hlt), List.getElem?_eq_getElem _⟩
      obtain ⟨ad, rfl, hc⟩ := H.out.cell i z hz
      have hzm : z.size ≤ 9223372036854775807 := by have := H.out.size z (List.mem_of_getElem? hz); unfold maxLen at this; omega
      have hi8' : (i : Int) ≤ 8 := by omega
      have hil : (i : Int) < (len : Int) := by omega
      have HZ := Lib.hid hz
      clear hz
      by_cases hzs : z.size ≤ 40
      · have hzs' : (z.size : Int) ≤ 40 := by omega
        go_wp2_with fail
        go_round
        case rel => exact ⟨i + 1, by omega, by omega, by go_num, fun j y hj hy => by
          rcases Nat.lt_or_ge j i with h | h
          · exact HALL.out j y h hy
          · obtain rfl : j = i := by omega
            have := HZ.out
            rw [this] at hy
            cases hy
            exact hzs⟩
        case measure => simp [intOf]; omega
      · have hzs' : (40 : Int) < (z.size : Int) := by omega
        go_wp2_with fail
        go_ret
        exact ⟨rfl, rfl⟩
    · by_cases h8 : 8 < len
      · have h8' : (8 : Int) < (len : Int) := by omega
        have hi8 : (8 : Int) < (i : Int) := by omega
        by_cases hil : i < len
        · have hil' : (i : Int) < (len : Int) := by omega
          clear hlt
          go_wp2_with fail
          go_ret
          exact ⟨by simp [h8'], rfl⟩
        · have hil' : (len : Int) ≤ (i : Int) := by omega
          clear hlt
          go_wp2_with fail
          go_ret
          exact ⟨by simp [h8'], rfl⟩
      · exfalso
        obtain rfl : i = len := by omega
        refine HF.out ⟨by rw [H.out.len_]; omega, fun z hz => ?_⟩
        obtain ⟨j, hj⟩ := List.mem_iff_getElem?.1 hz
        exact HALL.out j z (by have := (List.getElem?_eq_some_iff.1 hj).1; rw [H.out.len_] at this; exact this) hj

/-- One more regex in a row of the call's own. -/
theorem RxOwn.push {B : Nat} {ok : Nat → Prop} {w w1 : World} {v : Value} {l : List Rx} {cells : List Value} {k : Int} {b0 b1 b2 b3 : Nat} {kids : List Rx} {a : Option Addr} {cap g gcap : Nat}
    (hrow : w.ownsRow B 42 6 v l.length cells)
    (hels : ∀ j r, l[j]? = some r → ∃ cs, cs.length = 6 ∧ (∀ m u, cs[m]? = some u → cells[j * 6 + m]? = some u) ∧ RxC (fun k => ok k ∧ some k ≠ v.ownBlock) w r cs)
    (hc : kids.length ≤ cap) (hkl : RxL (fun i => ok i ∧ some i ≠ v.ownBlock) w a 0 kids)
    (hown1 : w1.ownsRow B 42 6 (.slice (some ⟨g, 0, none⟩) (l.length + 1) gcap) (l.length + 1) (cells ++ [.int .i64 k, .int .u64 b0, .int .u64 b1, .int .u64 b2, .int .u64 b3, .slice a kids.length cap]))
    (hgrow : (w.alloc (.cells #[.int .i64 k, .int .u64 b0, .int .u64 b1, .int .u64 b2, .int .u64 b3, .slice a kids.length cap] 42)).grownBy w1 v.ownBlock)
    (hat : v.ownBlock = some g ∨ g = w.heap.size + 1) :
    RxOwn B ok w1 (.slice (some ⟨g, 0, none⟩) (l.length + 1) gcap) (l ++ [.mk k b0 b1 b2 b3 kids]) ∧ Fr (fun i => B ≤ i) w w1 := by
  have hub : ∀ i, v.ownBlock = some i → B ≤ i := fun i hi => (hrow.lt i hi).1
  constructor
  · exact RxOwn.snoc (B := B) (ok := ok) (w := w.alloc (.cells #[.int .i64 k, .int .u64 b0, .int .u64 b1, .int .u64 b2, .int .u64 b3, .slice a kids.length cap] 42)) (hrow.alloc _) (fun j r hj => by
      obtain ⟨cs, g1, g2, g3⟩ := hels j r hj
      exact ⟨cs, g1, g2, RxC.move (fun i _ hlt => Below.heap_alloc _ _ _ hlt) r cs g3⟩) rfl
      (RxC.cells (k := k) (b0 := b0) (b1 := b1) (b2 := b2) (b3 := b3) hc (RxL.move (fun i _ hlt => Below.heap_alloc _ _ _ hlt) kids a 0 hkl)) hown1 hgrow (by simpa using hat)
  · exact ((Fr.refl (fun i => B ≤ i) w).alloc _).grown hgrow (fun i hi => .inl (hub i hi))
end Go.Proofs.YtgpmbkgedhcbjaaDoor
