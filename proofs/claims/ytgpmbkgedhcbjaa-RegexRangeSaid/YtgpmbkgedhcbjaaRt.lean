/-
  The walks over regex.Match and regex.Nullable.
-/
import Derived.Test.YtgpmbkgedhcbjaaRs
namespace Go.Proofs.Ytgpmbkgedhcbjaa
open Go.RowKit

theorem IntsAt.lit (w : World) (z : Int) (g : Nat) (hg : g = w.heap.size) : IntsAt (w.alloc (.cells #[.int .i64 z] 3)) (.slice (some ⟨g, 0, none⟩) 1 1) [z] := by
  subst hg
  exact ⟨w.heap.size, World.ownsRow_lit w #[.int .i64 z] 1 (Nat.le_refl _) (by decide) rfl⟩
theorem contains_any (a : Option Addr) (c : Nat) (A : List Int) (x : Int) (w : World) (h : IntsAt w (.slice a A.length c) A) (hl : A.length ≤ 100000) :
    Calls Try.prog 51 #[.slice a A.length c, .int .i64 x] w fun e w' => e = .returned (.bool (A.contains x)) ∧ w' = w := by
  by_cases h0 : A = []
  · subst h0
    exact (Try.slices_Contains_int_empty a c x w).mono fun e w' h => ⟨h.1, h.2⟩
  · obtain ⟨z, hz⟩ : ∃ z, A[0]? = some z := by
      cases A with
      | nil => exact absurd rfl h0
      | cons z t => exact ⟨z, rfl⟩
    obtain ⟨g, rfl, _⟩ := h.cell hz
    refine (Try.slices_Contains_int g 0 A.length c A x w (Nat.le_refl _) (by omega) (fun j hj => ?_)).mono fun e w' h => ⟨by rw [h.1, List.take_length], h.2⟩
    obtain ⟨g', hg, hc⟩ := h.cell (i := j) (List.getElem?_eq_getElem hj)
    simp only [Option.some.injEq, Addr.mk.injEq, and_true] at hg
    rw [Nat.zero_add, hg, hc, List.getD_eq_getElem?_getD, List.getElem?_eq_getElem hj]
    rfl
open Classical in
/-- Whether a regex matches a text. -/
noncomputable def matchP (r : Rx) (s : ByteArray) : Bool := decide (r.lang (bytesN s))
theorem matchP_true {r : Rx} {s : ByteArray} : matchP r s = true ↔ r.lang (bytesN s) := by simp [matchP]

theorem ends_whole {P : List Nat → Prop} {bs : List Nat} {L : List Int} (h : EndsR P bs [0] L) : L.contains ((bs.length : Nat) : Int) = true ↔ P bs := by
  rw [List.contains_iff_mem, h]
  constructor
  · rintro ⟨i, j, hi, hj, _, _, hp⟩
    simp only [List.mem_singleton] at hi
    obtain rfl : j = bs.length := by omega
    obtain rfl : i = 0 := by omega
    rwa [sub_all] at hp
  · intro hp
    exact ⟨0, bs.length, by simp, rfl, Nat.zero_le _, Nat.le_refl _, by rw [sub_all]; exact hp⟩
theorem match_fact {r : Rx} {s : ByteArray} {L : List Int} (h : EndsR r.lang (bytesN s) [0] L) : L.contains ((s.size : Nat) : Int) = matchP r s := by
  rw [Bool.eq_iff_iff, matchP_true, ← ends_whole h, bytesN_length]

set_option maxRecDepth 100000 in
set_option maxHeartbeats 4000000 in
theorem match_any (r : Rx) (s : ByteArray) (v : Value) (ok : Nat → Prop) (w : World) (hs : s.size ≤ 1000) (hr : r.size ≤ 1000) (hv : RxV ok w v r) :
    Calls Try.prog 33 #[v, .string s] w fun e w' => e = .returned (.bool (matchP r s)) ∧ Fr none_ w w' := by
  have hE : EndsC s r := ends_all s hs r.size r (Nat.le_refl _) hr
  have HE := Lib.hid hE
  clear hE
  have HMP := Lib.hid (fun (L : List Int) (h : EndsR r.lang (bytesN s) [0] L) => match_fact h)
  obtain ⟨k, b0, b1, b2, b3, kids⟩ := r
  obtain ⟨a, cap, rfl, hc, hl⟩ := hv.open_
  have F0 := Lib.hid ((Fr.refl none_ w).alloc (.cells #[.int .i64 k, .int .u64 b0, .int .u64 b1, .int .u64 b2, .int .u64 b3, .slice a kids.length cap] 28))
  obtain ⟨z0, z1, z2, z3, z4, z5⟩ := six (alloc_new w (.cells #[.int .i64 k, .int .u64 b0, .int .u64 b1, .int .u64 b2, .int .u64 b3, .slice a kids.length cap] 28))
  have HL := Lib.hid hl
  clear hv hl
  go_enter Try.func33, Try.ntmps33
  go_wp2_with fail
  have FB := Lib.hid (F0.out.alloc (.cells #[.int .i64 0] 3))
  refine (HE.out [0] _ _ _ ok (RxV.mk_ hc (RxL.move (fun k _ hlt => FB.out.block k hlt (fun h => h)) _ _ _ HL.out)) (IntsAt.lit _ 0 (w.heap.size + 1) (by simp)) ⟨by simp, by simp⟩).mono ?_
  rintro e w2 ⟨v2, L, rfl, h1, h2, h3, h4⟩
  have K1 := Lib.hid h1
  have K2 := Lib.hid h2.length
  have K3 := Lib.hid (HMP.out L h3)
  have K4 := Lib.hid (FB.out.tr h4)
  clear h1 h2 h3 h4 z0 z1 z2 z3 z4 z5 hr
  obtain ⟨la, lc, rfl, hlc⟩ := K1.out.slice
  clear HMP HE
  go_wp2_with fail
  refine (contains_any la lc L _ w2 K1.out (by have := K2.out; omega)).mono ?_
  rintro e w3 ⟨rfl, rfl⟩
  go_wp2_with fail
  go_ret
  exact ⟨congrArg (fun b => Ending.returned (.bool b)) (by rw [← K3.out]; simp), K4.out⟩
end Go.Proofs.Ytgpmbkgedhcbjaa
