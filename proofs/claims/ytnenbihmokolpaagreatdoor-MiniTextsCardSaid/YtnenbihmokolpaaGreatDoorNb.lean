/-
  How great a regex is: nfa's answer, and the document's.
  The walk over nfa.Build.
-/
import Derived.Test.YtnenbihmokolpaaGreatDoorPz
import Derived.Test.YtnenbihmokolpaaGreatDoorNl
namespace Go.Proofs.YtnenbihmokolpaaGreatDoor set_option linter.unusedVariables false set_option linter.unusedSimpArgs false
open Go.RowKit

theorem nsize_any (n : Nat) : ∀ (r : Rx) (v : Value) (w : World) (ok : Nat → Prop), r.size ≤ n → r.size < 4611686018427387904 → RxV ok w v r →
    Calls Tryz.prog 89 #[v] w fun e w' => e = .returned (.int .i64 r.size) ∧ Fr none_ w w' := by
  induction n with
  | zero => intro r v w ok hn; have := r.size_pos; omega
  | succ n ih =>
    rintro ⟨k, b0, b1, b2, b3, kids⟩ v w ok hn hlim hv
    obtain ⟨a, cap, rfl, hc, hl⟩ := hv.open_
    have hsz : Rx.sizes kids < 4611686018427387904 := by simp only [Rx.size] at hlim; omega
    have hlen := Rx.length_le kids
    have HL := Lib.hid hl
    have HN := Lib.hid hn
    have HIH := Lib.hid ih
    clear hl hn hv ih
    go_enter Tryz.func89, Tryz.ntmps89
    go_wp2_with fail
    have F0 := Lib.hid (((Fr.refl none_ w).alloc (.cells #[.int .i64 k, .int .u64 b0, .int .u64 b1, .int .u64 b2, .int .u64 b3, .slice a kids.length cap] 53)))
    go_loopw [3, 9] (fun t x wr => ∃ i : Nat, i ≤ kids.length ∧ x = .int .i64 i ∧ t = .int .i64 ((1 + Rx.sizes (kids.take i) : Nat) : Int) ∧ Fr none_ w wr) (fun _ x _ => kids.length - (intOf x).toNat)
    case atStart => exact ⟨0, Nat.zero_le _, rfl, by simp [Rx.sizes], F0.out⟩
    case round =>
      obtain ⟨i, hi, rfl, rfl, hf⟩ := hrel
      by_cases hlt : i < kids.length
      · obtain ⟨k', x0, x1, x2, x3, kids', hk'⟩ : ∃ k' x0 x1 x2 x3 kids', kids[i] = Rx.mk k' x0 x1 x2 x3 kids' := by
          cases kids[i]; exact ⟨_, _, _, _, _, _, rfl⟩
        have hki : kids[i]? = some (Rx.mk k' x0 x1 x2 x3 kids') := by rw [List.getElem?_eq_getElem hlt, hk']
        have hmv : RxL ok wr a 0 kids := RxL.move (fun k _ hlt => hf.block k hlt (fun h => h)) kids a 0 HL.out
        obtain ⟨ad, a', cap', rfl, hok, c0, c1, c2, c3, c4, c5, hc', hl'⟩ := hmv.elem hki
        have hsum := Rx.sizes_take_succ kids i _ hki
        have hle := Rx.sizes_le kids (i + 1)
        have HL' := Lib.hid hl'
        have HSUM := Lib.hid hsum
        have HKI := Lib.hid hki
        have hle2 : Rx.sizes (kids.take i) + (Rx.mk k' x0 x1 x2 x3 kids').size < 4611686018427387904 := by omega
        have hsz2 : (Rx.mk k' x0 x1 x2 x3 kids').size ≤ n := by
          have := HN.out
          simp only [Rx.size] at this ⊢
          simp only [Rx.size] at hsum
          omega
        clear hk' hki hmv hl' hsum hle
        go_wp2_with fail
        have F1 : Fr none_ wr _ := Fr.alloc (Fr.refl none_ wr) (.cells #[.int .i64 k', .int .u64 x0, .int .u64 x1, .int .u64 x2, .int .u64 x3, .slice a' kids'.length cap'] 53)
        refine (HIH.out _ _ _ ok hsz2 (by omega) ((RxV.mk_ hc' HL'.out).move F1 (fun _ _ _ h => h))).mono ?_
        rintro e w' ⟨rfl, F2⟩
        have F3 := Lib.hid ((hf.tr F1).tr F2)
        clear F2 F1 hf
        go_wp2_with fail
        go_roundw
        case rel => exact ⟨i + 1, by omega, rfl, congrArg (Value.int .i64) (by rw [HSUM.out]; omega), F3.out⟩
        case measure => simp [intOf]; omega
      · obtain rfl : i = kids.length := by omega
        have H : kids.take kids.length = kids := List.take_length
        rw [H]
        clear H
        have HF := Lib.hid hf
        clear hf
        go_wp2_with fail
        go_ret
        exact ⟨by simp [Rx.size], HF.out⟩
end Go.Proofs.YtnenbihmokolpaaGreatDoor

namespace Go.Proofs.YtnenbihmokolpaaGreatDoor set_option linter.unusedVariables false set_option linter.unusedSimpArgs false
open Go.RowKit

theorem buildM_snoc : ∀ (a : List Rx) (r : Rx) (i : Nat) (l : List St) (st : List Nat), buildM (a ++ [r]) i l st =
    (tagM (layM r ((buildM a i l st).1 ++ [St.none]) (buildM a i l st).1.length).1 (layM r ((buildM a i l st).1 ++ [St.none]) (buildM a i l st).1.length).2 (i + a.length), (buildM a i l st).2 ++ [(buildM a i l st).1.length])
  | [], r, i, l, st => by simp [buildM]
  | x :: a, r, i, l, st => by
    simp only [List.cons_append, buildM, List.length_cons]
    rw [buildM_snoc a r (i + 1)]
    rw [show i + 1 + a.length = i + (a.length + 1) by omega]
theorem buildM_facts : ∀ (a : List Rx) (i : Nat) (l : List St) (st : List Nat), (buildM a i l st).1.length ≤ l.length + 3 * Rx.sizes a ∧ (buildM a i l st).2.length = st.length + a.length ∧
    ∀ n, Short n l → Short (n + 4 * Rx.sizes a) (buildM a i l st).1
  | [], i, l, st => by simp only [buildM, Rx.sizes]; exact ⟨by omega, by simp, fun n h => h⟩
  | r :: rs, i, l, st => by
    have h1 := layM_facts r (l ++ [St.none]) l.length
    have h2 := buildM_facts rs (i + 1) (tagM (layM r (l ++ [St.none]) l.length).1 (layM r (l ++ [St.none]) l.length).2 i) (st ++ [l.length])
    have := r.size_pos
    simp only [List.length_append, List.length_cons, List.length_nil, tagM_length] at h1 h2
    simp only [buildM, Rx.sizes, List.length_cons]
    refine ⟨by omega, by omega, fun n hn => ?_⟩
    exact (h2.2.2 _ ((h1.2.2.2 n hn.snoc).tag _ _)).mono (by omega)

set_option maxRecDepth 100000 in
set_option maxHeartbeats 4000000 in
theorem build_many (rs : List Rx) (a : Option Addr) (cap : Nat) (w : World) (ok : Nat → Prop) (hsz : Rx.sizes rs < 4611686018427387904) (hl : RxL ok w a 0 rs) (hm : rs.length > 60 ∨ Rx.sizes rs > 3000) :
    Calls Tryz.prog 62 #[.slice a rs.length cap] w fun e w' => e = .returned (.tuple #[.pointer none, .int .i64 4]) ∧ Fr none_ w w' := by
  have hlen := Rx.length_le rs
  have HL := Lib.hid hl
  have F0 := Lib.hid (Fr.refl none_ w)
  have HMANY := Lib.hid hm
  clear hl hm
  go_enter Tryz.func62, Tryz.ntmps62
  go_wp2_with fail
  go_loopw [4, 14] (fun t x wr => ∃ i : Nat, i ≤ rs.length ∧ x = .int .i64 i ∧ t = .int .i64 (Rx.sizes (rs.take i)) ∧ Aside (Fr none_ w wr)) (fun _ x _ => rs.length - (intOf x).toNat)
  case atStart => exact ⟨0, Nat.zero_le _, rfl, by simp [Rx.sizes], F0.out⟩
  case round =>
    obtain ⟨i, hi, rfl, rfl, hf'⟩ := hrel
    have hf := Lib.hid hf'.out
    clear hf'
    by_cases hlt : i < rs.length
    · obtain ⟨k', x0, x1, x2, x3, kids', hk'⟩ : ∃ k' x0 x1 x2 x3 kids', rs[i] = Rx.mk k' x0 x1 x2 x3 kids' := by
        cases rs[i]; exact ⟨_, _, _, _, _, _, rfl⟩
      have hki : rs[i]? = some (Rx.mk k' x0 x1 x2 x3 kids') := by rw [List.getElem?_eq_getElem hlt, hk']
      have hmv : RxL ok wr a 0 rs := RxL.move (fun k _ hlt => hf.out.block k hlt (fun h => h)) rs a 0 HL.out
      obtain ⟨ad, a', cap', rfl, hok, c0, c1, c2, c3, c4, c5, hc', hl'⟩ := hmv.elem hki
      have hsum := Rx.sizes_take_succ rs i _ hki
      have hle := Rx.sizes_le rs (i + 1)
      have HL' := Lib.hid hl'
      have HSUM := Lib.hid hsum
      have hle2 : Rx.sizes (rs.take i) + (Rx.mk k' x0 x1 x2 x3 kids').size < 4611686018427387904 := by omega
      clear hk' hki hmv hl' hsum hle
      go_wp2_with fail
      have F1 : Fr none_ wr _ := Fr.alloc (Fr.refl none_ wr) (.cells #[.int .i64 k', .int .u64 x0, .int .u64 x1, .int .u64 x2, .int .u64 x3, .slice a' kids'.length cap'] 53)
      refine (nsize_any _ _ _ _ ok (Nat.le_refl _) (by omega) ((RxV.mk_ hc' HL'.out).move F1 (fun _ _ _ h => h))).mono ?_
      rintro e w' ⟨rfl, F2⟩
      have F3 := Lib.hid ((hf.out.tr F1).tr F2)
      clear F2 F1
      go_wp2_with fail
      go_roundw
      case rel => exact ⟨i + 1, by omega, rfl, congrArg (Value.int .i64) (by rw [HSUM.out]; omega), F3.out⟩
      case measure => simp [intOf]; omega
    · obtain rfl : i = rs.length := by omega
      have H : rs.take rs.length = rs := List.take_length
      rw [H]
      clear H
      by_cases h60 : rs.length > 60
      · have h60' : (60 : Int) < (rs.length : Int) := by omega
        clear h60
        go_wp2_with fail
        go_ret2
        exact ⟨rfl, hf.out⟩
      · have h60' : (rs.length : Int) ≤ 60 := by omega
        have h3000 : (3000 : Int) < (Rx.sizes rs : Int) := by have := HMANY.out; omega
        clear h60
        go_wp2_with fail
        go_ret2
        exact ⟨rfl, hf.out⟩
end Go.Proofs.YtnenbihmokolpaaGreatDoor
