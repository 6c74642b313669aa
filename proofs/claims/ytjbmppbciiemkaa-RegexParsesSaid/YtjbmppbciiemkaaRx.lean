/-
  Regexes as plain data, and how one lies in memory.
-/
import Derived.Test.YtjbmppbciiemkaaLib
namespace Go.Proofs.Ytjbmppbciiemkaa set_option linter.unusedVariables false set_option linter.unusedSimpArgs false
open Go.RowKit

inductive Rx where
  | mk (kind : Int) (b0 b1 b2 b3 : Nat) (kids : List Rx)

def Rx.kind : Rx → Int
  | .mk k _ _ _ _ _ => k
def Rx.kids : Rx → List Rx
  | .mk _ _ _ _ _ l => l
def Rx.zero : Rx := .mk 0 0 0 0 0 []

mutual
/-- The six cells of a regex; where what it leads to lies is ok. -/
def RxC (ok : Nat → Prop) (w : World) : Rx → List Value → Prop
  | .mk k b0 b1 b2 b3 kids, cs => ∃ a cap, cs = [.int .i64 k, .int .u64 b0, .int .u64 b1, .int .u64 b2, .int .u64 b3, .slice a kids.length cap] ∧ kids.length ≤ cap ∧ RxL ok w a 0 kids
/-- A row of regexes, from its i-th place on. -/
def RxL (ok : Nat → Prop) (w : World) : Option Addr → Nat → List Rx → Prop
  | _, _, [] => True
  | a, i, r :: rs => (∃ ad cs, a = some ad ∧ ok ad.block ∧ cs.length = 6 ∧ (∀ j u, cs[j]? = some u → w.cell? (ad.add (i * 6 + j)) = some u) ∧ RxC ok w r cs) ∧ RxL ok w a (i + 1) rs
end

mutual
theorem RxC.mono {ok ok' : Nat → Prop} {w : World} (hk : ∀ k, ok k → ok' k) : ∀ (r : Rx) (cs : List Value), RxC ok w r cs → RxC ok' w r cs
  | .mk _ _ _ _ _ kids, _, h => by
    simp only [RxC] at h ⊢
    obtain ⟨a, cap, h1, h2, h3⟩ := h
    exact ⟨a, cap, h1, h2, RxL.mono hk kids a 0 h3⟩
theorem RxL.mono {ok ok' : Nat → Prop} {w : World} (hk : ∀ k, ok k → ok' k) : ∀ (l : List Rx) (a : Option Addr) (i : Nat), RxL ok w a i l → RxL ok' w a i l
  | [], _, _, _ => by simp only [RxL]
  | r :: rs, a, i, h => by
    simp only [RxL] at h ⊢
    obtain ⟨⟨ad, cs, h1, h2, h3, h4, h5⟩, h6⟩ := h
    exact ⟨⟨ad, cs, h1, hk _ h2, h3, h4, RxC.mono hk r cs h5⟩, RxL.mono hk rs a (i + 1) h6⟩
end
mutual
theorem RxC.move {ok : Nat → Prop} {w w' : World} (hm : ∀ k, ok k → k < w.heap.size → w'.heap[k]? = w.heap[k]?) : ∀ (r : Rx) (cs : List Value), RxC ok w r cs → RxC ok w' r cs
  | .mk _ _ _ _ _ kids, _, h => by
    simp only [RxC] at h ⊢
    obtain ⟨a, cap, h1, h2, h3⟩ := h
    exact ⟨a, cap, h1, h2, RxL.move hm kids a 0 h3⟩
theorem RxL.move {ok : Nat → Prop} {w w' : World} (hm : ∀ k, ok k → k < w.heap.size → w'.heap[k]? = w.heap[k]?) : ∀ (l : List Rx) (a : Option Addr) (i : Nat), RxL ok w a i l → RxL ok w' a i l
  | [], _, _, _ => by simp only [RxL]
  | r :: rs, a, i, h => by
    simp only [RxL] at h ⊢
    obtain ⟨⟨ad, cs, h1, h2, h3, h4, h5⟩, h6⟩ := h
    refine ⟨⟨ad, cs, h1, h2, h3, fun j u hu => ?_, RxC.move hm r cs h5⟩, RxL.move hm rs a (i + 1) h6⟩
    have hc := h4 j u hu
    have hb : (ad.add (i * 6 + j)).block = ad.block := by unfold Addr.add; split <;> rfl
    have hlt := World.block_lt_of_cell? w _ hc
    rw [hb] at hlt
    rw [World.cell?_of_block (w := w) (by rw [hb]; exact hm _ h2 hlt)]
    exact hc
end
mutual
/-- What it leads to lies in blocks that there are. -/
theorem RxC.bound {ok : Nat → Prop} {w : World} : ∀ (r : Rx) (cs : List Value), RxC ok w r cs → RxC (fun k => ok k ∧ k < w.heap.size) w r cs
  | .mk _ _ _ _ _ kids, _, h => by
    simp only [RxC] at h ⊢
    obtain ⟨a, cap, h1, h2, h3⟩ := h
    exact ⟨a, cap, h1, h2, RxL.bound kids a 0 h3⟩
theorem RxL.bound {ok : Nat → Prop} {w : World} : ∀ (l : List Rx) (a : Option Addr) (i : Nat), RxL ok w a i l → RxL (fun k => ok k ∧ k < w.heap.size) w a i l
  | [], _, _, _ => by simp only [RxL]
  | r :: rs, a, i, h => by
    simp only [RxL] at h ⊢
    obtain ⟨⟨ad, cs, h1, h2, h3, h4, h5⟩, h6⟩ := h
    refine ⟨⟨ad, cs, h1, ⟨h2, ?_⟩, h3, h4, RxC.bound r cs h5⟩, RxL.bound rs a (i + 1) h6⟩
    obtain ⟨u, hu⟩ : ∃ u, cs[0]? = some u := ⟨cs[0]'(by omega), by simp⟩
    have hc := h4 0 u hu
    have hb : (ad.add (i * 6 + 0)).block = ad.block := by unfold Addr.add; split <;> rfl
    have hlt := World.block_lt_of_cell? w _ hc
    rwa [hb] at hlt
end
theorem RxL.at_ {ok : Nat → Prop} {w : World} : ∀ (l : List Rx) (a : Option Addr) (i : Nat), RxL ok w a i l → ∀ j r, l[j]? = some r →
    ∃ ad cs, a = some ad ∧ ok ad.block ∧ cs.length = 6 ∧ (∀ m u, cs[m]? = some u → w.cell? (ad.add ((i + j) * 6 + m)) = some u) ∧ RxC ok w r cs
  | [], _, _, _, j, r, hj => by simp at hj
  | r0 :: rs, a, i, h, j, r, hj => by
    simp only [RxL] at h
    obtain ⟨h0, h6⟩ := h
    cases j with
    | zero =>
      simp only [List.getElem?_cons_zero, Option.some.injEq] at hj
      subst hj
      exact h0
    | succ j =>
      have := RxL.at_ rs a (i + 1) h6 j r (by simpa using hj)
      rw [show i + 1 + j = i + (j + 1) by omega] at this
      exact this
theorem RxL.of {ok : Nat → Prop} {w : World} : ∀ (l : List Rx) (a : Option Addr) (i : Nat), (∀ j r, l[j]? = some r →
    ∃ ad cs, a = some ad ∧ ok ad.block ∧ cs.length = 6 ∧ (∀ m u, cs[m]? = some u → w.cell? (ad.add ((i + j) * 6 + m)) = some u) ∧ RxC ok w r cs) → RxL ok w a i l
  | [], _, _, _ => by simp only [RxL]
  | r0 :: rs, a, i, h => by
    simp only [RxL]
    refine ⟨by simpa using h 0 r0 rfl, RxL.of rs a (i + 1) (fun j r hj => ?_)⟩
    have := h (j + 1) r (by simpa using hj)
    rw [show i + (j + 1) = i + 1 + j by omega] at this
    exact this

theorem add_fld (ad : Addr) (n j : Nat) (hs : (ad.add n).spot = none) : ad.add (n + j) = ⟨(ad.add n).block, (ad.add n).off + j, none⟩ := by
  unfold Addr.add at *
  by_cases h : n = 0
  · subst h
    simp at hs ⊢
    by_cases h2 : j = 0
    · subst h2; simp; cases ad; simp_all
    · simp [h2]
  · simp [h]
    have : ¬ (n + j = 0) := by omega
    omega
theorem spot_of_cell {w : World} {a : Addr} {v : Value} (h : w.cell? a = some v) : a.spot = none := by
  unfold World.cell? at h
  cases hs : a.spot with
  | none => rfl
  | some x => rw [hs] at h; split at h <;> simp at h
/-- The i-th of a row: its six cells, where the walk reads them. -/
theorem RxL.elem {ok : Nat → Prop} {w : World} {l : List Rx} {a : Option Addr} (h : RxL ok w a 0 l) {i : Nat} {k : Int} {b0 b1 b2 b3 : Nat} {kids : List Rx} (hi : l[i]? = some (.mk k b0 b1 b2 b3 kids)) :
    ∃ ad a' cap', a = some ad ∧ ok ad.block ∧ w.cell? (ad.add (i * 6)) = some (.int .i64 k) ∧ w.cell? ⟨(ad.add (i * 6)).block, (ad.add (i * 6)).off + 1, none⟩ = some (.int .u64 b0) ∧
      w.cell? ⟨(ad.add (i * 6)).block, (ad.add (i * 6)).off + 2, none⟩ = some (.int .u64 b1) ∧ w.cell? ⟨(ad.add (i * 6)).block, (ad.add (i * 6)).off + 3, none⟩ = some (.int .u64 b2) ∧
      w.cell? ⟨(ad.add (i * 6)).block, (ad.add (i * 6)).off + 4, none⟩ = some (.int .u64 b3) ∧ w.cell? ⟨(ad.add (i * 6)).block, (ad.add (i * 6)).off + 5, none⟩ = some (.slice a' kids.length cap') ∧
      kids.length ≤ cap' ∧ RxL ok w a' 0 kids := by
  obtain ⟨ad, cs, rfl, hok, hcs, hcell, hrx⟩ := h.at_ _ _ _ i _ hi
  simp only [RxC] at hrx
  obtain ⟨a', cap', rfl, hc, hl⟩ := hrx
  rw [Nat.zero_add] at hcell
  have c0 := hcell 0 _ rfl
  rw [Nat.add_zero] at c0
  have hs := spot_of_cell c0
  have g : ∀ j u, [Value.int .i64 k, .int .u64 b0, .int .u64 b1, .int .u64 b2, .int .u64 b3, .slice a' kids.length cap'][j]? = some u → w.cell? ⟨(ad.add (i * 6)).block, (ad.add (i * 6)).off + j, none⟩ = some u := by
    intro j u hu
    have := hcell j u hu
    rwa [add_fld ad (i * 6) j hs] at this
  exact ⟨ad, a', cap', rfl, hok, c0, g 1 _ rfl, g 2 _ rfl, g 3 _ rfl, g 4 _ rfl, g 5 _ rfl, hc, hl⟩

/-- A regex as a value. -/
def RxV (ok : Nat → Prop) (w : World) (v : Value) (r : Rx) : Prop := ∃ cs, v = .agg cs.toArray ∧ RxC ok w r cs
theorem RxV.mono {ok ok' : Nat → Prop} {w : World} {v : Value} {r : Rx} (h : RxV ok w v r) (hk : ∀ k, ok k → ok' k) : RxV ok' w v r := by
  obtain ⟨cs, h1, h2⟩ := h
  exact ⟨cs, h1, RxC.mono hk r cs h2⟩
theorem RxV.bound {ok : Nat → Prop} {w : World} {v : Value} {r : Rx} (h : RxV ok w v r) : RxV (fun k => ok k ∧ k < w.heap.size) w v r := by
  obtain ⟨cs, h1, h2⟩ := h
  exact ⟨cs, h1, RxC.bound r cs h2⟩
theorem RxV.move {ok S : Nat → Prop} {w w' : World} {v : Value} {r : Rx} (h : RxV ok w v r) (hf : Fr S w w') (hs : ∀ k, ok k → k < w.heap.size → ¬ S k) : RxV ok w' v r := by
  obtain ⟨cs, h1, h2⟩ := h
  exact ⟨cs, h1, RxC.move (fun k hk hlt => hf.block k hlt (hs k hk hlt)) r cs h2⟩
theorem RxV.open_ {ok : Nat → Prop} {w : World} {v : Value} {k : Int} {b0 b1 b2 b3 : Nat} {kids : List Rx} (h : RxV ok w v (.mk k b0 b1 b2 b3 kids)) :
    ∃ a cap, v = .agg #[.int .i64 k, .int .u64 b0, .int .u64 b1, .int .u64 b2, .int .u64 b3, .slice a kids.length cap] ∧ kids.length ≤ cap ∧ RxL ok w a 0 kids := by
  obtain ⟨cs, rfl, h2⟩ := h
  simp only [RxC] at h2
  obtain ⟨a, cap, rfl, h3, h4⟩ := h2
  exact ⟨a, cap, rfl, h3, h4⟩
theorem RxV.mk_ {ok : Nat → Prop} {w : World} {k : Int} {b0 b1 b2 b3 : Nat} {kids : List Rx} {a : Option Addr} {cap : Nat} (h1 : kids.length ≤ cap) (h2 : RxL ok w a 0 kids) :
    RxV ok w (.agg #[.int .i64 k, .int .u64 b0, .int .u64 b1, .int .u64 b2, .int .u64 b3, .slice a kids.length cap]) (.mk k b0 b1 b2 b3 kids) := by
  refine ⟨[.int .i64 k, .int .u64 b0, .int .u64 b1, .int .u64 b2, .int .u64 b3, .slice a kids.length cap], rfl, ?_⟩
  simp only [RxC]
  exact ⟨a, cap, rfl, h1, h2⟩

mutual
/-- How great it is. -/
def Rx.size : Rx → Nat
  | .mk _ _ _ _ _ kids => 1 + Rx.sizes kids
def Rx.sizes : List Rx → Nat
  | [] => 0
  | r :: rs => Rx.size r + Rx.sizes rs
end
theorem Rx.sizes_take_succ (l : List Rx) (i : Nat) (r : Rx) (h : l[i]? = some r) : Rx.sizes (l.take (i + 1)) = Rx.sizes (l.take i) + r.size := by
  induction l generalizing i with
  | nil => simp at h
  | cons x l ih =>
    cases i with
    | zero => simp at h; subst h; simp [Rx.sizes]
    | succ i => simp at h; simp [Rx.sizes, ih i h]; omega
theorem Rx.size_pos (r : Rx) : 1 ≤ r.size := by cases r; simp [Rx.size]
theorem Rx.sizes_le (l : List Rx) (i : Nat) : Rx.sizes (l.take i) ≤ Rx.sizes l := by
  induction l generalizing i with
  | nil => simp
  | cons x l ih =>
    cases i with
    | zero => simp [Rx.sizes]
    | succ i => simp [Rx.sizes]; exact ih i
theorem Rx.length_le (l : List Rx) : l.length ≤ Rx.sizes l := by
  induction l with
  | nil => simp
  | cons x l ih => simp [Rx.sizes]; have := x.size_pos; omega

theorem size_any (n : Nat) : ∀ (r : Rx) (v : Value) (w : World) (ok : Nat → Prop), r.size ≤ n → r.size < 4611686018427387904 → RxV ok w v r →
    Calls Try.prog 29 #[v] w fun e w' => e = .returned (.int .i64 r.size) ∧ Fr none_ w w' := by
  induction n with
  | zero => intro r v w ok hn; have := r.size_pos; omega
  | succ n ih =>
    rintro ⟨k, b0, b1, b2, b3, kids⟩ v w ok hn hlim hv
    obtain ⟨a, cap, rfl, hc, hl⟩ := hv.open_
    have hsz : Rx.sizes kids < 4611686018427387904 := by simp only [Rx.size] at hlim; omega
    have hlen := Rx.length_le kids
    have HL := Lib.hid hl
    have HN := Lib.hid hn
    have HIH := Lib.hid ih
    clear hl hn hv ih
    go_enter Try.func29, Try.ntmps29
    go_wp2_with fail
    have F0 := Lib.hid (((Fr.refl none_ w).alloc (.cells #[.int .i64 k, .int .u64 b0, .int .u64 b1, .int .u64 b2, .int .u64 b3, .slice a kids.length cap] 28)))
    go_loopw [3, 9] (fun t x wr => ∃ i : Nat, i ≤ kids.length ∧ x = .int .i64 i ∧ t = .int .i64 ((1 + Rx.sizes (kids.take i) : Nat) : Int) ∧ Fr none_ w wr) (fun _ x _ => kids.length - (intOf x).toNat)
    case atStart => exact ⟨0, Nat.zero_le _, rfl, by simp [Rx.sizes], F0.out⟩
    case round =>
      obtain ⟨i, hi, rfl, rfl, hf⟩ := hrel
      by_cases hlt : i < kids.length
      · obtain ⟨k', x0, x1, x2, x3, kids', hk'⟩ : ∃ k' x0 x1 x2 x3 kids', kids[i] = Rx.mk k' x0 x1 x2 x3 kids' := by
          cases kids[i]; exact ⟨_, _, _, _, _, _, rfl⟩
        have hki : kids[i]? = some (Rx.mk k' x0 x1 x2 x3 kids') := by rw [List.getElem?_eq_getElem hlt, hk']
        have hmv : RxL ok wr a 0 kids := RxL.move (fun k _ hlt => hf.block k hlt (fun h => h)) kids a 0 HL.out
        obtain ⟨ad, a', cap', rfl, hok, c0, c1, c2, c3, c4, c5, hc', hl'⟩ := hmv.elem hki
        have hsum := Rx.sizes_take_succ kids i _ hki
        have hle := Rx.sizes_le kids (i + 1)
        have HL' := Lib.hid hl'
        have HSUM := Lib.hid hsum
        have HKI := Lib.hid hki
        have hle2 : Rx.sizes (kids.take i) + (Rx.mk k' x0 x1 x2 x3 kids').size < 4611686018427387904 := by omega
        have hsz2 : (Rx.mk k' x0 x1 x2 x3 kids').size ≤ n := by
          have := HN.out
          simp only [Rx.size] at this ⊢
          simp only [Rx.size] at hsum
          omega
        clear hk' hki hmv hl' hsum hle
        go_wp2_with fail
        have F1 : Fr none_ wr _ := Fr.alloc (Fr.refl none_ wr) (.cells #[.int .i64 k', .int .u64 x0, .int .u64 x1, .int .u64 x2, .int .u64 x3, .slice a' kids'.length cap'] 28)
        refine (HIH.out _ _ _ ok hsz2 (by omega) ((RxV.mk_ hc' HL'.out).move F1 (fun _ _ _ h => h))).mono ?_
        rintro e w' ⟨rfl, F2⟩
        have F3 := Lib.hid ((hf.tr F1).tr F2)
        clear F2 F1 hf
        go_wp2_with fail
        go_roundw
        case rel => exact ⟨i + 1, by omega, rfl, congrArg (Value.int .i64) (by rw [HSUM.out]; omega), F3.out⟩
        case measure => simp [intOf]; omega
      · obtain rfl : i = kids.length := by omega
        have H : kids.take kids.length = kids := List.take_length
        rw [H]
        clear H
        have HF := Lib.hid hf
        clear hf
        go_wp2_with fail
        go_ret
        exact ⟨by simp [Rx.size], HF.out⟩
end Go.Proofs.Ytjbmppbciiemkaa
