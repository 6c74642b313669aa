/-
  The walks over regex's reader: rows of regexes, a class.
-/
import Derived.Test.YtjbmppbciiemkaaPz
namespace Go.Proofs.Ytjbmppbciiemkaa set_option linter.unusedVariables false set_option linter.unusedSimpArgs false
open Go.RowKit

theorem RxV.zero_ (ok : Nat → Prop) (w : World) : RxV ok w (.agg #[.int .i64 0, .int .u64 0, .int .u64 0, .int .u64 0, .int .u64 0, .slice none 0 0]) Rx.zero :=
  RxV.mk_ (k := 0) (b0 := 0) (b1 := 0) (b2 := 0) (b3 := 0) (kids := []) (Nat.le_refl _) (by simp only [RxL])
theorem RxV.bs (ok : Nat → Prop) (w : World) (x : Bs) : RxV ok w (.agg #[.int .i64 1, .int .u64 x.b0, .int .u64 x.b1, .int .u64 x.b2, .int .u64 x.b3, .slice none 0 0]) x.rx :=
  RxV.mk_ (k := 1) (kids := []) (Nat.le_refl _) (by simp only [RxL])

theorem of_any (kind : Int) (l : List Rx) (a : Option Addr) (cap : Nat) (w : World) (ok : Nat → Prop) (hc : l.length ≤ cap) (hlen : l.length ≤ 2000) (hl : RxL ok w a 0 l) :
    Calls Try.prog 28 #[.int .i64 kind, .slice a l.length cap] w fun e w' => (∃ v, e = .returned v ∧ RxV ok w' v (ofR kind l)) ∧ Fr none_ w w' := by
  have n1 := alloc_new w (.cells #[.int .i64 0, .int .u64 0, .int .u64 0, .int .u64 0, .int .u64 0, .slice none 0 0] 28)
  have N1 := Lib.hid n1
  have F0 := Lib.hid ((Fr.refl none_ w).alloc (.cells #[.int .i64 0, .int .u64 0, .int .u64 0, .int .u64 0, .int .u64 0, .slice none 0 0] 28))
  have HL := Lib.hid hl
  clear hl n1
  match l with
  | [] =>
    have e0 : (((([] : List Rx).length : Nat) : Int) == 0) = true := rfl
    go_enter Try.func28, Try.ntmps28
    go_wp2_with fail
    exact bodyPost_ret (results_six rfl rfl (alloc_new w _)) rfl ⟨⟨_, rfl, RxV.zero_ _ _⟩, (Fr.refl _ _).alloc _⟩
  | [r] =>
    obtain ⟨k, b0, b1, b2, b3, kids⟩ := r
    obtain ⟨ad, a', cap', rfl, hok, c0, c1, c2, c3, c4, c5, hc', hl'⟩ := HL.out.elem (i := 0) rfl
    have hlt := World.block_lt_of_cell? w _ c0
    have ha0 : ad.add (0 * 6) = ad := by simp [Addr.add]
    rw [ha0] at c0 c1 c2 c3 c4 c5 hlt
    clear ha0
    have HL' := Lib.hid hl'
    clear hl'
    go_enter Try.func28, Try.ntmps28
    go_wp2_with fail
    exact bodyPost_ret (results_six rfl rfl (alloc_new w _)) rfl ⟨⟨_, rfl, (RxV.mk_ hc' HL'.out).move ((Fr.refl none_ w).alloc _) (fun _ _ _ h => h)⟩, (Fr.refl _ _).alloc _⟩
  | r1 :: r2 :: l =>
    have e0 : ((((r1 :: r2 :: l).length : Nat) : Int) == 0) = false := by rw [beq_eq_false_iff_ne]; simp; omega
    have e1 : ((((r1 :: r2 :: l).length : Nat) : Int) == 1) = false := by rw [beq_eq_false_iff_ne]; simp; omega
    go_enter Try.func28, Try.ntmps28
    go_wp2_with fail
    exact bodyPost_ret (results_six rfl rfl (alloc_new w _)) rfl ⟨⟨_, rfl, (RxV.mk_ (k := kind) (b0 := 0) (b1 := 0) (b2 := 0) (b3 := 0) hc HL.out).move ((Fr.refl none_ w).alloc _) (fun _ _ _ h => h)⟩, (Fr.refl _ _).alloc _⟩

/-- A row of regexes that a call is making: the row is its own, what the regexes lead to is ok and none of that row. -/
def RxOwn (B : Nat) (ok : Nat → Prop) (w : World) (v : Value) (l : List Rx) : Prop :=
  ∃ cells, w.ownsRow B 28 6 v l.length cells ∧
    ∀ j r, l[j]? = some r → ∃ cs, cs.length = 6 ∧ (∀ m u, cs[m]? = some u → cells[j * 6 + m]? = some u) ∧ RxC (fun k => ok k ∧ some k ≠ v.ownBlock) w r cs
theorem RxOwn.nil (B : Nat) (ok : Nat → Prop) (w : World) : RxOwn B ok w (.slice none 0 0) [] :=
  ⟨[], World.ownsRow_nil w B _ 6, fun j r h => by simp at h⟩
theorem RxOwn.move {B : Nat} {ok S : Nat → Prop} {w w' : World} {v : Value} {l : List Rx} (h : RxOwn B ok w v l) (hf : Fr S w w') (hs : ∀ k, ok k → k < w.heap.size → ¬ S k) (hb : ∀ k, B ≤ k → k < w.heap.size → ¬ S k) : RxOwn B ok w' v l := by
  obtain ⟨cells, h1, h2⟩ := h
  refine ⟨cells, ⟨h1.1, ?_⟩, fun j r hj => ?_⟩
  · rcases h1.2 with hn | ⟨g, cap, cur, rfl, hbg, hg, rest⟩
    · exact .inl hn
    · exact .inr ⟨g, cap, cur, rfl, hbg, hf.at_ hg (hb g hbg (lt_of_block hg)), rest⟩
  · obtain ⟨cs, h3, h4, h5⟩ := h2 j r hj
    exact ⟨cs, h3, h4, RxC.move (fun k hk hlt => hf.block k hlt (hs k hk.1 hlt)) r cs h5⟩
theorem RxOwn.rows {B : Nat} {ok : Nat → Prop} {w : World} {v : Value} {l : List Rx} (h : RxOwn B ok w v l) :
    ∃ a cap, v = .slice a l.length cap ∧ l.length ≤ cap ∧ RxL (fun k => ok k ∨ B ≤ k) w a 0 l := by
  obtain ⟨cells, h1, h2⟩ := h
  rcases h1.2 with ⟨rfl, hn⟩ | ⟨g, cap, cur, rfl, hbg, hg, hle, _⟩
  · have hl : l = [] := List.eq_nil_of_length_eq_zero hn
    subst hl
    exact ⟨none, 0, rfl, Nat.le_refl _, by simp only [RxL]⟩
  · refine ⟨some ⟨g, 0, none⟩, cap, rfl, hle, RxL.of l _ 0 (fun j r hj => ?_)⟩
    obtain ⟨cs, h3, h4, h5⟩ := h2 j r hj
    refine ⟨⟨g, 0, none⟩, cs, rfl, .inr hbg, h3, fun m u hu => ?_, RxC.mono (fun k hk => .inl hk.1) r cs h5⟩
    rw [Nat.zero_add]
    exact h1.cells (g := g) rfl _ u (h4 m u hu)
/-- One more regex: behind an append. -/
theorem RxOwn.snoc {B : Nat} {ok : Nat → Prop} {w w' : World} {v : Value} {l : List Rx} {cells cs : List Value} {r : Rx} {g cap : Nat}
    (h1 : w.ownsRow B 28 6 v l.length cells)
    (h2 : ∀ j r, l[j]? = some r → ∃ cs, cs.length = 6 ∧ (∀ m u, cs[m]? = some u → cells[j * 6 + m]? = some u) ∧ RxC (fun k => ok k ∧ some k ≠ v.ownBlock) w r cs)
    (hcs : cs.length = 6) (hr : RxC (fun k => ok k ∧ some k ≠ v.ownBlock) w r cs)
    (h3 : w'.ownsRow B 28 6 (.slice (some ⟨g, 0, none⟩) (l.length + 1) cap) (l.length + 1) (cells ++ cs)) (hg : w.grownBy w' v.ownBlock) (hat : v.ownBlock = some g ∨ g = w.heap.size) :
    RxOwn B ok w' (.slice (some ⟨g, 0, none⟩) (l.length + 1) cap) (l ++ [r]) := by
  have hmv : ∀ (r : Rx) (cs : List Value), RxC (fun k => ok k ∧ some k ≠ v.ownBlock) w r cs → RxC (fun k => ok k ∧ some k ≠ (Value.slice (some ⟨g, 0, none⟩) (l.length + 1) cap).ownBlock) w' r cs := by
    intro r cs hr
    have := RxC.move (w' := w') (fun k hk hlt => hg.block k hlt hk.1.2) r cs (RxC.bound r cs hr)
    refine RxC.mono (fun k hk => ⟨hk.1.1, ?_⟩) r cs this
    simp only [Value.ownBlock]
    rcases hat with hat | hat
    · rw [← hat]; exact hk.1.2
    · intro e
      have : k = g := by simpa using e
      omega
  refine ⟨cells ++ cs, by simpa using h3, fun j x hj => ?_⟩
  rcases Nat.lt_or_ge j l.length with hlt | hge
  · rw [List.getElem?_append_left hlt] at hj
    obtain ⟨cs', h4, h5, h6⟩ := h2 j x hj
    refine ⟨cs', h4, fun m u hu => ?_, hmv x cs' h6⟩
    have := h5 m u hu
    have hm : j * 6 + m < cells.length := (List.getElem?_eq_some_iff.1 this).1
    rw [List.getElem?_append_left hm]
    exact this
  · have hjl : j = l.length := by
      have := (List.getElem?_eq_some_iff.1 hj).1
      simp at this
      omega
    subst hjl
    have hx : r = x := by simpa using hj
    subst hx
    refine ⟨cs, hcs, fun m u hu => ?_, hmv r cs hr⟩
    have hcl : cells.length = l.length * 6 := h1.1
    rw [List.getElem?_append_right (by omega), hcl]
    have : l.length * 6 + m - l.length * 6 = m := by omega
    rw [this]
    exact hu
end Go.Proofs.Ytjbmppbciiemkaa
