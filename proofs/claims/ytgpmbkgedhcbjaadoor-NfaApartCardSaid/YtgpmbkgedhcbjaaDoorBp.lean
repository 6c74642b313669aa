/-
  Regexes put together: a row of them behind another one.
-/
import Derived.Test.YtgpmbkgedhcbjaaDoorBl
namespace Go.Proofs.YtgpmbkgedhcbjaaDoor
open Go.RowKit

theorem one_of_rx {ok : Nat → Prop} {w : World} : ∀ (r : Rx) (cs : List Value), RxC ok w r cs → ∀ u ∈ cs, u.oneCell' = true
  | .mk k b0 b1 b2 b3 kids, cs, h => by
    simp only [RxC] at h
    obtain ⟨a, cap, rfl, _⟩ := h
    simp [Value.oneCell']
/-- All cells of a row of regexes are one each. -/
theorem RxOwn.ones {B : Nat} {ok : Nat → Prop} {w : World} {v : Value} {l : List Rx} {cells : List Value} (h1 : w.ownsRow B 42 6 v l.length cells)
    (h2 : ∀ j r, l[j]? = some r → ∃ cs, cs.length = 6 ∧ (∀ m u, cs[m]? = some u → cells[j * 6 + m]? = some u) ∧ RxC (fun k => ok k ∧ some k ≠ v.ownBlock) w r cs) : ∀ u ∈ cells, u.oneCell' = true := by
  intro u hu
  obtain ⟨i, hi⟩ := List.mem_iff_getElem?.1 hu
  have hlt : i < l.length * 6 := by have := (List.getElem?_eq_some_iff.1 hi).1; rw [h1.1] at this; exact this
  obtain ⟨cs, g1, g2, g3⟩ := h2 (i / 6) l[i / 6] (List.getElem?_eq_getElem (by omega))
  have hm : i % 6 < cs.length := by rw [g1]; omega
  have hc := g2 (i % 6) cs[i % 6] (List.getElem?_eq_getElem hm)
  rw [show i / 6 * 6 + i % 6 = i by omega] at hc
  rw [hc] at hi
  cases hi
  exact one_of_rx _ _ g3 _ (List.getElem_mem hm)

/-- A row of regexes behind another one. -/
theorem wpList_append_rx {P : Program} (w : World) {ops : Array Oper} {rest : List Oper} {o : Oper} {a : Act} {Q : Exit → Act → World → Prop} (hgd : o.guard = none) (s x : Operand) (t : TypeId)
    (ho : o.op = .call { callee := .builtin .append, args := #[s, x], argTypes := #[t, t] })
    (i : TypeInfo) (z : Value) (bytes : Nat) (ht : P.underlying t = some (.slice 42)) (hi : P.info? 42 = some i) (hz : i.zero = some z)
    (hsize : i.size = 6) (hby : i.bytes = bytes) (hzs : z.cells.size = 6)
    (v : Value) (l : List Rx) (B B2 : Nat) (ok ok2 : Nat → Prop) (hs : a.eval s = v) (hown : RxOwn B ok w v l)
    (xv : Value) (l2 : List Rx) (hx : a.eval x = xv) (hI : RxOwn B2 ok2 w xv l2) (hok2 : ∀ k, ok2 k → k < w.heap.size → ok k ∧ k < B)
    (h63 : l.length + l2.length ≤ maxLen) (hbytes : (l.length + l2.length) * bytes ≤ 140737488355328) (hbase : B ≤ w.heap.size)
    (h : ∀ v' w', RxOwn B ok w' v' (l ++ l2) → Fr (fun k => B ≤ k) w w' → wpList P ops Q rest (a.put o.dst v') w') : wpList P ops Q (o :: rest) a w := by
  obtain ⟨cells, hrow, hels⟩ := hown
  obtain ⟨cells2, hrow2, hels2⟩ := hI
  have hub : ∀ i, v.ownBlock = some i → B ≤ i ∧ i < w.heap.size := hrow.lt
  have key : ∀ (v' : Value) (w' : World), w'.ownsRow B 42 6 v' (l.length + l2.length) (cells ++ cells2) → w.grownBy w' v.ownBlock → (v'.ownBlock = v.ownBlock ∨ v'.ownBlock = some w.heap.size) → RxOwn B ok w' v' (l ++ l2) ∧ Fr (fun k => B ≤ k) w w' := by
    intro v' w' h1 h2 h3
    have hmv : ∀ (r : Rx) (cs : List Value), RxC (fun k => ok k ∧ some k ≠ v.ownBlock) w r cs → RxC (fun k => ok k ∧ some k ≠ v'.ownBlock) w' r cs := by
      intro r cs hr
      have := RxC.move (w' := w') (fun k hk hlt => h2.block k hlt hk.1.2) r cs (RxC.bound r cs hr)
      refine RxC.mono (fun k hk => ⟨hk.1.1, ?_⟩) r cs this
      rcases h3 with h3 | h3
      · rw [h3]; exact hk.1.2
      · rw [h3]
        intro e
        have : k = w.heap.size := by simpa using e
        omega
    refine ⟨⟨cells ++ cells2, by rw [List.length_append]; exact h1, fun j r hj => ?_⟩, (Fr.refl _ w).grown h2 (fun i hi => .inl (hub i hi).1)⟩
    rcases Nat.lt_or_ge j l.length with hlt | hge
    · rw [List.getElem?_append_left hlt] at hj
      obtain ⟨cs, g1, g2, g3⟩ := hels j r hj
      refine ⟨cs, g1, fun m u hu => ?_, hmv r cs g3⟩
      have := g2 m u hu
      rw [List.getElem?_append_left (List.getElem?_eq_some_iff.1 this).1]
      exact this
    · rw [List.getElem?_append_right hge] at hj
      obtain ⟨cs, g1, g2, g3⟩ := hels2 (j - l.length) r hj
      refine ⟨cs, g1, fun m u hu => ?_, hmv r cs (RxC.mono (fun k hk => ?_) r cs (RxC.bound r cs g3))⟩
      · have hcl : cells.length = l.length * 6 := hrow.1
        rw [List.getElem?_append_right (by omega), hcl]
        have := g2 m u hu
        rw [show j * 6 + m - l.length * 6 = (j - l.length) * 6 + m by omega]
        exact this
      · obtain ⟨q1, q2⟩ := hok2 k hk.1.1 hk.2
        exact ⟨q1, fun e => by have := (hub k e.symm).1; omega⟩
  have hones := RxOwn.ones hrow2 hels2
  have hrow2' := hrow2
  rcases hrow2.2 with ⟨rfl, hn0⟩ | ⟨g, cap, cur, rfl, _⟩
  · have hl2 : l2 = [] := List.eq_nil_of_length_eq_zero hn0
    subst hl2
    have hc2 : cells2 = [] := List.eq_nil_of_length_eq_zero (by rw [hrow2.1]; rfl)
    subst hc2
    refine wpList_append_own_none hgd s x t ho B 42 i 6 ht hi v l.length cells hs hrow hx ?_
    obtain ⟨k1, k2⟩ := key v w (by simpa using hrow) ⟨rfl, rfl, rfl, Nat.le_refl _, fun _ _ _ => rfl⟩ (.inl rfl)
    exact h v w k1 k2
  · exact wpList_append_own_at w hgd s x t ho B 42 i z 6 bytes ht hi hz hsize hby hzs (by decide) v l.length cells hs hrow ⟨g, 0, none⟩ l2.length cap cells2 hx hrow2'.1 (hrow2'.cells rfl) hones h63 hbytes hbase
      (fun v' w' q1 q2 _ q3 => by obtain ⟨k1, k2⟩ := key v' w' q1 q2 q3; exact h v' w' k1 k2)

/-- What both together answer. -/
theorem run_both (x y : List Rx) (hx : x.length ≤ 8) (hy : y.length ≤ 8) (bs : List Nat) :
    runM (buildM (x ++ y) 0 [] []).1 (buildM (x ++ y) 0 [] []).2 bs =
      ofM (ints (bitsL (runM (buildM x 0 [] []).1 (buildM x 0 [] []).2 bs)) ++ (ints (bitsL (runM (buildM y 0 [] []).1 (buildM y 0 [] []).2 bs))).map (· + (x.length : Int))) := by
  apply Nat.eq_of_testBit_eq
  intro t
  rw [Bool.eq_iff_iff, run_lang (x ++ y) (by simp; omega), testBit_ofM]
  have hX := run_lang x (by omega) bs
  have hY := run_lang y (by omega) bs
  have hxl : runM (buildM x 0 [] []).1 (buildM x 0 [] []).2 bs < 18446744073709551616 := tagsM_lt _ _
  have hyl : runM (buildM y 0 [] []).1 (buildM y 0 [] []).2 bs < 18446744073709551616 := tagsM_lt _ _
  constructor
  · rintro ⟨r, hr, hl⟩
    have ht := (List.getElem?_eq_some_iff.1 hr).1
    simp at ht
    refine ⟨by omega, ?_⟩
    rcases Nat.lt_or_ge t x.length with h | h
    · rw [List.getElem?_append_left h] at hr
      exact List.mem_append_left _ (mem_ints.2 ((mem_bitsL hxl t).2 ((hX t).2 ⟨r, hr, hl⟩)))
    · rw [List.getElem?_append_right h] at hr
      refine List.mem_append_right _ (List.mem_map.2 ⟨((t - x.length : Nat) : Int), mem_ints.2 ((mem_bitsL hyl _).2 ((hY _).2 ⟨r, hr, hl⟩)), by omega⟩)
  · rintro ⟨h64, h⟩
    rcases List.mem_append.1 h with h | h
    · obtain ⟨r, hr, hl⟩ := (hX t).1 ((mem_bitsL hxl t).1 (mem_ints.1 h))
      exact ⟨r, by rw [List.getElem?_append_left (List.getElem?_eq_some_iff.1 hr).1]; exact hr, hl⟩
    · obtain ⟨j, hj, hjt⟩ := List.mem_map.1 h
      obtain ⟨q, hq, rfl⟩ := List.mem_map.1 hj
      obtain ⟨r, hr, hl⟩ := (hY q).1 ((mem_bitsL hyl q).1 hq)
      have : t = q + x.length := by omega
      subst this
      refine ⟨r, ?_, hl⟩
      rw [List.getElem?_append_right (by omega)]
      rw [show q + x.length - x.length = q by omega]
      exact hr
end Go.Proofs.YtgpmbkgedhcbjaaDoor
