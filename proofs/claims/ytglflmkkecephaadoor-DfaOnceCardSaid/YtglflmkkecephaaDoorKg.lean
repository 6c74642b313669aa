/-
  A map that numbers keys; rows that are loaded and stored whole.
-/
import Derived.Test.YtglflmkkecephaaDoorKf
import Derived.Maps.OwnSet
import Derived.Maps.OwnOps
import Derived.DeepKeys4
namespace Go.Proofs.YtglflmkkecephaaDoor
open Go.RowKit
open Go.Maps

/-- A map has some keys, each with its number. -/
structure MapIs {α : Type} [DecidableEq α] (kl : α → Lit) (dom : α → Prop) (D : DataW Unit) (ks : List α) : Prop where
  tidy : Tidy D
  has : ∀ k, dom k → Maps.has D (kl k) = decide (k ∈ ks)
  at_ : ∀ k, dom k → k ∈ ks → ∀ z, D.atKey (kl k) z = .lit (.int .i64 (idxM ks k : Int))
  size : Maps.size D = ks.length
theorem MapIs.nil {α : Type} [DecidableEq α] (kl : α → Lit) (dom : α → Prop) : MapIs kl dom (.map []) ([] : List α) :=
  ⟨tidy_empty, fun k _ => rfl, fun k _ h => absurd h (by simp), rfl⟩
theorem MapIs.put {α : Type} [DecidableEq α] {kl : α → Lit} {dom : α → Prop} {D : DataW Unit} {ks : List α} (h : MapIs kl dom D ks) {k : α} (hk : dom k) (hn : k ∉ ks)
    (inj : ∀ a b, dom a → dom b → kl a = kl b → a = b) (hl : WideAt.IsKeyLit (kl k)) : MapIs kl dom (D.put (kl k) (.lit (.int .i64 (ks.length : Int)))) (ks ++ [k]) := by
  have hne : ∀ x, dom x → x ≠ k → kl x ≠ kl k := fun x hx h1 h2 => h1 (inj x k hx hk h2)
  refine ⟨h.tidy.put hl _, fun x hx => ?_, fun x hx hm z => ?_, ?_⟩
  · by_cases e : x = k
    · subst e
      rw [has_put_same h.tidy.isMap hl]; simp
    · rw [has_put_other (hne x hx e), h.has x hx]; simp [e]
  · by_cases e : x = k
    · subst e
      rw [atKey_put_same h.tidy.isMap hl]
      have : idxM (ks ++ [x]) x = ks.length := by simp [idxM, List.idxOf_append, hn, List.idxOf_cons]
      rw [this]
    · have hm2 : x ∈ ks := by simpa [e] using hm
      rw [atKey_put_other (hne x hx e), h.at_ x hx hm2, idxM_more hm2]
  · rw [size_put h.tidy, h.has k hk, h.size]
    simp [hn]

theorem Fr.setRow {S : Nat → Prop} {a w : World} (h : Fr S a w) {g : Nat} (hp : S g ∨ a.heap.size ≤ g) (cs : Array Value) : Fr S a (w.setRow g cs) :=
  ⟨h.os, h.tape, h.output, Nat.le_trans h.size (by simp [World.setRow]), fun k hk hn => (setRow_other w g k cs (fun e => by
    subst e
    rcases hp with hp | hp
    · exact hn hp
    · omega)).trans (h.block k hk hn)⟩
theorem wpList_store_row {P : Program} {ops : Array Oper} {rest : List Oper} {op : Oper} {a : Act} {w : World} {Q : Exit → Act → World → Prop} (hgd : op.guard = none) (ty : TypeId) (x y : Operand) (ho : op.op = .store ty x y)
    (g : Nat) (t : TypeId) (old cells : Array Value) (hx : a.eval x = .pointer (some ⟨g, 0, none⟩)) (hy : a.eval y = .agg cells) (hb : w.heap[g]? = some (.cells old t (0, 0)))
    (hi : (P.info? ty).map (·.size) = some cells.size) (hs : old.size = cells.size) (h1 : cells.all (·.oneCell') = true)
    (h : wpList P ops Q rest (a.put op.dst undef) (w.setRow g cells)) : wpList P ops Q (op :: rest) a w :=
  wpList_plain hgd fun K hK => by
    unfold Oper.wp execOp
    simp only [ho, hx, hy, Instr.storeAt, Instr.sureAddr, Sem.run_bind, Sem.run_pure, Result.andThen_ok, run_storeVar_row w g t ty old cells hb hi hs h1]
    exact hK _ _ h
theorem wpList_load_row {P : Program} {ops : Array Oper} {rest : List Oper} {op : Oper} {a : Act} {w : World} {Q : Exit → Act → World → Prop} (hgd : op.guard = none) (ty : TypeId) (x : Operand) (ho : op.op = .load ty x)
    (g : Nat) (t : TypeId) (cs : List Value) (d : TypeDesc) (hx : a.eval x = .pointer (some ⟨g, 0, none⟩)) (hb : w.heap[g]? = some (.cells cs.toArray t (0, 0))) (hu : P.underlying ty = some d) (hd : d.isRow = true)
    (hi : (P.info? ty).map (·.size) = some cs.length) (h : wpList P ops Q rest (a.put op.dst (.agg cs.toArray)) w) : wpList P ops Q (op :: rest) a w :=
  wpList_load_mid hgd ty x ho g 0 hx cs d (range_of hb) hu hd hi h
theorem results_arr {fn : Func} {tm : Nat} (h : fn.results = #[.cell tm 25]) {tmps : Array Value} {r : Nat} (hp : tmps.getD tm undef = .pointer (some ⟨r, 0, none⟩)) {w : World} {cs : List Value} {t : TypeId}
    (hb : w.heap[r]? = some (.cells cs.toArray t (0, 0))) (hz : cs.length = 256) : (results fn tmps).run Tryd.prog w = .ok (.agg cs.toArray) w := by
  have hl := run_loadVar_mid (P := Tryd.prog) w r 0 25 cs _ (range_of hb) Tryd.underlying25 rfl (by rw [hz]; exact arr_info)
  have hp' : tmps[tm]?.getD undef = .pointer (some ⟨r, 0, none⟩) := by simpa using hp
  simp [results, h, hp', hl, asAddr, Result.andThen, Sem.run_bind, Sem.run_pure]

/-! ### The keys of classes: two numbers. -/
theorem key2_law : Keyed Tryd.prog 111 := Keyed.of_law (deep_law_laid (P := Tryd.prog) (show laidOutB Tryd.prog = true by kernel_rfl) (m := 2) (by omega) (of_decide_eq_true (by kernel_rfl)) (by kernel_rfl) (by rw [Tryd.underlying111]))
def pairV (k : Nat × Bool) : Value := .agg #[.int .i64 (k.1 : Int), .int .i64 (if k.2 then 1 else 0)]
theorem key2_cells : Tryd.prog.cellsOf 111 = 2 := by kernel_rfl
theorem key2_type : Tryd.prog.keyType 111 = true := by kernel_rfl
def pairL (k : Nat × Bool) : Lit := .string (keyBytes [.int .i64 (k.1 : Int), .int .i64 (if k.2 then 1 else 0)])
theorem key2_some (k : Nat × Bool) (h : k.1 ≤ 1000) : Go.keyOf Tryd.prog 111 (pairV k) = some (pairL k) := by
  have hw1 : (Lit.int .i64 (k.1 : Int)).wf = true := WalkArith.wf_i64 (by omega)
  have hw2 : (Lit.int .i64 (if k.2 then 1 else 0)).wf = true := by cases k.2 <;> decide
  obtain ⟨c, hc⟩ : ∃ c : Int, (k.1 : Int) = c := ⟨_, rfl⟩
  obtain ⟨x, hx⟩ : ∃ x : Int, (if k.2 then 1 else 0) = x := ⟨_, rfl⟩
  unfold pairV pairL
  rw [hc] at hw1 ⊢
  rw [hx] at hw2 ⊢
  have hp : 0 < Tryd.prog.types.size := of_decide_eq_true (by kernel_rfl)
  obtain ⟨m, hm⟩ : ∃ m, Tryd.prog.types.size = m + 1 := ⟨Tryd.prog.types.size - 1, by omega⟩
  have hl : Tryd.prog.keyLits (Tryd.prog.types.size + 1) 111 [.int .i64 c, .int .i64 x] = some [.int .i64 c, .int .i64 x] := by
    rw [hm]
    have h1 : ∀ y : Int, (Lit.int .i64 y).wf = true → Tryd.prog.keyLits (m + 1) 3 [.int .i64 y] = some [.int .i64 y] := by
      intro y hy
      simp [Program.keyLits, Tryd.underlying3, hy]
    unfold Program.keyLits
    rw [Tryd.underlying111]
    simp only [key2_cells, int_cells]
    simp [List.range_succ, h1 c hw1, h1 x hw2]
  have hf : (Value.agg #[.int .i64 c, .int .i64 x]).formed Tryd.prog 111 = true := by simp [Value.formed, Tryd.underlying111, key2_cells]
  rw [Go.keyOf, Tryd.underlying111]
  show (if (Tryd.prog.keyType 111 && (Value.agg #[.int .i64 c, .int .i64 x]).formed Tryd.prog 111) = true then (Tryd.prog.keyLits (Tryd.prog.types.size + 1) 111 [.int .i64 c, .int .i64 x]).map (fun ls => Lit.string (keyBytes ls)) else none) = _
  rw [if_pos (by rw [key2_type, hf]; rfl), hl]
  rfl
theorem pairL_key (k : Nat × Bool) (h : k.1 ≤ 1000) : WideAt.IsKeyLit (pairL k) := key2_law.key (key2_some k h)
theorem pairL_inj (a b : Nat × Bool) (ha : a.1 ≤ 1000) (hb : b.1 ≤ 1000) (h : pairL a = pairL b) : a = b := by
  have h1 := key2_some a ha
  have h2 := key2_some b hb
  rw [← h] at h2
  have hv := key2_law.inj h1 h2
  obtain ⟨a1, a2⟩ := a
  obtain ⟨b1, b2⟩ := b
  simp only [pairV, Value.agg.injEq] at hv
  have e := congrArg Array.toList hv
  simp only [List.cons.injEq, Value.int.injEq, and_true, true_and] at e
  obtain ⟨e1, e2⟩ := e
  have : a1 = b1 := by omega
  subst this
  cases a2 <;> cases b2 <;> simp at e2 ⊢
end Go.Proofs.YtglflmkkecephaaDoor
