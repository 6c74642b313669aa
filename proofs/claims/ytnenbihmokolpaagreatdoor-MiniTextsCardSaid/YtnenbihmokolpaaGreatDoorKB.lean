/-
  The first bytes of all classes.
  A map that numbers keys; rows that are loaded and stored whole.
  Classes of bytes: split and Classes.
  Classes of bytes: split by a regex of bytes.
  Classes of bytes: Classes.
-/
import Derived.Test.YtnenbihmokolpaaGreatDoorKA
import Derived.ChangeKeysEq
import Derived.Maps.OwnSet
import Derived.Maps.OwnOps
import Derived.DeepKeys4
namespace Go.Proofs.YtnenbihmokolpaaGreatDoor set_option linter.unusedVariables false set_option linter.unusedSimpArgs false
open Go.RowKit

theorem u8_info : (Tryz.prog.info? 5).map (fun i => (i.zero, i.size, i.bytes)) = some (some (.int .u8 0), 1, 1) := by kernel_rfl
def bytesV (l : List Nat) : List Value := l.map fun (b : Nat) => Value.int .u8 (b : Int)
def BytesAt (w : World) (v : Value) (l : List Nat) : Prop := ∃ base, w.ownsRow base 5 1 v l.length (bytesV l)
theorem arr_info : (Tryz.prog.info? 22).map (·.size) = some 256 := by kernel_rfl
theorem arr_at {cls : List Nat} {b : Nat} (hb : b < cls.length) : (intsV (ints cls))[b]? = some (.int .i64 ((cls.getD b 0 : Nat) : Int)) := by
  simp [intsV, ints, List.getD, List.getElem?_eq_getElem hb]

theorem int_cells : Tryz.prog.cellsOf 3 = 1 := by kernel_rfl
theorem int_plain : Tryz.prog.plainKey 3 = true := by kernel_rfl
/-- 'class[b]' of an array by value. -/
theorem run_arr (C : Array Value) (i : Nat) (v : Value) (hi : i < 256) (h : C[i]? = some v) (w : World) : (Instr.index 22 (.agg C) (.int .i64 (i : Int))).run Tryz.prog w = .ok v w := by
  obtain ⟨i0, hii, _, _, _⟩ := info_parts int_info
  have hp := run_part_plain (P := Tryz.prog) w int_plain h
  have hs := run_sizeOf (P := Tryz.prog) w hii
  rw [int_cells] at hs
  have hu : (underlying 22).run Tryz.prog w = .ok (.array 256 3) w := run_underlying Tryz.underlying22 w
  have hb : (0 : Int) ≤ (i : Int) ∧ (i : Int) < ((256 : Nat) : Int) := by omega
  simp [Instr.index, asIntOf, hu, hb, hs, hp, h, hi, go_sem, Sem.run_pure]

set_option maxRecDepth 100000 in
set_option maxHeartbeats 4000000 in
theorem firsts_any (cls : List Nat) (w : World) (hl : cls.length = 256) :
    Calls Tryz.prog 64 #[.agg (intsV (ints cls)).toArray] w fun e w' => ∃ v, e = .returned v ∧ BytesAt w' v (firstsM cls 256) ∧ Fr none_ w w' := by
  have hz : (intsV (ints cls)).length = 256 := by rw [intsV_length, ints_length, hl]
  have HAt := Lib.hid (fun b (hb : b < cls.length) => arr_at hb)
  obtain ⟨C, hC⟩ : ∃ C, intsV (ints cls) = C := ⟨_, rfl⟩
  rw [hC] at hz HAt ⊢
  clear hC
  obtain ⟨i0, hi, hz0, hz1, hz2⟩ := info_parts u8_info
  have NB := Lib.hid (alloc_new w (.cells C.toArray 22))
  have HF := Lib.hid ((Fr.refl none_ w).alloc (.cells C.toArray 22))
  go_enter Tryz.func64, Tryz.ntmps64
  go_wp2_with (refine wpList_load_mid rfl 22 _ rfl _ _ rfl C _ (range_of NB.out) Tryz.underlying22 rfl (by rw [hz]; exact arr_info) ?_)
  go_loopw [3, 7] (fun x3 x7 wr => ∃ i : Nat, i ≤ 256 ∧ x7 = .int .i64 i ∧ Aside (wr.ownsRow (w.heap.size + 1) 5 1 x3 (firstsM cls i).length (bytesV (firstsM cls i))) ∧ Aside (Fr none_ w wr) ∧ Aside (w.heap.size + 1 ≤ wr.heap.size)) (fun _ x7 _ => 256 - (intOf x7).toNat)
  case atStart => exact ⟨0, Nat.zero_le _, rfl, World.ownsRow_nil _ _ _ _, HF.out, show w.heap.size + 1 ≤ (w.alloc (.cells C.toArray 22)).heap.size by simp⟩
  case round =>
    obtain ⟨i, hi', rfl, how, hfr, hsz⟩ := hrel
    have HO := Lib.hid how.out
    have HFr := Lib.hid hfr.out
    have hwr := hsz.out
    clear how hfr hsz
    obtain ⟨M, hM⟩ : ∃ M, firstsM cls i = M := ⟨_, rfl⟩
    have hml : M.length ≤ 256 := by rw [← hM]; have := firsts_le cls i; omega
    have HM := Lib.hid hM
    rw [hM] at HO
    obtain ⟨ax, cx, rfl, hcx⟩ := ownsRow_slice HO.out
    clear hM
    by_cases hlt : i < 256
    · have hil : (i : Int) < 256 := by omega
      have hi0 : (0 : Int) ≤ (i : Int) := by omega
      obtain ⟨c, hc⟩ : ∃ c, cls.getD i 0 = c := ⟨_, rfl⟩
      have hat := HAt.out i (by omega)
      rw [hc] at hat
      have hrun := fun (w : World) => run_arr C.toArray i (.int .i64 (c : Int)) hlt (by simpa using hat) w
      have HS := Lib.hid (show firstsM cls (i + 1) = if c = M.length then M ++ [i] else M by simp only [firstsM, hc, HM.out])
      clear hc hat
      by_cases he : c = M.length
      · have hsub := HS.out
        rw [if_pos he] at hsub
        have HT := Lib.hid hsub
        have he' : ((c : Int) == (M.length : Int)) = true := by simp [he]
        clear hsub HS he
        go_wp2_with (at_builtin; refine wpList_append_lies _ rfl (.tmp 15) (.tmp 18) 86 rfl (w.heap.size + 1) 5 i0 _ 1 1 Tryz.underlying86 hi hz0 hz1 hz2 rfl (by decide) _ M.length (bytesV M) rfl (HO.out.alloc _) ⟨wr.heap.size, 0, none⟩ 1 1 [.int .u8 (i : Int)] rfl rfl (getElem_block (alloc_new _ _)) ?c1 (by decide) ?c2 ?c3 ?c4 (wr.heap.size + 1) (by simp) ?_)
        case c1 => simp [Value.oneCell']
        case c2 => unfold maxLen; omega
        case c3 => omega
        case c4 => first | omega | (simp; omega)
        intro g2 cap2 w2 hown2 hgrow2 hat2 hlt2
        have FN := Lib.hid ((HFr.out.alloc (.cells #[.int .u8 (i : Int)] 5)).grown hgrow2 (fun k hk => .inr (by have := (HO.out.lt k hk).1; omega)))
        have HN2 := Lib.hid hown2
        have hs2 : w.heap.size + 1 ≤ w2.heap.size := by have := hgrow2.size; simp at this; omega
        have HS2 := Lib.hid hs2
        clear hown2 hgrow2 hat2 hlt2 hs2
        go_wp2_with fail
        go_roundw
        case rel =>
          refine ⟨i + 1, by omega, by go_num, ?_, FN.out, HS2.out⟩
          rw [HT.out, List.length_append]
          have e2 : bytesV (M ++ [i]) = bytesV M ++ [.int .u8 (i : Int)] := by simp [bytesV]
          rw [e2]
          exact HN2.out
        case measure => simp [intOf]; omega
      · have hsub := HS.out
        rw [if_neg he] at hsub
        have HT := Lib.hid hsub
        have he' : ((c : Int) == (M.length : Int)) = false := by rw [beq_eq_false_iff_ne]; omega
        clear hsub HS he
        go_wp2_with fail
        go_roundw
        case rel => exact ⟨i + 1, by omega, by go_num, by rw [HT.out]; exact HO.out, HFr.out, hwr⟩
        case measure => simp [intOf]; omega
    · obtain rfl : i = 256 := by omega
      go_wp2_with fail
      go_ret
      exact ⟨_, rfl, ⟨_, by rw [HM.out]; exact HO.out⟩, HFr.out⟩
end Go.Proofs.YtnenbihmokolpaaGreatDoor

namespace Go.Proofs.YtnenbihmokolpaaGreatDoor set_option linter.unusedVariables false set_option linter.unusedSimpArgs false
open Go.RowKit
open Go.Maps

/-- A map has some keys, each with its number. -/
structure MapIs {α : Type} [DecidableEq α] (kl : α → Lit) (dom : α → Prop) (D : DataW Unit) (ks : List α) : Prop where
  tidy : Tidy D
  has : ∀ k, dom k → Maps.has D (kl k) = decide (k ∈ ks)
  at_ : ∀ k, dom k → k ∈ ks → ∀ z, D.atKey (kl k) z = .lit (.int .i64 (idxM ks k : Int))
  size : Maps.size D = ks.length
theorem MapIs.nil {α : Type} [DecidableEq α] (kl : α → Lit) (dom : α → Prop) : MapIs kl dom (.map []) ([] : List α) :=
  ⟨tidy_empty, fun k _ => rfl, fun k _ h => absurd h (by simp), rfl⟩
theorem MapIs.put {α : Type} [DecidableEq α] {kl : α → Lit} {dom : α → Prop} {D : DataW Unit} {ks : List α} (h : MapIs kl dom D ks) {k : α} (hk : dom k) (hn : k ∉ ks)
    (inj : ∀ a b, dom a → dom b → kl a = kl b → a = b) (hl : WideAt.IsKeyLit (kl k)) : MapIs kl dom (D.put (kl k) (.lit (.int .i64 (ks.length : Int)))) (ks ++ [k]) := by
  have hne : ∀ x, dom x → x ≠ k → kl x ≠ kl k := fun x hx h1 h2 => h1 (inj x k hx hk h2)
  refine ⟨h.tidy.put hl _, fun x hx => ?_, fun x hx hm z => ?_, ?_⟩
  · by_cases e : x = k
    · subst e
      rw [has_put_same h.tidy.isMap hl]; simp
    · rw [has_put_other (hne x hx e), h.has x hx]; simp [e]
  · by_cases e : x = k
    · subst e
      rw [atKey_put_same h.tidy.isMap hl]
      have : idxM (ks ++ [x]) x = ks.length := by simp [idxM, List.idxOf_append, hn, List.idxOf_cons]
      rw [this]
    · have hm2 : x ∈ ks := by simpa [e] using hm
      rw [atKey_put_other (hne x hx e), h.at_ x hx hm2, idxM_more hm2]
  · rw [size_put h.tidy, h.has k hk, h.size]
    simp [hn]

theorem Fr.setRow {S : Nat → Prop} {a w : World} (h : Fr S a w) {g : Nat} (hp : S g ∨ a.heap.size ≤ g) (cs : Array Value) : Fr S a (w.setRow g cs) :=
  ⟨h.os, h.tape, h.output, Nat.le_trans h.size (by simp [World.setRow]), fun k hk hn => (setRow_other w g k cs (fun e => by
    subst e
    rcases hp with hp | hp
    · exact hn hp
    · omega)).trans (h.block k hk hn)⟩
theorem wpList_store_row {P : Program} {ops : Array Oper} {rest : List Oper} {op : Oper} {a : Act} {w : World} {Q : Exit → Act → World → Prop} (hgd : op.guard = none) (ty : TypeId) (x y : Operand) (ho : op.op = .store ty x y)
    (g : Nat) (t : TypeId) (old cells : Array Value) (hx : a.eval x = .pointer (some ⟨g, 0, none⟩)) (hy : a.eval y = .agg cells) (hb : w.heap[g]? = some (.cells old t (0, 0)))
    (hi : (P.info? ty).map (·.size) = some cells.size) (hs : old.size = cells.size) (h1 : cells.all (·.oneCell') = true)
    (h : wpList P ops Q rest (a.put op.dst undef) (w.setRow g cells)) : wpList P ops Q (op :: rest) a w :=
  wpList_plain hgd fun K hK => by
    unfold Oper.wp execOp
    simp only [ho, hx, hy, Instr.storeAt, Instr.sureAddr, Sem.run_bind, Sem.run_pure, Result.andThen_ok, run_storeVar_row w g t ty old cells hb hi hs h1]
    exact hK _ _ h
theorem wpList_load_row {P : Program} {ops : Array Oper} {rest : List Oper} {op : Oper} {a : Act} {w : World} {Q : Exit → Act → World → Prop} (hgd : op.guard = none) (ty : TypeId) (x : Operand) (ho : op.op = .load ty x)
    (g : Nat) (t : TypeId) (cs : List Value) (d : TypeDesc) (hx : a.eval x = .pointer (some ⟨g, 0, none⟩)) (hb : w.heap[g]? = some (.cells cs.toArray t (0, 0))) (hu : P.underlying ty = some d) (hd : d.isRow = true)
    (hi : (P.info? ty).map (·.size) = some cs.length) (h : wpList P ops Q rest (a.put op.dst (.agg cs.toArray)) w) : wpList P ops Q (op :: rest) a w :=
  wpList_load_mid hgd ty x ho g 0 hx cs d (range_of hb) hu hd hi h
theorem results_arr {fn : Func} {tm : Nat} (h : fn.results = #[.cell tm 22]) {tmps : Array Value} {r : Nat} (hp : tmps.getD tm undef = .pointer (some ⟨r, 0, none⟩)) {w : World} {cs : List Value} {t : TypeId}
    (hb : w.heap[r]? = some (.cells cs.toArray t (0, 0))) (hz : cs.length = 256) : (results fn tmps).run Tryz.prog w = .ok (.agg cs.toArray) w := by
  have hl := run_loadVar_mid (P := Tryz.prog) w r 0 22 cs _ (range_of hb) Tryz.underlying22 rfl (by rw [hz]; exact arr_info)
  have hp' : tmps[tm]?.getD undef = .pointer (some ⟨r, 0, none⟩) := by simpa using hp
  simp [results, h, hp', hl, asAddr, Result.andThen, Sem.run_bind, Sem.run_pure]

/-! ### The keys of classes: two numbers. -/
theorem key2_law : Keyed Tryz.prog 64 := Keyed.of_law (deep_law_laid (P := Tryz.prog) (show laidOutB Tryz.prog = true by kernel_rfl) (m := 2) (by omega) (of_decide_eq_true (by kernel_rfl)) (by kernel_rfl) (by rw [Tryz.underlying64]))
def pairV (k : Nat × Bool) : Value := .agg #[.int .i64 (k.1 : Int), .int .i64 (if k.2 then 1 else 0)]
theorem key2_cells : Tryz.prog.cellsOf 64 = 2 := by kernel_rfl
theorem key2_type : Tryz.prog.keyType 64 = true := by kernel_rfl
def pairL (k : Nat × Bool) : Lit := .string (keyBytes [.int .i64 (k.1 : Int), .int .i64 (if k.2 then 1 else 0)])
theorem key2_some (k : Nat × Bool) (h : k.1 ≤ 1000) : Go.keyOf Tryz.prog 64 (pairV k) = some (pairL k) := by
  have hw1 : (Lit.int .i64 (k.1 : Int)).wf = true := WalkArith.wf_i64 (by omega)
  have hw2 : (Lit.int .i64 (if k.2 then 1 else 0)).wf = true := by cases k.2 <;> decide
  obtain ⟨c, hc⟩ : ∃ c : Int, (k.1 : Int) = c := ⟨_, rfl⟩
  obtain ⟨x, hx⟩ : ∃ x : Int, (if k.2 then 1 else 0) = x := ⟨_, rfl⟩
  unfold pairV pairL
  rw [hc] at hw1 ⊢
  rw [hx] at hw2 ⊢
  have hp : 0 < Tryz.prog.types.size := of_decide_eq_true (by kernel_rfl)
  obtain ⟨m, hm⟩ : ∃ m, Tryz.prog.types.size = m + 1 := ⟨Tryz.prog.types.size - 1, by omega⟩
  have hl : Tryz.prog.keyLits (Tryz.prog.types.size + 1) 64 [.int .i64 c, .int .i64 x] = some [.int .i64 c, .int .i64 x] := by
    rw [hm]
    have h1 : ∀ y : Int, (Lit.int .i64 y).wf = true → Tryz.prog.keyLits (m + 1) 3 [.int .i64 y] = some [.int .i64 y] := by
      intro y hy
      simp [Program.keyLits, Tryz.underlying3, hy]
    unfold Program.keyLits
    rw [Tryz.underlying64]
    simp only [key2_cells, int_cells]
    simp [List.range_succ, h1 c hw1, h1 x hw2]
  have hf : (Value.agg #[.int .i64 c, .int .i64 x]).formed Tryz.prog 64 = true := by simp [Value.formed, Tryz.underlying64, key2_cells]
  rw [Go.keyOf, Tryz.underlying64]
  show (if (Tryz.prog.keyType 64 && (Value.agg #[.int .i64 c, .int .i64 x]).formed Tryz.prog 64) = true then (Tryz.prog.keyLits (Tryz.prog.types.size + 1) 64 [.int .i64 c, .int .i64 x]).map (fun ls => Lit.string (keyBytes ls)) else none) = _
  rw [if_pos (by rw [key2_type, hf]; rfl), hl]
  rfl
theorem pairL_key (k : Nat × Bool) (h : k.1 ≤ 1000) : WideAt.IsKeyLit (pairL k) := key2_law.key (key2_some k h)
theorem pairL_inj (a b : Nat × Bool) (ha : a.1 ≤ 1000) (hb : b.1 ≤ 1000) (h : pairL a = pairL b) : a = b := by
  have h1 := key2_some a ha
  have h2 := key2_some b hb
  rw [← h] at h2
  have hv := key2_law.inj h1 h2
  obtain ⟨a1, a2⟩ := a
  obtain ⟨b1, b2⟩ := b
  simp only [pairV, Value.agg.injEq] at hv
  have e := congrArg Array.toList hv
  simp only [List.cons.injEq, Value.int.injEq, and_true, true_and] at e
  obtain ⟨e1, e2⟩ := e
  have : a1 = b1 := by omega
  subst this
  cases a2 <;> cases b2 <;> simp at e2 ⊢
end Go.Proofs.YtnenbihmokolpaaGreatDoor

namespace Go.Proofs.YtnenbihmokolpaaGreatDoor set_option linter.unusedVariables false set_option linter.unusedSimpArgs false
open Go.RowKit
open Go.Maps

def arrV (cls : List Nat) : List Value := intsV (ints cls)
theorem arrV_len {cls : List Nat} (h : Normal cls) : (arrV cls).length = 256 := by rw [arrV, intsV_length, ints_length, h.1]
theorem arrV_size {cls : List Nat} (h : Normal cls) : (arrV cls).toArray.size = 256 := by simpa using arrV_len h
theorem arrV_one (cls : List Nat) : (arrV cls).toArray.all (·.oneCell') = true := all_oneCell_toArray (fun v hv => by
  simp only [arrV, intsV, List.mem_map] at hv
  obtain ⟨n, _, rfl⟩ := hv
  rfl)
theorem zero_size : (Tryz.zeroCells22).size = 256 := by kernel_rfl
theorem splitsM_snoc : ∀ (l : List Rx) (cls : List Nat) (r : Rx), splitsM cls (l ++ [r]) = splitM (splitsM cls l) r
  | [], cls, r => by simp [splitsM]
  | x :: l, cls, r => by simp only [List.cons_append, splitsM]; exact splitsM_snoc l _ r
/-- What split of a regex answers. -/
def SplitC (r : Rx) : Prop := ∀ (cls : List Nat), Normal cls → ∀ (v : Value) (ok : Nat → Prop) (w : World), RxV ok w v r →
  Calls Tryz.prog 92 #[.agg (arrV cls).toArray, v] w fun e w' => e = .returned (.agg (arrV (splitM cls r)).toArray) ∧ Fr none_ w w'

set_option maxRecDepth 100000 in
set_option maxHeartbeats 1000000 in
theorem split_kids (k : Int) (hk : k ≠ 1) (b0 b1 b2 b3 : Nat) (kids : List Rx) (hsub : ∀ r ∈ kids, SplitC r) (hkl : kids.length ≤ 1000000) : SplitC (.mk k b0 b1 b2 b3 kids) := by
  intro cls hn v ok w hv
  obtain ⟨a, cap, rfl, hc, hl⟩ := hv.open_
  have HL := Lib.hid hl
  have HS := Lib.hid hsub
  have HN := Lib.hid hn
  have HE := Lib.hid (show splitM cls (.mk k b0 b1 b2 b3 kids) = splitsM cls kids by rw [splitM, if_neg hk])
  have hk' : (k != 1) = true := by simpa using hk
  clear hk hv hl hsub hn
  obtain ⟨C, hC⟩ : ∃ C, arrV cls = C := ⟨_, rfl⟩
  have HC := Lib.hid hC
  rw [hC]
  clear hC
  have HF0 := Lib.hid ((((Fr.refl none_ w).alloc (.cells C.toArray 22)).alloc (.cells #[.int .i64 k, .int .u64 b0, .int .u64 b1, .int .u64 b2, .int .u64 b3, .slice a kids.length cap] 53)).alloc (.cells Tryz.zeroCells22 22))
  have HB0 := Lib.hid ((((Fr.refl none_ (w.alloc (.cells C.toArray 22))).alloc (.cells #[.int .i64 k, .int .u64 b0, .int .u64 b1, .int .u64 b2, .int .u64 b3, .slice a kids.length cap] 53)).alloc (.cells Tryz.zeroCells22 22)).at_ (alloc_new w (.cells C.toArray 22)) (fun h => h))
  have hb2 := alloc_new ((w.alloc (.cells C.toArray 22)).alloc (.cells #[.int .i64 k, .int .u64 b0, .int .u64 b1, .int .u64 b2, .int .u64 b3, .slice a kids.length cap] 53)) (.cells Tryz.zeroCells22 22)
  have e2 : ((w.alloc (.cells C.toArray 22)).alloc (.cells #[.int .i64 k, .int .u64 b0, .int .u64 b1, .int .u64 b2, .int .u64 b3, .slice a kids.length cap] 53)).heap.size = w.heap.size + 1 + 1 := by simp
  rw [e2] at hb2
  have HB2 := Lib.hid hb2
  clear hb2 e2
  go_enter Tryz.func92, Tryz.ntmps92
  go_wp2_with fail
  clear hk'
  go_loopw [19] (fun x19 wr => ∃ i : Nat, i ≤ kids.length ∧ x19 = .int .i64 i ∧ Aside (wr.heap[w.heap.size]? = some (.cells (arrV (splitsM cls (kids.take i))).toArray 22 (0, 0))) ∧ Aside (wr.heap[w.heap.size + 1 + 1]? = some (.cells Tryz.zeroCells22 22 (0, 0))) ∧ Aside (Fr none_ w wr)) (fun x19 _ => kids.length - (intOf x19).toNat)
  case atStart => exact ⟨0, Nat.zero_le _, rfl, (by have h0 := HB0.out; rw [← HC.out]; rw [← HC.out] at h0; exact h0), HB2.out, HF0.out⟩
  case round =>
    obtain ⟨i, hi', rfl, hb0, hb2, hfr⟩ := hrel
    have H0 := Lib.hid hb0.out
    have H2 := Lib.hid hb2.out
    have HFr := Lib.hid hfr.out
    clear hb0 hb2 hfr
    obtain ⟨cl, hcl⟩ : ∃ x, splitsM cls (kids.take i) = x := ⟨_, rfl⟩
    have hnc : Normal cl := by rw [← hcl]; exact normal_splitsM _ _ HN.out
    have hz := arrV_len hnc
    have hsz := arrV_size hnc
    have HNC := Lib.hid hnc
    have HCL := Lib.hid hcl
    rw [hcl] at H0
    clear hcl hnc
    by_cases hlt : i < kids.length
    · have hlt' : (i : Int) < (kids.length : Int) := by omega
      obtain ⟨⟨k', x0, x1, x2, x3, kids'⟩, hki⟩ : ∃ r, kids[i]? = some r := ⟨kids[i]'hlt, List.getElem?_eq_getElem hlt⟩
      have hmv : RxL ok wr a 0 kids := RxL.move (fun k _ hlt => HFr.out.block k hlt (fun h => h)) kids a 0 HL.out
      obtain ⟨ad, a', cap', rfl, hok, c0, c1, c2, c3, c4, c5, hc', hl'⟩ := hmv.elem hki
      have HL' := Lib.hid hl'
      have HKC := Lib.hid (HS.out _ (List.mem_of_getElem? hki))
      have FK := Lib.hid (Fr.alloc (Fr.refl none_ wr) (.cells #[.int .i64 k', .int .u64 x0, .int .u64 x1, .int .u64 x2, .int .u64 x3, .slice a' kids'.length cap'] 53))
      have htake : kids.take (i + 1) = kids.take i ++ [.mk k' x0 x1 x2 x3 kids'] := by rw [List.take_add_one, hki]; rfl
      obtain ⟨z0, z1, z2, z3, z4, z5⟩ := six (alloc_new wr (.cells #[.int .i64 k', .int .u64 x0, .int .u64 x1, .int .u64 x2, .int .u64 x3, .slice a' kids'.length cap'] 53))
      have HTK := Lib.hid htake
      have HK0 := FK.out.at_ H0.out (fun h => h)
      clear hki hmv hl' htake
      go_wp2_with (refine wpList_load_row rfl 22 _ rfl w.heap.size 22 (arrV cl) _ rfl HK0 Tryz.underlying22 rfl (by rw [hz]; exact arr_info) ?_)
      refine (HKC.out cl HNC.out _ ok _ (RxV.mk_ hc' (RxL.move (fun k _ hlt => FK.out.block k hlt (fun h => h)) _ _ _ HL'.out))).mono ?_
      rintro e w2 ⟨rfl, h4⟩
      have K0 := h4.at_ HK0 (fun h => h)
      have K2 := Lib.hid ((FK.out.tr h4).at_ H2.out (fun h => h))
      have K4 := Lib.hid ((HFr.out.tr FK.out).tr h4)
      have hn2 : Normal (splitM cl (.mk k' x0 x1 x2 x3 kids')) := normal_splitM _ _ HNC.out
      have HE2 := Lib.hid (show splitsM cls (kids.take (i + 1)) = splitM cl (.mk k' x0 x1 x2 x3 kids') by rw [HTK.out, splitsM_snoc, HCL.out])
      obtain ⟨cl2, hcl2⟩ : ∃ x, splitM cl (.mk k' x0 x1 x2 x3 kids') = x := ⟨_, rfl⟩
      rw [hcl2] at hn2 HE2 ⊢
      have hsz2 := arrV_size hn2
      have hone := arrV_one cl2
      clear h4 z0 z1 z2 z3 z4 z5 c0 c1 c2 c3 c4 c5 HK0 hcl2
      go_wp2_with (refine wpList_store_row rfl 22 _ _ rfl w.heap.size 22 (arrV cl).toArray (arrV cl2).toArray rfl rfl K0 (by rw [hsz2]; exact arr_info) (by rw [hsz, hsz2]) hone ?_)
      go_roundw
      case rel => exact ⟨i + 1, by omega, by go_num, (by rw [HE2.out]; exact setRow_heap _ _ _ _ _ _ K0), (by exact (setRow_other _ _ _ _ (by omega)).trans K2.out), Fr.setRow K4.out (.inr (Nat.le_refl _)) _⟩
      case measure => simp [intOf]; omega
    · obtain rfl : i = kids.length := by omega
      have HE3 := Lib.hid (show splitM cls (.mk k b0 b1 b2 b3 kids) = cl by rw [HE.out, ← HCL.out, List.take_length])
      have hk0 := H0.out
      have hk2 := H2.out
      have hone := arrV_one cl
      go_wp2_with (first
        | (refine wpList_load_row rfl 22 _ rfl w.heap.size 22 (arrV cl) _ rfl hk0 Tryz.underlying22 rfl (by rw [hz]; exact arr_info) ?_)
        | (refine wpList_store_row rfl 22 _ _ rfl (w.heap.size + 1 + 1) 22 Tryz.zeroCells22 (arrV cl).toArray rfl rfl hk2 (by rw [hsz]; exact arr_info) (by rw [zero_size, hsz]) hone ?_))
      refine bodyPost_ret (results_arr rfl rfl (setRow_heap _ _ _ _ _ _ hk2) hz) rfl ?_
      exact ⟨by rw [HE3.out], Fr.setRow HFr.out (.inr (by omega)) _⟩
end Go.Proofs.YtnenbihmokolpaaGreatDoor

namespace Go.Proofs.YtnenbihmokolpaaGreatDoor set_option linter.unusedVariables false set_option linter.unusedSimpArgs false
open Go.RowKit
open Go.Maps

theorem ownsMap_at {w w' : World} {k : TypeId} {Rd : Value → Option (DataW Unit × List MemPlace)} {b n : Nat} {D : DataW Unit} (h : w.ownsMap Tryz.prog k Rd b n D) (he : w'.heap[b]? = w.heap[b]?) : w'.ownsMap Tryz.prog k Rd b n D := by
  obtain ⟨es, clock, hb, F, hs, hD⟩ := h
  exact ⟨es, clock, he.trans hb, F, hs, hD⟩
theorem zeroI (w : World) : (zeroValue 3).run Tryz.prog w = .ok (.int .i64 0) w := by kernel_rfl
/-- Numbers so far, and classes as they were. -/
def mixM (cls : List Nat) (f : Nat → Nat × Bool) (i : Nat) : List Nat := (numsM f i).2 ++ cls.drop i
theorem mix_zero (cls : List Nat) (f : Nat → Nat × Bool) : mixM cls f 0 = cls := by simp [mixM, numsM]
theorem mix_end (cls : List Nat) (f : Nat → Nat × Bool) (h : cls.length = 256) : mixM cls f 256 = (numsM f 256).2 := by
  rw [mixM, List.drop_eq_nil_of_le (by omega), List.append_nil]
theorem mix_length (cls : List Nat) (f : Nat → Nat × Bool) (h : cls.length = 256) (i : Nat) (hi : i ≤ 256) : (mixM cls f i).length = 256 := by
  rw [mixM, List.length_append, numsM_length, List.length_drop, h]; omega
theorem mix_set (cls : List Nat) (f : Nat → Nat × Bool) (h : cls.length = 256) (i : Nat) (hi : i < 256) : (arrV (mixM cls f i)).toArray.setIfInBounds i (.int .i64 ((keyM (numsM f i).1 (f i)).2 : Nat)) = (arrV (mixM cls f (i + 1))).toArray := by
  have hd : cls.drop i = cls[i]'(by omega) :: cls.drop (i + 1) := List.drop_eq_getElem_cons (by omega)
  have hl : (arrV (numsM f i).2).length = i := by rw [arrV, intsV_length, ints_length, numsM_length]
  have e1 : arrV (mixM cls f i) = arrV (numsM f i).2 ++ (.int .i64 ((cls[i]'(by omega) : Nat) : Int)) :: arrV (cls.drop (i + 1)) := by
    rw [mixM, hd]; simp only [arrV, intsV, ints, List.map_append, List.map_cons]
  have e2 : arrV (mixM cls f (i + 1)) = arrV (numsM f i).2 ++ (.int .i64 (((keyM (numsM f i).1 (f i)).2 : Nat) : Int)) :: arrV (cls.drop (i + 1)) := by
    rw [mixM]; simp only [arrV, intsV, ints, numsM, List.map_append, List.map_cons, List.map_nil, List.append_assoc, List.cons_append, List.nil_append]
  rw [e1, e2]
  simp only [List.setIfInBounds_toArray]
  congr 1
  rw [List.set_append_right _ _ (by omega), hl, Nat.sub_self]
  rfl
theorem keys_le (f : Nat → Nat × Bool) : ∀ n, (numsM f n).1.length ≤ n
  | 0 => Nat.le_refl _
  | n + 1 => by
    have := keys_le f n
    simp only [numsM, keyM]
    split
    · show (numsM f n).1.length ≤ n + 1; omega
    · simp; omega

set_option maxRecDepth 100000 in
set_option maxHeartbeats 2000000 in
theorem split_bytes (b0 b1 b2 b3 : Nat) (kids : List Rx) : SplitC (.mk 1 b0 b1 b2 b3 kids) := by
  intro cls hn v ok w hv
  obtain ⟨a, cap, rfl, hc, hl⟩ := hv.open_
  have HL := Lib.hid hl
  have HN := Lib.hid hn
  have HE := Lib.hid (show splitM cls (.mk 1 b0 b1 b2 b3 kids) = (numsM (pairOf cls (.mk 1 b0 b1 b2 b3 kids)) 256).2 by rw [splitM, if_pos rfl]; rfl)
  obtain ⟨f, hf⟩ : ∃ f, pairOf cls (.mk 1 b0 b1 b2 b3 kids) = f := ⟨_, rfl⟩
  have HFd := Lib.hid (show ∀ i, f i = (cls.getD i 0, (Rx.mk 1 b0 b1 b2 b3 kids).has i) by intro i; rw [← hf]; rfl)
  rw [hf] at HE
  have HAt := Lib.hid (fun i (hi : i < 256) => arr_at (cls := cls) (b := i) (by rw [hn.1]; exact hi))
  have HLe := Lib.hid (show ∀ i, i < 256 → cls.getD i 0 ≤ 1000 by intro i hi; have := hn.2 i hi; have := firsts_le cls i; omega)
  have hz0 := arrV_len hn
  clear hv hl hn hf
  obtain ⟨C, hC⟩ : ∃ C, arrV cls = C := ⟨_, rfl⟩
  have HC := Lib.hid hC
  rw [hC] at hz0 ⊢
  have HAt2 := Lib.hid (show ∀ i, i < 256 → C[i]? = some (.int .i64 ((cls.getD i 0 : Nat) : Int)) by rw [← hC]; exact HAt.out)
  clear hC HAt
  obtain ⟨W, hW⟩ : ∃ W, ((w.alloc (.cells C.toArray 22)).alloc (.cells #[.int .i64 1, .int .u64 b0, .int .u64 b1, .int .u64 b2, .int .u64 b3, .slice a kids.length cap] 53)).alloc (.cells Tryz.zeroCells22 22) = W := ⟨_, rfl⟩
  have hsz : W.heap.size = w.heap.size + 1 + 1 + 1 := by rw [← hW]; simp
  have HF0 := Lib.hid (show Fr none_ w (W.alloc (.map #[] 0)) by rw [← hW]; exact ((((Fr.refl none_ w).alloc (.cells C.toArray 22)).alloc (.cells #[.int .i64 1, .int .u64 b0, .int .u64 b1, .int .u64 b2, .int .u64 b3, .slice a kids.length cap] 53)).alloc (.cells Tryz.zeroCells22 22)).alloc _)
  have HB0 := Lib.hid (show (W.alloc (.map #[] 0)).heap[w.heap.size]? = some (.cells C.toArray 22 (0, 0)) by
    rw [← hW]
    exact ((((Fr.refl none_ (w.alloc (.cells C.toArray 22))).alloc (.cells #[.int .i64 1, .int .u64 b0, .int .u64 b1, .int .u64 b2, .int .u64 b3, .slice a kids.length cap] 53)).alloc (.cells Tryz.zeroCells22 22)).alloc _).at_ (alloc_new w _) (fun h => h))
  have HB1 := Lib.hid (show (W.alloc (.map #[] 0)).heap[w.heap.size + 1]? = some (.cells #[.int .i64 1, .int .u64 b0, .int .u64 b1, .int .u64 b2, .int .u64 b3, .slice a kids.length cap] 53 (0, 0)) by
    have h := alloc_new (w.alloc (.cells C.toArray 22)) (.cells #[.int .i64 1, .int .u64 b0, .int .u64 b1, .int .u64 b2, .int .u64 b3, .slice a kids.length cap] 53)
    rw [show (w.alloc (.cells C.toArray 22)).heap.size = w.heap.size + 1 by simp] at h
    rw [← hW]
    exact (((Fr.refl none_ ((w.alloc (.cells C.toArray 22)).alloc (.cells #[.int .i64 1, .int .u64 b0, .int .u64 b1, .int .u64 b2, .int .u64 b3, .slice a kids.length cap] 53))).alloc (.cells Tryz.zeroCells22 22)).alloc _).at_ h (fun h => h))
  have HB2 := Lib.hid (show (W.alloc (.map #[] 0)).heap[w.heap.size + 1 + 1]? = some (.cells Tryz.zeroCells22 22 (0, 0)) by
    have h := alloc_new ((w.alloc (.cells C.toArray 22)).alloc (.cells #[.int .i64 1, .int .u64 b0, .int .u64 b1, .int .u64 b2, .int .u64 b3, .slice a kids.length cap] 53)) (.cells Tryz.zeroCells22 22)
    rw [show ((w.alloc (.cells C.toArray 22)).alloc (.cells #[.int .i64 1, .int .u64 b0, .int .u64 b1, .int .u64 b2, .int .u64 b3, .slice a kids.length cap] 53)).heap.size = w.heap.size + 1 + 1 by simp] at h
    rw [← hW]
    exact ((Fr.refl none_ (((w.alloc (.cells C.toArray 22)).alloc (.cells #[.int .i64 1, .int .u64 b0, .int .u64 b1, .int .u64 b2, .int .u64 b3, .slice a kids.length cap] 53)).alloc (.cells Tryz.zeroCells22 22))).alloc _).at_ h (fun h => h))
  have HB3 := Lib.hid (show (W.alloc (.map #[] 0)).ownsMap Tryz.prog 64 (plainElem (H := Unit) Tryz.prog 3) (w.heap.size + 1 + 1 + 1) 0 (.map []) by
    have h := World.ownsMap_made W Tryz.prog 64 (plainElem (H := Unit) Tryz.prog 3)
    rw [hsz] at h
    exact h)
  have HSW := Lib.hid hsz
  have hmm := @run_makeMap Tryz.prog
  have HW := Lib.hid hW
  clear hsz hW
  go_enter Tryz.func92, Tryz.ntmps92
  go_wp2_with (refine wpList_load_row rfl 22 _ rfl w.heap.size 22 C _ rfl (by have h := HB0.out; rw [← HW.out] at h; exact h) Tryz.underlying22 rfl (by rw [hz0]; exact arr_info) ?_)
  go_loopw [30] (fun x30 wr => ∃ i : Nat, i ≤ 256 ∧ x30 = .int .i64 i ∧ Aside (wr.heap[w.heap.size]? = some (.cells (arrV (mixM cls f i)).toArray 22 (0, 0))) ∧ Aside (wr.heap[w.heap.size + 1]? = some (.cells #[.int .i64 1, .int .u64 b0, .int .u64 b1, .int .u64 b2, .int .u64 b3, .slice a kids.length cap] 53 (0, 0))) ∧ Aside (wr.heap[w.heap.size + 1 + 1]? = some (.cells Tryz.zeroCells22 22 (0, 0))) ∧ Aside (∃ D, wr.ownsMap Tryz.prog 64 (plainElem (H := Unit) Tryz.prog 3) (w.heap.size + 1 + 1 + 1) i D ∧ MapIs pairL (fun k => k.1 ≤ 1000) D (numsM f i).1) ∧ Aside (Fr none_ w wr)) (fun x30 _ => 256 - (intOf x30).toNat)
  case atStart =>
    rw [HW.out]
    exact ⟨0, Nat.zero_le _, rfl, (by have h0 := HB0.out; rw [mix_zero, HC.out]; exact h0), HB1.out, HB2.out, ⟨_, HB3.out, MapIs.nil _ _⟩, HF0.out⟩
  case round =>
    obtain ⟨i, hi', rfl, hb0, hb1, hb2, hmap, hfr⟩ := hrel
    have H0 := Lib.hid hb0.out
    have H1 := Lib.hid hb1.out
    have H2 := Lib.hid hb2.out
    have HFr := Lib.hid hfr.out
    obtain ⟨D, hown, hmi⟩ := hmap.out
    have HO := Lib.hid hown
    have HM := Lib.hid hmi
    clear hb0 hb1 hb2 hmap hfr hown hmi HW HB0 HB1 HB2 HB3 HF0 HSW
    by_cases hlt : i < 256
    · have hil : (i : Int) < 256 := by omega
      have hi0 : (0 : Int) ≤ (i : Int) := by omega
      obtain ⟨c, hcd⟩ : ∃ c, cls.getD i 0 = c := ⟨_, rfl⟩
      obtain ⟨h, hhd⟩ : ∃ h, (Rx.mk 1 b0 b1 b2 b3 kids).has i = h := ⟨_, rfl⟩
      have hfi : f i = (c, h) := by rw [HFd.out, hcd, hhd]
      have hcle : c ≤ 1000 := by rw [← hcd]; exact HLe.out i hlt
      have hat := HAt2.out i hlt
      rw [hcd] at hat
      have hrun := fun (w : World) => run_arr C.toArray i (.int .i64 (c : Int)) hlt (by simpa using hat) w
      have HFI := Lib.hid hfi
      have HHD := Lib.hid hhd
      obtain ⟨z0, z1, z2, z3, z4, z5⟩ := six (Fr.at_ (Fr.alloc (Fr.refl none_ wr) (.cells #[.int .i64 (c : Int), .int .i64 0] 64)) H1.out (fun h => h))
      have FN := Lib.hid (Fr.alloc (Fr.refl none_ wr) (.cells #[.int .i64 (c : Int), .int .i64 0] 64))
      have BN := Lib.hid (alloc_new wr (.cells #[.int .i64 (c : Int), .int .i64 0] 64))
      clear hcd hhd hfi hat
      go_wp2_with fail
      refine (rhas_any (.mk 1 b0 b1 b2 b3 kids) i _ ok _ (RxV.mk_ hc (RxL.move (fun k _ hlt => (HFr.out.tr FN.out).block k hlt (fun h => h)) _ _ _ HL.out)) hlt).mono ?_
      rintro e w1 ⟨rfl, F1⟩
      rw [HHD.out]
      have y0 : w1.cell? ⟨wr.heap.size, 0, none⟩ = some (.int .i64 (c : Int)) := cell_of_block (F1.at_ BN.out (fun h => h)) rfl
      have y1 : w1.cell? ⟨wr.heap.size, 1, none⟩ = some (.int .i64 0) := cell_of_block (F1.at_ BN.out (fun h => h)) rfl
      have y2 : w1.frozen? ⟨wr.heap.size, 1, none⟩ = false := free_of_block (F1.at_ BN.out (fun h => h))
      have K0 := Lib.hid ((FN.out.tr F1).at_ H0.out (fun h => h))
      have K1 := Lib.hid ((FN.out.tr F1).at_ H1.out (fun h => h))
      have K2 := Lib.hid ((FN.out.tr F1).at_ H2.out (fun h => h))
      have KO := Lib.hid (ownsMap_at HO.out ((FN.out.tr F1).block _ HO.out.lt (fun h => h)))
      have KF := Lib.hid ((HFr.out.tr FN.out).tr F1)
      have H0lt := Lib.hid (show w.heap.size + 1 + 1 + 1 < wr.heap.size from HO.out.lt)
      obtain ⟨ox, hox⟩ : ∃ x, (arrV (mixM cls f i)).toArray[i]? = some x := by
        have : i < (arrV (mixM cls f i)).toArray.size := by
          have : (arrV (mixM cls f i)).length = 256 := by rw [arrV, intsV_length, ints_length, mix_length cls f HN.out.1 i hi']
          simpa [this] using hlt
        exact ⟨_, Array.getElem?_eq_getElem this⟩
      have HOX := Lib.hid hox
      obtain ⟨ks, hks⟩ : ∃ ks, (numsM f i).1 = ks := ⟨_, rfl⟩
      have hkle : ks.length ≤ 256 := by rw [← hks]; have := keys_le f i; omega
      have HKS := Lib.hid hks
      rw [hks] at HM
      clear F1 hox hks z0 z1 z2 z3 z4 z5 BN FN
      cases h
      ·
        have HK := Lib.hid (show Go.keyOf Tryz.prog 64 (.agg #[.int .i64 (c : Int), .int .i64 0]) = some (pairL (c, false)) by have := key2_some (c, false) hcle; simpa [pairV] using this)
        have HHas := Lib.hid (HM.out.has (c, false) hcle)
        have HAtK := Lib.hid (HM.out.at_ (c, false) hcle)
        have HPut := Lib.hid (fun hn => HM.out.put (k := (c, false)) hcle hn (fun a b ha hb => pairL_inj a b ha hb) (pairL_key _ hcle))
        obtain ⟨kl, hkl⟩ : ∃ l, pairL (c, false) = l := ⟨_, rfl⟩
        rw [hkl] at HK HHas HAtK HPut
        clear hkl
        have Q0 := Lib.hid (show w1.heap[w.heap.size]? = some (.cells (arrV (mixM cls f i)).toArray 22 (0, 0)) from K0.out)
        have Q1 := Lib.hid (show w1.heap[w.heap.size + 1]? = some (.cells #[.int .i64 1, .int .u64 b0, .int .u64 b1, .int .u64 b2, .int .u64 b3, .slice a kids.length cap] 53 (0, 0)) from K1.out)
        have Q2 := Lib.hid (show w1.heap[w.heap.size + 1 + 1]? = some (.cells Tryz.zeroCells22 22 (0, 0)) from K2.out)
        have QO := Lib.hid (show w1.ownsMap Tryz.prog 64 (plainElem (H := Unit) Tryz.prog 3) (w.heap.size + 1 + 1 + 1) i D from KO.out)
        have QF := Lib.hid (show Fr none_ w w1 from KF.out)
        have fc0 : w1.cell? ⟨w.heap.size, i, none⟩ = some ox := by rw [Lib.cell_of_heap Q0.out]; exact HOX.out
        have ff0 : w1.frozen? ⟨w.heap.size, i, none⟩ = false := free_of_block Q0.out
        by_cases hm : (c, false) ∈ ks
        · have hhas : Maps.has D kl = true := by rw [HHas.out]; simp [hm]
          have HKM := Lib.hid (show keyM ks (c, false) = (ks, idxM ks (c, false)) by rw [keyM, if_pos hm]; rfl)
          go_wp2_with (at_lookup; refine wpList_lookup_own_ok_int _ rfl (.tmp 42) (.tmp 43) 164 rfl 64 3 .i64 key2_law Tryz.underlying164 Tryz.underlying3 (zeroI _) (w.heap.size + 1 + 1 + 1) i D rfl QO.out (.agg #[.int .i64 (c : Int), .int .i64 0]) kl rfl HK.out ?_; intro v hat hwc; (have hv2 : v = (idxM ks (c, false) : Int) := (by rw [HAtK.out hm] at hat; simpa using hat.symm)); clear hat hwc; subst hv2)
          go_roundw
          case rel =>
            refine ⟨i + 1, by omega, by go_num, ?_, ?_, ?_, ⟨D, ?_, ?_⟩, ?_⟩
            · have h1 := heap_setCell _ Q0.out i (.int .i64 (idxM ks (c, false) : Int))
              have h2 := mix_set cls f HN.out.1 i hlt
              rw [HKS.out, HFI.out, HKM.out] at h2
              rw [h2] at h1
              exact h1
            · exact (Below.heap_setCell _ ⟨w.heap.size, i, none⟩ _ _ (by simp only []; omega)).trans Q1.out
            · exact (Below.heap_setCell _ ⟨w.heap.size, i, none⟩ _ _ (by simp only []; omega)).trans Q2.out
            · exact World.ownsMap.mono (ownsMap_at QO.out (Below.heap_setCell _ ⟨w.heap.size, i, none⟩ _ _ (by simp only []; omega))) (by omega)
            · show MapIs pairL _ D (keyM (numsM f i).1 (f i)).1
              rw [HKS.out, HFI.out, HKM.out]
              exact HM.out
            · exact Fr.setCell QF.out (p := ⟨w.heap.size, i, none⟩) (.inr (Nat.le_refl _)) _
          case measure => simp [intOf]; omega
        · have hhas : Maps.has D kl = false := by rw [HHas.out]; simp [hm]
          have HKM := Lib.hid (show keyM ks (c, false) = (ks ++ [(c, false)], ks.length) by rw [keyM, if_neg hm])
          have hsz : Maps.size D = ks.length := HM.out.size
          go_wp2_with (first
            | (at_lookup; refine wpList_lookup_own_ok_int _ rfl (.tmp 42) (.tmp 43) 164 rfl 64 3 .i64 key2_law Tryz.underlying164 Tryz.underlying3 (zeroI _) (w.heap.size + 1 + 1 + 1) i D rfl QO.out (.agg #[.int .i64 (c : Int), .int .i64 0]) kl rfl HK.out ?_; intro v hat hwc; clear hat hwc)
            | (at_len; refine wpList_len_own _ rfl (.tmp 49) 164 rfl 64 3 Tryz.underlying164 _ (w.heap.size + 1 + 1 + 1) i D rfl QO.out ?_)
            | (at_mapUpdate; refine wpList_mapUpdate_own _ rfl (.tmp 51) (.tmp 52) (.tmp 53) 164 rfl 64 3 key2_law Tryz.underlying164 _ (w.heap.size + 1 + 1 + 1) i D rfl QO.out (by unfold maxLen; omega) (.agg #[.int .i64 (c : Int), .int .i64 0]) (.int .i64 (ks.length : Int)) kl rfl rfl HK.out (.lit (.int .i64 (ks.length : Int))) [] (plainElem_int Tryz.underlying3 (WalkArith.wf_i64 (by omega))) ?_; intro w3 hown3 hgrow3; (have R0 := Lib.hid ((hgrow3.block w.heap.size (lt_of_block Q0.out) (by intro e; injection e with e; omega)).trans Q0.out)); (have R1 := Lib.hid ((hgrow3.block (w.heap.size + 1) (lt_of_block Q1.out) (by intro e; injection e with e; omega)).trans Q1.out)); (have R2 := Lib.hid ((hgrow3.block (w.heap.size + 1 + 1) (lt_of_block Q2.out) (by intro e; injection e with e; omega)).trans Q2.out)); (have RO := Lib.hid hown3); (have RF := Lib.hid (QF.out.grown hgrow3 (fun k hk => .inr (by injection hk with hk; omega)))); (have fc3 : w3.cell? ⟨w.heap.size, i, none⟩ = some ox := (by rw [Lib.cell_of_heap R0.out]; exact HOX.out)); (have ff3 : w3.frozen? ⟨w.heap.size, i, none⟩ = false := free_of_block R0.out); clear hown3 hgrow3))
          go_roundw
          case rel =>
            refine ⟨i + 1, by omega, by go_num, ?_, ?_, ?_, ⟨D.put kl (.lit (.int .i64 (ks.length : Int))), ?_, ?_⟩, ?_⟩
            · have h1 := heap_setCell _ R0.out i (.int .i64 (ks.length : Int))
              have h2 := mix_set cls f HN.out.1 i hlt
              rw [HKS.out, HFI.out, HKM.out] at h2
              rw [h2] at h1
              exact h1
            · exact (Below.heap_setCell _ ⟨w.heap.size, i, none⟩ _ _ (by simp only []; omega)).trans R1.out
            · exact (Below.heap_setCell _ ⟨w.heap.size, i, none⟩ _ _ (by simp only []; omega)).trans R2.out
            · exact ownsMap_at RO.out (Below.heap_setCell _ ⟨w.heap.size, i, none⟩ _ _ (by simp only []; omega))
            · show MapIs pairL _ _ (keyM (numsM f i).1 (f i)).1
              rw [HKS.out, HFI.out, HKM.out]
              exact HPut.out hm
            · exact Fr.setCell RF.out (p := ⟨w.heap.size, i, none⟩) (.inr (Nat.le_refl _)) _
          case measure => simp [intOf]; omega
      ·
        have HK := Lib.hid (show Go.keyOf Tryz.prog 64 (.agg #[.int .i64 (c : Int), .int .i64 1]) = some (pairL (c, true)) by have := key2_some (c, true) hcle; simpa [pairV] using this)
        have HHas := Lib.hid (HM.out.has (c, true) hcle)
        have HAtK := Lib.hid (HM.out.at_ (c, true) hcle)
        have HPut := Lib.hid (fun hn => HM.out.put (k := (c, true)) hcle hn (fun a b ha hb => pairL_inj a b ha hb) (pairL_key _ hcle))
        obtain ⟨kl, hkl⟩ : ∃ l, pairL (c, true) = l := ⟨_, rfl⟩
        rw [hkl] at HK HHas HAtK HPut
        clear hkl
        have Q0 := Lib.hid (show (w1.setCell ⟨wr.heap.size, 1, none⟩ (.int .i64 1)).heap[w.heap.size]? = some (.cells (arrV (mixM cls f i)).toArray 22 (0, 0)) from (Below.heap_setCell w1 ⟨wr.heap.size, 1, none⟩ (.int .i64 1) _ (by have := lt_of_block K0.out; have := H0lt.out; simp only []; omega)).trans K0.out)
        have Q1 := Lib.hid (show (w1.setCell ⟨wr.heap.size, 1, none⟩ (.int .i64 1)).heap[w.heap.size + 1]? = some (.cells #[.int .i64 1, .int .u64 b0, .int .u64 b1, .int .u64 b2, .int .u64 b3, .slice a kids.length cap] 53 (0, 0)) from (Below.heap_setCell w1 ⟨wr.heap.size, 1, none⟩ (.int .i64 1) _ (by have := lt_of_block K1.out; have := H0lt.out; simp only []; omega)).trans K1.out)
        have Q2 := Lib.hid (show (w1.setCell ⟨wr.heap.size, 1, none⟩ (.int .i64 1)).heap[w.heap.size + 1 + 1]? = some (.cells Tryz.zeroCells22 22 (0, 0)) from (Below.heap_setCell w1 ⟨wr.heap.size, 1, none⟩ (.int .i64 1) _ (by have := lt_of_block K2.out; have := H0lt.out; simp only []; omega)).trans K2.out)
        have QO := Lib.hid (show (w1.setCell ⟨wr.heap.size, 1, none⟩ (.int .i64 1)).ownsMap Tryz.prog 64 (plainElem (H := Unit) Tryz.prog 3) (w.heap.size + 1 + 1 + 1) i D from ownsMap_at KO.out (Below.heap_setCell w1 ⟨wr.heap.size, 1, none⟩ (.int .i64 1) _ (by have := KO.out.lt; have := H0lt.out; simp only []; omega)))
        have QF := Lib.hid (show Fr none_ w (w1.setCell ⟨wr.heap.size, 1, none⟩ (.int .i64 1)) from Fr.setCell KF.out (p := ⟨wr.heap.size, 1, none⟩) (.inr (by have := H0lt.out; simp only []; omega)) _)
        have fc0 : (w1.setCell ⟨wr.heap.size, 1, none⟩ (.int .i64 1)).cell? ⟨w.heap.size, i, none⟩ = some ox := by rw [Lib.cell_of_heap Q0.out]; exact HOX.out
        have ff0 : (w1.setCell ⟨wr.heap.size, 1, none⟩ (.int .i64 1)).frozen? ⟨w.heap.size, i, none⟩ = false := free_of_block Q0.out
        by_cases hm : (c, true) ∈ ks
        · have hhas : Maps.has D kl = true := by rw [HHas.out]; simp [hm]
          have HKM := Lib.hid (show keyM ks (c, true) = (ks, idxM ks (c, true)) by rw [keyM, if_pos hm]; rfl)
          go_wp2_with (at_lookup; refine wpList_lookup_own_ok_int _ rfl (.tmp 42) (.tmp 43) 164 rfl 64 3 .i64 key2_law Tryz.underlying164 Tryz.underlying3 (zeroI _) (w.heap.size + 1 + 1 + 1) i D rfl QO.out (.agg #[.int .i64 (c : Int), .int .i64 1]) kl rfl HK.out ?_; intro v hat hwc; (have hv2 : v = (idxM ks (c, true) : Int) := (by rw [HAtK.out hm] at hat; simpa using hat.symm)); clear hat hwc; subst hv2)
          go_roundw
          case rel =>
            refine ⟨i + 1, by omega, by go_num, ?_, ?_, ?_, ⟨D, ?_, ?_⟩, ?_⟩
            · have h1 := heap_setCell _ Q0.out i (.int .i64 (idxM ks (c, true) : Int))
              have h2 := mix_set cls f HN.out.1 i hlt
              rw [HKS.out, HFI.out, HKM.out] at h2
              rw [h2] at h1
              exact h1
            · exact (Below.heap_setCell _ ⟨w.heap.size, i, none⟩ _ _ (by simp only []; omega)).trans Q1.out
            · exact (Below.heap_setCell _ ⟨w.heap.size, i, none⟩ _ _ (by simp only []; omega)).trans Q2.out
            · exact World.ownsMap.mono (ownsMap_at QO.out (Below.heap_setCell _ ⟨w.heap.size, i, none⟩ _ _ (by simp only []; omega))) (by omega)
            · show MapIs pairL _ D (keyM (numsM f i).1 (f i)).1
              rw [HKS.out, HFI.out, HKM.out]
              exact HM.out
            · exact Fr.setCell QF.out (p := ⟨w.heap.size, i, none⟩) (.inr (Nat.le_refl _)) _
          case measure => simp [intOf]; omega
        · have hhas : Maps.has D kl = false := by rw [HHas.out]; simp [hm]
          have HKM := Lib.hid (show keyM ks (c, true) = (ks ++ [(c, true)], ks.length) by rw [keyM, if_neg hm])
          have hsz : Maps.size D = ks.length := HM.out.size
          go_wp2_with (first
            | (at_lookup; refine wpList_lookup_own_ok_int _ rfl (.tmp 42) (.tmp 43) 164 rfl 64 3 .i64 key2_law Tryz.underlying164 Tryz.underlying3 (zeroI _) (w.heap.size + 1 + 1 + 1) i D rfl QO.out (.agg #[.int .i64 (c : Int), .int .i64 1]) kl rfl HK.out ?_; intro v hat hwc; clear hat hwc)
            | (at_len; refine wpList_len_own _ rfl (.tmp 49) 164 rfl 64 3 Tryz.underlying164 _ (w.heap.size + 1 + 1 + 1) i D rfl QO.out ?_)
            | (at_mapUpdate; refine wpList_mapUpdate_own _ rfl (.tmp 51) (.tmp 52) (.tmp 53) 164 rfl 64 3 key2_law Tryz.underlying164 _ (w.heap.size + 1 + 1 + 1) i D rfl QO.out (by unfold maxLen; omega) (.agg #[.int .i64 (c : Int), .int .i64 1]) (.int .i64 (ks.length : Int)) kl rfl rfl HK.out (.lit (.int .i64 (ks.length : Int))) [] (plainElem_int Tryz.underlying3 (WalkArith.wf_i64 (by omega))) ?_; intro w3 hown3 hgrow3; (have R0 := Lib.hid ((hgrow3.block w.heap.size (lt_of_block Q0.out) (by intro e; injection e with e; omega)).trans Q0.out)); (have R1 := Lib.hid ((hgrow3.block (w.heap.size + 1) (lt_of_block Q1.out) (by intro e; injection e with e; omega)).trans Q1.out)); (have R2 := Lib.hid ((hgrow3.block (w.heap.size + 1 + 1) (lt_of_block Q2.out) (by intro e; injection e with e; omega)).trans Q2.out)); (have RO := Lib.hid hown3); (have RF := Lib.hid (QF.out.grown hgrow3 (fun k hk => .inr (by injection hk with hk; omega)))); (have fc3 : w3.cell? ⟨w.heap.size, i, none⟩ = some ox := (by rw [Lib.cell_of_heap R0.out]; exact HOX.out)); (have ff3 : w3.frozen? ⟨w.heap.size, i, none⟩ = false := free_of_block R0.out); clear hown3 hgrow3))
          go_roundw
          case rel =>
            refine ⟨i + 1, by omega, by go_num, ?_, ?_, ?_, ⟨D.put kl (.lit (.int .i64 (ks.length : Int))), ?_, ?_⟩, ?_⟩
            · have h1 := heap_setCell _ R0.out i (.int .i64 (ks.length : Int))
              have h2 := mix_set cls f HN.out.1 i hlt
              rw [HKS.out, HFI.out, HKM.out] at h2
              rw [h2] at h1
              exact h1
            · exact (Below.heap_setCell _ ⟨w.heap.size, i, none⟩ _ _ (by simp only []; omega)).trans R1.out
            · exact (Below.heap_setCell _ ⟨w.heap.size, i, none⟩ _ _ (by simp only []; omega)).trans R2.out
            · exact ownsMap_at RO.out (Below.heap_setCell _ ⟨w.heap.size, i, none⟩ _ _ (by simp only []; omega))
            · show MapIs pairL _ _ (keyM (numsM f i).1 (f i)).1
              rw [HKS.out, HFI.out, HKM.out]
              exact HPut.out hm
            · exact Fr.setCell RF.out (p := ⟨w.heap.size, i, none⟩) (.inr (Nat.le_refl _)) _
          case measure => simp [intOf]; omega
    · obtain rfl : i = 256 := by omega
      have hend := mix_end cls f HN.out.1
      have HE3 := Lib.hid (show splitM cls (.mk 1 b0 b1 b2 b3 kids) = mixM cls f 256 by rw [HE.out, hend])
      have hz : (arrV (mixM cls f 256)).length = 256 := by rw [arrV, intsV_length, ints_length, mix_length cls f HN.out.1 256 (Nat.le_refl _)]
      have hsz : (arrV (mixM cls f 256)).toArray.size = 256 := by simpa using hz
      obtain ⟨cl, hcl⟩ : ∃ x, mixM cls f 256 = x := ⟨_, rfl⟩
      rw [hcl] at hz hsz HE3 H0
      have hk0 := H0.out
      have hk2 := H2.out
      have hone := arrV_one cl
      clear hcl hend HM
      go_wp2_with (first
        | (refine wpList_load_row rfl 22 _ rfl w.heap.size 22 (arrV cl) _ rfl hk0 Tryz.underlying22 rfl (by rw [hz]; exact arr_info) ?_)
        | (refine wpList_store_row rfl 22 _ _ rfl (w.heap.size + 1 + 1) 22 Tryz.zeroCells22 (arrV cl).toArray rfl rfl hk2 (by rw [hsz]; exact arr_info) (by rw [zero_size, hsz]) hone ?_))
      refine bodyPost_ret (results_arr rfl rfl (setRow_heap _ _ _ _ _ _ hk2) hz) rfl ?_
      exact ⟨by rw [HE3.out], Fr.setRow HFr.out (.inr (by omega)) _⟩
end Go.Proofs.YtnenbihmokolpaaGreatDoor

namespace Go.Proofs.YtnenbihmokolpaaGreatDoor set_option linter.unusedVariables false set_option linter.unusedSimpArgs false
open Go.RowKit
open Go.Maps

theorem size_mem : ∀ {l : List Rx} {q : Rx}, q ∈ l → q.size ≤ Rx.sizes l
  | [], q, h => absurd h (by simp)
  | x :: xs, q, h => by
    rcases List.mem_cons.1 h with e | e
    · rw [e]; simp [Rx.sizes]
    · have := size_mem e; simp [Rx.sizes]; omega
theorem split_all : ∀ (n : Nat) (r : Rx), r.size ≤ n → r.size ≤ 1000000 → SplitC r := by
  intro n
  induction n with
  | zero => intro r h; have := r.size_pos; omega
  | succ n ih =>
    rintro ⟨k, b0, b1, b2, b3, kids⟩ hn hm
    simp only [Rx.size] at hn hm
    by_cases hk : k = 1
    · subst hk; exact split_bytes b0 b1 b2 b3 kids
    · exact split_kids k hk b0 b1 b2 b3 kids (fun q hq => by have := size_mem hq; exact ih q (by omega) (by omega)) (by have := Rx.length_le kids; omega)
theorem split_any (r : Rx) (h : r.size ≤ 1000000) : SplitC r := split_all r.size r (Nat.le_refl _) h
theorem zero_arr : Tryz.zeroCells22 = (arrV (List.replicate 256 0)).toArray := by kernel_rfl

set_option maxRecDepth 100000 in
set_option maxHeartbeats 1000000 in
theorem classes_any (kids : List Rx) (a : Option Addr) (cap : Nat) (ok : Nat → Prop) (w : World) (hc : kids.length ≤ cap) (hl : RxL ok w a 0 kids) (hs : Rx.sizes kids ≤ 1000000) :
    Calls Tryz.prog 63 #[.slice a kids.length cap] w fun e w' => e = .returned (.agg (arrV (classesM kids)).toArray) ∧ Fr none_ w w' := by
  have HL := Lib.hid hl
  have HS := Lib.hid (show ∀ r ∈ kids, SplitC r from fun r hr => split_any r (by have := size_mem hr; omega))
  have hkl : kids.length ≤ 1000000 := by have := Rx.length_le kids; omega
  clear hl hs
  have HF0 := Lib.hid (((Fr.refl none_ w).alloc (.cells Tryz.zeroCells22 22)).alloc (.cells Tryz.zeroCells22 22))
  have HB0 := Lib.hid (((Fr.refl none_ (w.alloc (.cells Tryz.zeroCells22 22))).alloc (.cells Tryz.zeroCells22 22)).at_ (alloc_new w (.cells Tryz.zeroCells22 22)) (fun h => h))
  have hb1 := alloc_new (w.alloc (.cells Tryz.zeroCells22 22)) (.cells Tryz.zeroCells22 22)
  have e1 : (w.alloc (.cells Tryz.zeroCells22 22)).heap.size = w.heap.size + 1 := by simp
  rw [e1] at hb1
  have HB1 := Lib.hid hb1
  clear hb1 e1
  go_enter Tryz.func63, Tryz.ntmps63
  go_wp2_with fail
  go_loopw [8] (fun x8 wr => ∃ i : Nat, i ≤ kids.length ∧ x8 = .int .i64 i ∧ Aside (wr.heap[w.heap.size + 1]? = some (.cells (arrV (classesM (kids.take i))).toArray 22 (0, 0))) ∧ Aside (wr.heap[w.heap.size]? = some (.cells Tryz.zeroCells22 22 (0, 0))) ∧ Aside (Fr none_ w wr)) (fun x8 _ => kids.length - (intOf x8).toNat)
  case atStart => exact ⟨0, Nat.zero_le _, rfl, (by have h0 := HB1.out; rw [zero_arr] at h0 ⊢; exact h0), HB0.out, HF0.out⟩
  case round =>
    obtain ⟨i, hi', rfl, hb0, hb2, hfr⟩ := hrel
    have H0 := Lib.hid hb0.out
    have H2 := Lib.hid hb2.out
    have HFr := Lib.hid hfr.out
    clear hb0 hb2 hfr
    obtain ⟨cl, hcl⟩ : ∃ x, classesM (kids.take i) = x := ⟨_, rfl⟩
    have hnc : Normal cl := by rw [← hcl]; exact normal_classes _
    have hz := arrV_len hnc
    have hsz := arrV_size hnc
    have HNC := Lib.hid hnc
    have HCL := Lib.hid hcl
    rw [hcl] at H0
    clear hcl hnc
    by_cases hlt : i < kids.length
    · have hlt' : (i : Int) < (kids.length : Int) := by omega
      obtain ⟨⟨k', x0, x1, x2, x3, kids'⟩, hki⟩ : ∃ r, kids[i]? = some r := ⟨kids[i]'hlt, List.getElem?_eq_getElem hlt⟩
      have hmv : RxL ok wr a 0 kids := RxL.move (fun k _ hlt => HFr.out.block k hlt (fun h => h)) kids a 0 HL.out
      obtain ⟨ad, a', cap', rfl, hok, c0, c1, c2, c3, c4, c5, hc', hl'⟩ := hmv.elem hki
      have HL' := Lib.hid hl'
      have HKC := Lib.hid (HS.out _ (List.mem_of_getElem? hki))
      have FK := Lib.hid (Fr.alloc (Fr.refl none_ wr) (.cells #[.int .i64 k', .int .u64 x0, .int .u64 x1, .int .u64 x2, .int .u64 x3, .slice a' kids'.length cap'] 53))
      have htake : kids.take (i + 1) = kids.take i ++ [.mk k' x0 x1 x2 x3 kids'] := by rw [List.take_add_one, hki]; rfl
      obtain ⟨z0, z1, z2, z3, z4, z5⟩ := six (alloc_new wr (.cells #[.int .i64 k', .int .u64 x0, .int .u64 x1, .int .u64 x2, .int .u64 x3, .slice a' kids'.length cap'] 53))
      have HTK := Lib.hid htake
      have HK0 := FK.out.at_ H0.out (fun h => h)
      clear hki hmv hl' htake
      go_wp2_with (refine wpList_load_row rfl 22 _ rfl (w.heap.size + 1) 22 (arrV cl) _ rfl HK0 Tryz.underlying22 rfl (by rw [hz]; exact arr_info) ?_)
      refine (HKC.out cl HNC.out _ ok _ (RxV.mk_ hc' (RxL.move (fun k _ hlt => FK.out.block k hlt (fun h => h)) _ _ _ HL'.out))).mono ?_
      rintro e w2 ⟨rfl, h4⟩
      have K0 := h4.at_ HK0 (fun h => h)
      have K2 := Lib.hid ((FK.out.tr h4).at_ H2.out (fun h => h))
      have K4 := Lib.hid ((HFr.out.tr FK.out).tr h4)
      have hn2 : Normal (splitM cl (.mk k' x0 x1 x2 x3 kids')) := normal_splitM _ _ HNC.out
      have HE2 := Lib.hid (show classesM (kids.take (i + 1)) = splitM cl (.mk k' x0 x1 x2 x3 kids') by rw [HTK.out, classesM, splitsM_snoc]; rw [← HCL.out]; rfl)
      obtain ⟨cl2, hcl2⟩ : ∃ x, splitM cl (.mk k' x0 x1 x2 x3 kids') = x := ⟨_, rfl⟩
      rw [hcl2] at hn2 HE2 ⊢
      have hsz2 := arrV_size hn2
      have hone := arrV_one cl2
      clear h4 z0 z1 z2 z3 z4 z5 c0 c1 c2 c3 c4 c5 HK0 hcl2
      go_wp2_with (refine wpList_store_row rfl 22 _ _ rfl (w.heap.size + 1) 22 (arrV cl).toArray (arrV cl2).toArray rfl rfl K0 (by rw [hsz2]; exact arr_info) (by rw [hsz, hsz2]) hone ?_)
      go_roundw
      case rel => exact ⟨i + 1, by omega, by go_num, (by rw [HE2.out]; exact setRow_heap _ _ _ _ _ _ K0), (by exact (setRow_other _ _ _ _ (by omega)).trans K2.out), Fr.setRow K4.out (.inr (by omega)) _⟩
      case measure => simp [intOf]; omega
    · obtain rfl : i = kids.length := by omega
      have HE3 := Lib.hid (show classesM kids = cl by rw [← HCL.out, List.take_length])
      have hk0 := H0.out
      have hk2 := H2.out
      have hone := arrV_one cl
      go_wp2_with (first
        | (refine wpList_load_row rfl 22 _ rfl (w.heap.size + 1) 22 (arrV cl) _ rfl hk0 Tryz.underlying22 rfl (by rw [hz]; exact arr_info) ?_)
        | (refine wpList_store_row rfl 22 _ _ rfl w.heap.size 22 Tryz.zeroCells22 (arrV cl).toArray rfl rfl hk2 (by rw [hsz]; exact arr_info) (by rw [zero_size, hsz]) hone ?_))
      refine bodyPost_ret (results_arr rfl rfl (setRow_heap _ _ _ _ _ _ hk2) hz) rfl ?_
      exact ⟨by rw [HE3.out], Fr.setRow HFr.out (.inr (by omega)) _⟩
end Go.Proofs.YtnenbihmokolpaaGreatDoor
