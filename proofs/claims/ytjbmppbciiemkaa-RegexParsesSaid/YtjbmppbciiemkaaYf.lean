/-
  The reference of layer 3: only; rows of 256 truth values.
-/
import Derived.Test.YtjbmppbciiemkaaYp
import Derived.Test.YtjbmppbciiemkaaPb
import Derived.Test.YtjbmppbciiemkaaYA
import Derived.Deep.MidRow
namespace Go.Proofs.Ytjbmppbciiemkaa set_option linter.unusedVariables false set_option linter.unusedSimpArgs false
open Go.RowKit

theorem range_of_ {w : World} {g : Nat} {C : List Value} {t : TypeId} (h : w.heap[g]? = some (.cells C.toArray t (0, 0))) : w.rangeAt g 0 C := fun j v hv => by
  rw [Nat.zero_add, Lib.cell_of_heap h]
  simpa using hv
theorem Fr.setRow_ {S : Nat → Prop} {a w : World} (h : Fr S a w) {g : Nat} (hp : S g ∨ a.heap.size ≤ g) (cs : Array Value) : Fr S a (w.setRow g cs) :=
  ⟨h.os, h.tape, h.output, Nat.le_trans h.size (by simp [World.setRow]), fun k hk hn => (setRow_other w g k cs (fun e => by
    subst e
    rcases hp with hp | hp
    · exact hn hp
    · omega)).trans (h.block k hk hn)⟩
theorem wpList_store_row_ {P : Program} {ops : Array Oper} {rest : List Oper} {op : Oper} {a : Act} {w : World} {Q : Exit → Act → World → Prop} (hgd : op.guard = none) (ty : TypeId) (x y : Operand) (ho : op.op = .store ty x y)
    (g : Nat) (t : TypeId) (old cells : Array Value) (hx : a.eval x = .pointer (some ⟨g, 0, none⟩)) (hy : a.eval y = .agg cells) (hb : w.heap[g]? = some (.cells old t (0, 0)))
    (hi : (P.info? ty).map (·.size) = some cells.size) (hs : old.size = cells.size) (h1 : cells.all (·.oneCell') = true)
    (h : wpList P ops Q rest (a.put op.dst undef) (w.setRow g cells)) : wpList P ops Q (op :: rest) a w :=
  wpList_plain hgd fun K hK => by
    unfold Oper.wp execOp
    simp only [ho, hx, hy, Instr.storeAt, Instr.sureAddr, Sem.run_bind, Sem.run_pure, Result.andThen_ok, run_storeVar_row w g t ty old cells hb hi hs h1]
    exact hK _ _ h
theorem wpList_load_row_ {P : Program} {ops : Array Oper} {rest : List Oper} {op : Oper} {a : Act} {w : World} {Q : Exit → Act → World → Prop} (hgd : op.guard = none) (ty : TypeId) (x : Operand) (ho : op.op = .load ty x)
    (g : Nat) (t : TypeId) (cs : List Value) (d : TypeDesc) (hx : a.eval x = .pointer (some ⟨g, 0, none⟩)) (hb : w.heap[g]? = some (.cells cs.toArray t (0, 0))) (hu : P.underlying ty = some d) (hd : d.isRow = true)
    (hi : (P.info? ty).map (·.size) = some cs.length) (h : wpList P ops Q rest (a.put op.dst (.agg cs.toArray)) w) : wpList P ops Q (op :: rest) a w :=
  wpList_load_mid hgd ty x ho g 0 hx cs d (range_of_ hb) hu hd hi h

theorem aside_mk {p : Prop} (h : p) : Aside p := h
def boolsF (A : Nat → Bool) : List Value := (List.range 256).map fun b => .bool (A b)
theorem boolsF_length (A : Nat → Bool) : (boolsF A).length = 256 := by simp [boolsF]
theorem boolsF_at (A : Nat → Bool) {b : Nat} (hb : b < 256) : (boolsF A)[b]? = some (.bool (A b)) := by simp [boolsF, hb]
theorem boolsF_set (A : Nat → Bool) (c : Nat) (x : Bool) : (boolsF A).set c (.bool x) = boolsF (fun b => if b = c then x else A b) := by
  refine List.ext_getElem? (fun b => ?_)
  by_cases hb : b < 256
  · rw [boolsF_at _ hb, List.getElem?_set, boolsF_length]
    by_cases e : c = b
    · subst e; simp [hb]
    · rw [if_neg e, boolsF_at _ hb, if_neg (fun h => e h.symm)]
  · rw [List.getElem?_eq_none (by simp [boolsF_length]; omega), List.getElem?_eq_none (by simp [boolsF_length]; omega)]
theorem boolsF_congr {A B : Nat → Bool} (h : ∀ b, b < 256 → A b = B b) : boolsF A = boolsF B := by
  simp only [boolsF]
  exact List.map_congr_left (fun b hb => by rw [h b (List.mem_range.1 hb)])
theorem boolsF_one (A : Nat → Bool) : (boolsF A).toArray.all (·.oneCell') = true := all_oneCell_toArray (fun v hv => by
  simp only [boolsF, List.mem_map] at hv
  obtain ⟨n, _, rfl⟩ := hv
  rfl)
/-- A block of 256 truth values. -/
def boolsO (A : Nat → Bool) : Obj := .cells (boolsF A).toArray 84 (0, 0)
theorem boolsO_cell {w : World} {g : Nat} {A : Nat → Bool} (h : w.heap[g]? = some (boolsO A)) {b : Nat} (hb : b < 256) : w.cell? ⟨g, b, none⟩ = some (.bool (A b)) :=
  cell_of_block h (by simpa using boolsF_at A hb)
theorem boolsO_set {w : World} {g : Nat} {A : Nat → Bool} (h : w.heap[g]? = some (boolsO A)) (c : Nat) (x : Bool) : (w.setCell ⟨g, c, none⟩ (.bool x)).heap[g]? = some (boolsO (fun b => if b = c then x else A b)) := by
  have := heap_setCell w h c (.bool x)
  rw [this, boolsO, ← boolsF_set]
  simp
theorem boolsO_free {w : World} {g o : Nat} {A : Nat → Bool} (h : w.heap[g]? = some (boolsO A)) : w.frozen? ⟨g, o, none⟩ = false := free_of_block h
theorem bools_info : (Try.prog.info? 84).map (·.size) = some 256 := by kernel_rfl

theorem wrap_u (n : Int) (h0 : 0 ≤ n) (h1 : n < 18446744073709551616) : IntKind.u64.wrap n = n := by
  have e : IntKind.u64.wrap n = n % 18446744073709551616 := by simp [IntKind.wrap, IntKind.bits, IntKind.signed]
  rw [e, Int.emod_eq_of_lt h0 h1]
/-- How many bits of word j are laid when n bytes are left. -/
def cntW (j n : Nat) : Nat := min 64 (64 * (j + 1) - n)
theorem cnt_same {j b : Nat} (h : b / 64 ≠ j) : cntW j b = cntW j (b + 1) := by unfold cntW; omega
theorem cnt_step {j b : Nat} (h : b / 64 = j) : cntW j b = cntW j (b + 1) + 1 ∧ cntW j (b + 1) = 63 - b % 64 := by unfold cntW; omega
def wsAt (A : Nat → Bool) (n : Nat) : Bs := ⟨wordT A 0 (cntW 0 n), wordT A 1 (cntW 1 n), wordT A 2 (cntW 2 n), wordT A 3 (cntW 3 n)⟩
theorem word_step (A : Nat → Bool) {j b : Nat} (h : b / 64 = j) : wordT A j (cntW j b) = wordT A j (cntW j (b + 1)) * 2 + (A b).toNat ∧ wordT A j (cntW j (b + 1)) < 9223372036854775808 := by
  obtain ⟨h1, h2⟩ := cnt_step h
  refine ⟨?_, Nat.lt_of_lt_of_le (wordT_lt A j _) (Nat.le_trans (Nat.pow_le_pow_right (by decide) (show _ ≤ 63 by omega)) (by decide))⟩
  rw [h1, wordT, h2, show 64 * j + (63 - (63 - b % 64)) = b by omega]
theorem ws_0 (A : Nat → Bool) (b : Nat) (h : b / 64 = 0) : wsAt A b = { wsAt A (b + 1) with b0 := (wsAt A (b + 1)).b0 * 2 + (A b).toNat } ∧ (wsAt A (b + 1)).b0 < 9223372036854775808 := by
  obtain ⟨h1, h2⟩ := word_step A h
  exact ⟨by simp only [wsAt, h1, cnt_same (j := 1) (b := b) (by omega), cnt_same (j := 2) (b := b) (by omega), cnt_same (j := 3) (b := b) (by omega)], h2⟩
theorem ws_1 (A : Nat → Bool) (b : Nat) (h : b / 64 = 1) : wsAt A b = { wsAt A (b + 1) with b1 := (wsAt A (b + 1)).b1 * 2 + (A b).toNat } ∧ (wsAt A (b + 1)).b1 < 9223372036854775808 := by
  obtain ⟨h1, h2⟩ := word_step A h
  exact ⟨by simp only [wsAt, h1, cnt_same (j := 0) (b := b) (by omega), cnt_same (j := 2) (b := b) (by omega), cnt_same (j := 3) (b := b) (by omega)], h2⟩
theorem ws_2 (A : Nat → Bool) (b : Nat) (h : b / 64 = 2) : wsAt A b = { wsAt A (b + 1) with b2 := (wsAt A (b + 1)).b2 * 2 + (A b).toNat } ∧ (wsAt A (b + 1)).b2 < 9223372036854775808 := by
  obtain ⟨h1, h2⟩ := word_step A h
  exact ⟨by simp only [wsAt, h1, cnt_same (j := 0) (b := b) (by omega), cnt_same (j := 1) (b := b) (by omega), cnt_same (j := 3) (b := b) (by omega)], h2⟩
theorem ws_3 (A : Nat → Bool) (b : Nat) (h : b / 64 = 3) : wsAt A b = { wsAt A (b + 1) with b3 := (wsAt A (b + 1)).b3 * 2 + (A b).toNat } ∧ (wsAt A (b + 1)).b3 < 9223372036854775808 := by
  obtain ⟨h1, h2⟩ := word_step A h
  exact ⟨by simp only [wsAt, h1, cnt_same (j := 0) (b := b) (by omega), cnt_same (j := 1) (b := b) (by omega), cnt_same (j := 2) (b := b) (by omega)], h2⟩

set_option maxRecDepth 100000 in
set_option maxHeartbeats 4000000 in
theorem only_any (A : Nat → Bool) (w : World) :
    Calls Try.prog 54 #[.agg (boolsF A).toArray] w fun e w' =>
      e = .returned (.agg #[.int .i64 1, .int .u64 (wordT A 0 64), .int .u64 (wordT A 1 64), .int .u64 (wordT A 2 64), .int .u64 (wordT A 3 64), .slice none 0 0]) ∧ Fr none_ w w' := by
  have g0 : ((w.alloc (.cells (boolsF A).toArray 84)).alloc (.cells #[.int .i64 0, .int .u64 0, .int .u64 0, .int .u64 0, .int .u64 0, .slice none 0 0] 28)).heap[w.heap.size]? = some (boolsO A) := ((Fr.refl none_ (w.alloc (.cells (boolsF A).toArray 84))).alloc (.cells #[.int .i64 0, .int .u64 0, .int .u64 0, .int .u64 0, .int .u64 0, .slice none 0 0] 28)).at_ (alloc_new w _) (fun h => h)
  have s1 : (w.alloc (.cells (boolsF A).toArray 84)).heap.size = w.heap.size + 1 := by simp
  have s2 : ((w.alloc (.cells (boolsF A).toArray 84)).alloc (.cells #[.int .i64 0, .int .u64 0, .int .u64 0, .int .u64 0, .int .u64 0, .slice none 0 0] 28)).heap.size = w.heap.size + 1 + 1 := by simp
  have g1 : ((w.alloc (.cells (boolsF A).toArray 84)).alloc (.cells #[.int .i64 0, .int .u64 0, .int .u64 0, .int .u64 0, .int .u64 0, .slice none 0 0] 28)).heap[w.heap.size + 1]? = some (.cells #[.int .i64 0, .int .u64 0, .int .u64 0, .int .u64 0, .int .u64 0, .slice none 0 0] 28 (0, 0)) := by rw [← s1]; exact alloc_new _ _
  have g2 : (((w.alloc (.cells (boolsF A).toArray 84)).alloc (.cells #[.int .i64 0, .int .u64 0, .int .u64 0, .int .u64 0, .int .u64 0, .slice none 0 0] 28)).alloc (.cells #[.int .i64 1, .int .u64 0, .int .u64 0, .int .u64 0, .int .u64 0, .slice none 0 0] 28)).heap[w.heap.size + 1 + 1]? = some (.cells #[.int .i64 1, .int .u64 0, .int .u64 0, .int .u64 0, .int .u64 0, .slice none 0 0] 28 (0, 0)) := by rw [← s2]; exact alloc_new _ _
  have F1 := (((Fr.refl none_ w).alloc (.cells (boolsF A).toArray 84)).alloc (.cells #[.int .i64 0, .int .u64 0, .int .u64 0, .int .u64 0, .int .u64 0, .slice none 0 0] 28)).alloc (.cells #[.int .i64 1, .int .u64 0, .int .u64 0, .int .u64 0, .int .u64 0, .slice none 0 0] 28)
  have F2 := (Fr.refl none_ ((w.alloc (.cells (boolsF A).toArray 84)).alloc (.cells #[.int .i64 0, .int .u64 0, .int .u64 0, .int .u64 0, .int .u64 0, .slice none 0 0] 28))).alloc (.cells #[.int .i64 1, .int .u64 0, .int .u64 0, .int .u64 0, .int .u64 0, .slice none 0 0] 28)
  have G0 := Lib.hid (F2.at_ g0 (fun h => h))
  have G1 := Lib.hid (F2.at_ g1 (fun h => h))
  have G2 := Lib.hid g2
  have HF := Lib.hid F1
  clear g0 g1 g2 F1 F2 s1 s2
  obtain ⟨C, hC⟩ : ∃ C, boolsF A = C := ⟨_, rfl⟩
  have HC := Lib.hid hC
  rw [hC] at G0 G1 G2 HF ⊢
  clear hC
  go_enter Try.func54, Try.ntmps54
  go_wp2_with fail
  go_loopw [4, 5] (fun x4 x5 wr => ∃ n : Nat, n ≤ 256 ∧ x4 = .int .i64 ((n : Int) - 1) ∧ Aside (wr.heap[w.heap.size + 1 + 1]? = some (bsObj 1 (wsAt A n))) ∧ Aside (wr.heap[w.heap.size]? = some (boolsO A) ∧ wr.heap[w.heap.size + 1]? = some (.cells #[.int .i64 0, .int .u64 0, .int .u64 0, .int .u64 0, .int .u64 0, .slice none 0 0] 28 (0, 0))) ∧ Aside (Fr none_ w wr)) (fun x4 _ _ => (intOf x4 + 1).toNat)
  case atStart => exact ⟨256, Nat.le_refl _, rfl, aside_mk (by rw [G2.out]; simp [bsObj, wsAt, cntW, wordT]), ⟨G0.out, G1.out⟩, HF.out⟩
  case round =>
    obtain ⟨n, hn, rfl, hbr, h01, hfr⟩ := hrel
    have HBr := hbr.out
    have HN := Lib.hid h01.out
    have HFr := Lib.hid hfr.out
    clear hbr h01 hfr
    cases n with
    | succ b =>
      rw [show ((b + 1 : Nat) : Int) - 1 = (b : Int) by omega]
      have cA := boolsO_cell HN.out.1 (b := b) (by omega)
      have HNr := Lib.hid (fun (wz : World) (hz : Fr (fun k => k = w.heap.size + 1 + 1) wr wz) => (show (wz.heap[w.heap.size]? = some (boolsO A) ∧ wz.heap[w.heap.size + 1]? = some (.cells #[.int .i64 0, .int .u64 0, .int .u64 0, .int .u64 0, .int .u64 0, .slice none 0 0] 28 (0, 0))) ∧ Fr none_ w wz from
        ⟨⟨hz.at_ HN.out.1 (by omega), hz.at_ HN.out.2 (by omega)⟩, HFr.out.trans hz (fun i hi h => by omega)⟩))
      have hb0 : (0 : Int) ≤ (b : Int) := by omega
      have hbb : (b : Int) < 256 := by omega
      have h4 : b / 64 = 0 ∨ b / 64 = 1 ∨ b / 64 = 2 ∨ b / 64 = 3 := by omega
      clear HN HFr
      rcases h4 with h4 | h4 | h4 | h4
      · obtain ⟨hst, hsl⟩ := ws_0 A b h4
        obtain ⟨x, hx⟩ : ∃ x, wsAt A (b + 1) = x := ⟨_, rfl⟩
        rw [hx] at hst hsl HBr
        have HST := Lib.hid hst
        have c1 : wr.cell? ⟨w.heap.size + 1 + 1, 1, none⟩ = some (.int .u64 x.b0) := cell_of_block HBr rfl
        have f1 : wr.frozen? ⟨w.heap.size + 1 + 1, 1, none⟩ = false := free_of_block HBr
        have e7 : (b : Int) / 64 = 0 := by omega
        have z0 := wrap_u ((x.b0 : Int) * 2) (by omega) (by omega)
        have z1 := wrap_u ((x.b0 : Int) * 2 + 1) (by omega) (by omega)
        replace HBr := Lib.hid HBr
        clear hst hx h4
        cases hA : A b with
        | true =>
          rw [hA] at cA HST
          have HB2 := heap_setCell wr HBr.out 1 (.int .u64 ((x.b0 * 2 + 1 : Nat) : Int))
          have HSC := Lib.hid ((Fr.refl (fun k => k = w.heap.size + 1 + 1) wr).setCell (p := ⟨w.heap.size + 1 + 1, 1, none⟩) (.inl rfl) (.int .u64 ((x.b0 * 2 + 1 : Nat) : Int)))
          replace HB2 := Lib.hid HB2
          clear hA
          go_wp2_with fail
          go_roundw
          case rel => exact ⟨b, by omega, by first | rfl | (congr 1), aside_mk (by rw [HST.out]; simpa [bsObj] using HB2.out), (HNr.out _ HSC.out).1, (HNr.out _ HSC.out).2⟩
          case measure => first | (simp [intOf]; done) | (simp [intOf]; omega)
        | false =>
          rw [hA] at cA HST
          have HB2 := heap_setCell wr HBr.out 1 (.int .u64 ((x.b0 * 2 : Nat) : Int))
          have HSC := Lib.hid ((Fr.refl (fun k => k = w.heap.size + 1 + 1) wr).setCell (p := ⟨w.heap.size + 1 + 1, 1, none⟩) (.inl rfl) (.int .u64 ((x.b0 * 2 : Nat) : Int)))
          replace HB2 := Lib.hid HB2
          clear hA
          go_wp2_with fail
          go_roundw
          case rel => exact ⟨b, by omega, by first | rfl | (congr 1), aside_mk (by rw [HST.out]; simpa [bsObj] using HB2.out), (HNr.out _ HSC.out).1, (HNr.out _ HSC.out).2⟩
          case measure => first | (simp [intOf]; done) | (simp [intOf]; omega)
      · obtain ⟨hst, hsl⟩ := ws_1 A b h4
        obtain ⟨x, hx⟩ : ∃ x, wsAt A (b + 1) = x := ⟨_, rfl⟩
        rw [hx] at hst hsl HBr
        have HST := Lib.hid hst
        have c1 : wr.cell? ⟨w.heap.size + 1 + 1, 2, none⟩ = some (.int .u64 x.b1) := cell_of_block HBr rfl
        have f1 : wr.frozen? ⟨w.heap.size + 1 + 1, 2, none⟩ = false := free_of_block HBr
        have e7 : (b : Int) / 64 = 1 := by omega
        have z0 := wrap_u ((x.b1 : Int) * 2) (by omega) (by omega)
        have z1 := wrap_u ((x.b1 : Int) * 2 + 1) (by omega) (by omega)
        replace HBr := Lib.hid HBr
        clear hst hx h4
        cases hA : A b with
        | true =>
          rw [hA] at cA HST
          have HB2 := heap_setCell wr HBr.out 2 (.int .u64 ((x.b1 * 2 + 1 : Nat) : Int))
          have HSC := Lib.hid ((Fr.refl (fun k => k = w.heap.size + 1 + 1) wr).setCell (p := ⟨w.heap.size + 1 + 1, 2, none⟩) (.inl rfl) (.int .u64 ((x.b1 * 2 + 1 : Nat) : Int)))
          replace HB2 := Lib.hid HB2
          clear hA
          go_wp2_with fail
          go_roundw
          case rel => exact ⟨b, by omega, by first | rfl | (congr 1), aside_mk (by rw [HST.out]; simpa [bsObj] using HB2.out), (HNr.out _ HSC.out).1, (HNr.out _ HSC.out).2⟩
          case measure => first | (simp [intOf]; done) | (simp [intOf]; omega)
        | false =>
          rw [hA] at cA HST
          have HB2 := heap_setCell wr HBr.out 2 (.int .u64 ((x.b1 * 2 : Nat) : Int))
          have HSC := Lib.hid ((Fr.refl (fun k => k = w.heap.size + 1 + 1) wr).setCell (p := ⟨w.heap.size + 1 + 1, 2, none⟩) (.inl rfl) (.int .u64 ((x.b1 * 2 : Nat) : Int)))
          replace HB2 := Lib.hid HB2
          clear hA
          go_wp2_with fail
          go_roundw
          case rel => exact ⟨b, by omega, by first | rfl | (congr 1), aside_mk (by rw [HST.out]; simpa [bsObj] using HB2.out), (HNr.out _ HSC.out).1, (HNr.out _ HSC.out).2⟩
          case measure => first | (simp [intOf]; done) | (simp [intOf]; omega)
      · obtain ⟨hst, hsl⟩ := ws_2 A b h4
        obtain ⟨x, hx⟩ : ∃ x, wsAt A (b + 1) = x := ⟨_, rfl⟩
        rw [hx] at hst hsl HBr
        have HST := Lib.hid hst
        have c1 : wr.cell? ⟨w.heap.size + 1 + 1, 3, none⟩ = some (.int .u64 x.b2) := cell_of_block HBr rfl
        have f1 : wr.frozen? ⟨w.heap.size + 1 + 1, 3, none⟩ = false := free_of_block HBr
        have e7 : (b : Int) / 64 = 2 := by omega
        have z0 := wrap_u ((x.b2 : Int) * 2) (by omega) (by omega)
        have z1 := wrap_u ((x.b2 : Int) * 2 + 1) (by omega) (by omega)
        replace HBr := Lib.hid HBr
        clear hst hx h4
        cases hA : A b with
        | true =>
          rw [hA] at cA HST
          have HB2 := heap_setCell wr HBr.out 3 (.int .u64 ((x.b2 * 2 + 1 : Nat) : Int))
          have HSC := Lib.hid ((Fr.refl (fun k => k = w.heap.size + 1 + 1) wr).setCell (p := ⟨w.heap.size + 1 + 1, 3, none⟩) (.inl rfl) (.int .u64 ((x.b2 * 2 + 1 : Nat) : Int)))
          replace HB2 := Lib.hid HB2
          clear hA
          go_wp2_with fail
          go_roundw
          case rel => exact ⟨b, by omega, by first | rfl | (congr 1), aside_mk (by rw [HST.out]; simpa [bsObj] using HB2.out), (HNr.out _ HSC.out).1, (HNr.out _ HSC.out).2⟩
          case measure => first | (simp [intOf]; done) | (simp [intOf]; omega)
        | false =>
          rw [hA] at cA HST
          have HB2 := heap_setCell wr HBr.out 3 (.int .u64 ((x.b2 * 2 : Nat) : Int))
          have HSC := Lib.hid ((Fr.refl (fun k => k = w.heap.size + 1 + 1) wr).setCell (p := ⟨w.heap.size + 1 + 1, 3, none⟩) (.inl rfl) (.int .u64 ((x.b2 * 2 : Nat) : Int)))
          replace HB2 := Lib.hid HB2
          clear hA
          go_wp2_with fail
          go_roundw
          case rel => exact ⟨b, by omega, by first | rfl | (congr 1), aside_mk (by rw [HST.out]; simpa [bsObj] using HB2.out), (HNr.out _ HSC.out).1, (HNr.out _ HSC.out).2⟩
          case measure => first | (simp [intOf]; done) | (simp [intOf]; omega)
      · obtain ⟨hst, hsl⟩ := ws_3 A b h4
        obtain ⟨x, hx⟩ : ∃ x, wsAt A (b + 1) = x := ⟨_, rfl⟩
        rw [hx] at hst hsl HBr
        have HST := Lib.hid hst
        have c1 : wr.cell? ⟨w.heap.size + 1 + 1, 4, none⟩ = some (.int .u64 x.b3) := cell_of_block HBr rfl
        have f1 : wr.frozen? ⟨w.heap.size + 1 + 1, 4, none⟩ = false := free_of_block HBr
        have e7 : (b : Int) / 64 = 3 := by omega
        have z0 := wrap_u ((x.b3 : Int) * 2) (by omega) (by omega)
        have z1 := wrap_u ((x.b3 : Int) * 2 + 1) (by omega) (by omega)
        replace HBr := Lib.hid HBr
        clear hst hx h4
        cases hA : A b with
        | true =>
          rw [hA] at cA HST
          have HB2 := heap_setCell wr HBr.out 4 (.int .u64 ((x.b3 * 2 + 1 : Nat) : Int))
          have HSC := Lib.hid ((Fr.refl (fun k => k = w.heap.size + 1 + 1) wr).setCell (p := ⟨w.heap.size + 1 + 1, 4, none⟩) (.inl rfl) (.int .u64 ((x.b3 * 2 + 1 : Nat) : Int)))
          replace HB2 := Lib.hid HB2
          clear hA
          go_wp2_with fail
          go_roundw
          case rel => exact ⟨b, by omega, by first | rfl | (congr 1), aside_mk (by rw [HST.out]; simpa [bsObj] using HB2.out), (HNr.out _ HSC.out).1, (HNr.out _ HSC.out).2⟩
          case measure => first | (simp [intOf]; done) | (simp [intOf]; omega)
        | false =>
          rw [hA] at cA HST
          have HB2 := heap_setCell wr HBr.out 4 (.int .u64 ((x.b3 * 2 : Nat) : Int))
          have HSC := Lib.hid ((Fr.refl (fun k => k = w.heap.size + 1 + 1) wr).setCell (p := ⟨w.heap.size + 1 + 1, 4, none⟩) (.inl rfl) (.int .u64 ((x.b3 * 2 : Nat) : Int)))
          replace HB2 := Lib.hid HB2
          clear hA
          go_wp2_with fail
          go_roundw
          case rel => exact ⟨b, by omega, by first | rfl | (congr 1), aside_mk (by rw [HST.out]; simpa [bsObj] using HB2.out), (HNr.out _ HSC.out).1, (HNr.out _ HSC.out).2⟩
          case measure => first | (simp [intOf]; done) | (simp [intOf]; omega)
    | zero =>
      have e0 : wsAt A 0 = ⟨wordT A 0 64, wordT A 1 64, wordT A 2 64, wordT A 3 64⟩ := rfl
      rw [e0] at HBr
      obtain ⟨z0, z1, z2, z3, z4, z5⟩ := six HBr
      obtain ⟨y0, y1, y2, y3, y4, y5⟩ := six HN.out.2
      have zf : ∀ o, wr.frozen? ⟨w.heap.size + 1, o, none⟩ = false := fun o => free_of_block HN.out.2
      obtain ⟨q0, hq0⟩ : ∃ q, wordT A 0 64 = q := ⟨_, rfl⟩
      have HQ0 := Lib.hid hq0
      rw [hq0] at HBr z1
      clear hq0
      obtain ⟨q1, hq1⟩ : ∃ q, wordT A 1 64 = q := ⟨_, rfl⟩
      have HQ1 := Lib.hid hq1
      rw [hq1] at HBr z2
      clear hq1
      obtain ⟨q2, hq2⟩ : ∃ q, wordT A 2 64 = q := ⟨_, rfl⟩
      have HQ2 := Lib.hid hq2
      rw [hq2] at HBr z3
      clear hq2
      obtain ⟨q3, hq3⟩ : ∃ q, wordT A 3 64 = q := ⟨_, rfl⟩
      have HQ3 := Lib.hid hq3
      rw [hq3] at HBr z4
      clear hq3
      go_wp2_with fail
      refine bodyPost_ret (results_six rfl rfl (set_six HN.out.2 _ _ _ _ _ _)) rfl ?_
      exact ⟨by rw [HQ0.out, HQ1.out, HQ2.out, HQ3.out], fr_six HFr.out (.inr (by omega)) _ _ _ _ _ _⟩
end Go.Proofs.Ytjbmppbciiemkaa
