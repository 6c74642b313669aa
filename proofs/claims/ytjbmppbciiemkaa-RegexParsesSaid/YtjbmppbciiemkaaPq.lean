/-
  The walk over regex.Parse: what it defers, and itself.
-/
import Derived.Test.YtjbmppbciiemkaaPa
namespace Go.Proofs.Ytjbmppbciiemkaa set_option linter.unusedVariables false set_option linter.unusedSimpArgs false
open Go.RowKit

/-- A deferred function's region whose first operation recovers: what follows is walked as any other. -/
theorem wpS_region_recover {P : Program} {Q : Exit → Act → List Frame → World → Prop} {a : Act} {cs cs' : List Frame} {w w' : World} {id : Nat} {ops : Array Oper} {o : Oper} {v : Value}
    (ho : ops[0]? = some o) (hg : o.guard = none) (hr : (execOp a.eval o).run P w = .ok .recover w')
    (hrec : recoverD cs = some (v, cs') ∨ (recoverD cs = none ∧ v = .nilIface ∧ cs' = cs))
    {Q2 : Exit → Act → World → Prop} (hq2 : ∀ e a w, Q2 e a w → Q e a cs' w)
    (h : wpList P ops Q2 (ops.toList.drop 1) (a.put o.dst v) w') :
    (Code.region id ops false).wpS P Q a cs w := by
  intro b k hb hro
  have hlt : 0 < ops.size := by
    rcases Nat.lt_or_ge 0 ops.size with h0 | h0
    · exact h0
    · simp [Array.getElem?_eq_none h0] at ho
  have hlen : (ops.toList.drop 1).length = ops.size - 1 := by simp
  rw [← wpOps_eq_wpList (ops.toList.drop 1) 1 (fun j => by simp [Nat.add_comm]), hlen] at h
  obtain ⟨e, a', w2, hq, harr⟩ := wp_ops _ _ _ h b k cs'
  have hrange : List.range ops.size = 0 :: List.range' 1 (ops.size - 1) := by
    rw [List.range_eq_range', show ops.size = (ops.size - 1) + 1 by omega, List.range'_succ]
    simp
  have hw : Region.wanted o (yielded ops a.tmps) = true := by simp [Region.wanted, hg]
  have hgs := stepG_op (P := P) (b := b) (k := k) (cs := cs) (w := w) (rest := List.range' 1 (ops.size - 1)) ho hw
  have hfin : ∀ v, (b.at a (.inRegion ops (0 :: List.range' 1 (ops.size - 1)) :: k)).finish v = b.at (a.put o.dst v) (.inRegion ops (List.range' 1 (ops.size - 1)) :: k) := by
    intro v; rw [Frame.finish_at, ho]; rfl
  have hk : (b.at a (.inRegion ops (0 :: List.range' 1 (ops.size - 1)) :: k)).kind = .deferred := hb
  have htr := tryRecover_deferred hk cs
  refine ⟨e, a', cs', w2, hq2 _ _ _ hq, .of_steps (.one step_region) (.of_steps (.one ?_) harr)⟩
  rw [hrange]
  refine step_lone_go ?_
  rw [hgs, ← hfin]
  simp only [Frame.at] at htr ⊢
  rcases hrec with hrec | ⟨hrec, rfl, rfl⟩
  · simp [stepG.apply, hr, htr, hrec]
  · simp [stepG.apply, hr, htr, hrec]

theorem wpS_recover {P : Program} {Q : Exit → Act → List Frame → World → Prop} {a : Act} {cs cs' : List Frame} {w w' : World} {id : Nat} {ops : Array Oper} {c : Code} {o : Oper} {v : Value}
    (ho : ops[0]? = some o) (hg : o.guard = none) (hr : (execOp a.eval o).run P w = .ok .recover w')
    (hrec : recoverD cs = some (v, cs') ∨ (recoverD cs = none ∧ v = .nilIface ∧ cs' = cs))
    (h : wpList P ops (Exit.then (c.wp P (fun e a w => Q e a cs' w)) (fun e a w => Q e a cs' w)) (ops.toList.drop 1) (a.put o.dst v) w') :
    (Code.seq (Code.region id ops false) c).wpS P Q a cs w := by
  exact wpS_seq (wpS_region_recover (cs' := cs') ho hg hr hrec (fun e a w q => by cases e <;> first | exact wpS_of_wp q | exact q) h)

set_option maxRecDepth 100000 in
set_option maxHeartbeats 4000000 in
theorem catch_idle (p q : Addr) (w : World) :
    CallsD Try.prog 14 #[.pointer (some p), .pointer (some q)] .returning w fun e u' w' => e = .returned (.tuple #[]) ∧ u' = .returning ∧ Fr none_ w w' := by
  have t0 : ∀ w, (Instr.typeAssert .nilIface 20 39 true).run Try.prog w = .ok (.tuple #[.agg #[.int .i64 0], .bool false]) w := fun _ => by kernel_rfl
  refine callsD_of_wpS Try.func14 rfl fun c₀ cs hu => ?_
  simp only [Try.ntmps14, List.size_toArray, List.length_cons, List.length_nil, Nat.reduceAdd, Nat.reduceSub, Array.replicate_succ, Array.replicate_zero, List.push_toArray, List.append_toArray, List.nil_append, List.cons_append]
  refine wpS_recover (o := _) (v := .nilIface) (cs' := c₀ :: cs) (w' := w) rfl rfl rfl (.inr ⟨by simp [recoverD, hu], rfl, rfl⟩) ?_
  go_wp2_with fail
  cases c₀
  simp only at hu
  subst hu
  exact ⟨rfl, _, rfl, _, results_none rfl _ _ _, rfl, rfl, (Fr.refl none_ w).alloc _⟩

set_option maxRecDepth 100000 in
set_option maxHeartbeats 4000000 in
theorem catch_panicking (r r2 : Nat) (hr : r ≠ r2) (n n0 : Int) (older : List PanicEntry) (w : World) (o0 o1 o2 o3 o4 o5 : Value)
    (hb : w.heap[r]? = some (.cells #[o0, o1, o2, o3, o4, o5] 28 (0, 0))) (hb2 : w.heap[r2]? = some (.cells #[.int .i64 n0] 29 (0, 0))) :
    CallsD Try.prog 14 #[.pointer (some ⟨r, 0, none⟩), .pointer (some ⟨r2, 0, none⟩)] (.panicking ({ v := .iface 39 (.agg #[.int .i64 n]), recovered := false } :: older)) w fun e u' w' => e = .returned (.tuple #[]) ∧
      u' = .panicking ({ v := .iface 39 (.agg #[.int .i64 n]), recovered := true } :: older) ∧ w'.heap[r]? = some (.cells #[.int .i64 0, .int .u64 0, .int .u64 0, .int .u64 0, .int .u64 0, .slice none 0 0] 28 (0, 0)) ∧
      w'.heap[r2]? = some (.cells #[.int .i64 n] 29 (0, 0)) ∧ Fr (fun k => k = r ∨ k = r2) w w' := by
  have t0 : ∀ w, (Instr.typeAssert (.iface 39 (.agg #[.int .i64 n])) 20 39 true).run Try.prog w = .ok (.tuple #[.agg #[.int .i64 n], .bool true]) w := fun _ => by kernel_rfl
  refine callsD_of_wpS Try.func14 rfl fun c₀ cs hu => ?_
  simp only [Try.ntmps14, List.size_toArray, List.length_cons, List.length_nil, Nat.reduceAdd, Nat.reduceSub, Array.replicate_succ, Array.replicate_zero, List.push_toArray, List.append_toArray, List.nil_append, List.cons_append]
  refine wpS_recover (o := _) (v := .iface 39 (.agg #[.int .i64 n])) (cs' := { c₀ with mode := .panicking ({ v := .iface 39 (.agg #[.int .i64 n]), recovered := true } :: older) } :: cs) (w' := w) rfl rfl rfl (.inl (by simp [recoverD, hu])) ?_
  have FA := (Fr.refl none_ w).alloc (.cells #[.int .i64 n] 39)
  have N0 := Lib.hid (alloc_new w (.cells #[.int .i64 n] 39))
  have B1 := Lib.hid (FA.at_ hb (fun h => h))
  have B2 := Lib.hid (FA.at_ hb2 (fun h => h))
  have HFA := Lib.hid FA
  have l1 := lt_of_block hb
  have l2 := lt_of_block hb2
  have HLT := Lib.hid (show ¬ r = w.heap.size ∧ ¬ r2 = w.heap.size by omega)
  clear hb hb2 FA l1 l2
  go_wp2_with fail
  have z0 : (w.alloc (.cells #[.int .i64 n] 39)).cell? ⟨r, 0, none⟩ = some o0 := cell_of_block B1.out rfl
  have z1 : (w.alloc (.cells #[.int .i64 n] 39)).cell? ⟨r, 1, none⟩ = some o1 := cell_of_block B1.out rfl
  have z2 : (w.alloc (.cells #[.int .i64 n] 39)).cell? ⟨r, 2, none⟩ = some o2 := cell_of_block B1.out rfl
  have z3 : (w.alloc (.cells #[.int .i64 n] 39)).cell? ⟨r, 3, none⟩ = some o3 := cell_of_block B1.out rfl
  have z4 : (w.alloc (.cells #[.int .i64 n] 39)).cell? ⟨r, 4, none⟩ = some o4 := cell_of_block B1.out rfl
  have z5 : (w.alloc (.cells #[.int .i64 n] 39)).cell? ⟨r, 5, none⟩ = some o5 := cell_of_block B1.out rfl
  have zf : ∀ o, (w.alloc (.cells #[.int .i64 n] 39)).frozen? ⟨r, o, none⟩ = false := fun o => free_of_block B1.out
  have y0 : (w.alloc (.cells #[.int .i64 n] 39)).cell? ⟨r2, 0, none⟩ = some (.int .i64 n0) := cell_of_block B2.out rfl
  have yf : ∀ o, (w.alloc (.cells #[.int .i64 n] 39)).frozen? ⟨r2, o, none⟩ = false := fun o => free_of_block B2.out
  have x0 : (w.alloc (.cells #[.int .i64 n] 39)).cell? ⟨w.heap.size, 0, none⟩ = some (.int .i64 n) := cell_of_block N0.out rfl
  have hlt : ¬ r = w.heap.size := HLT.out.1
  have hlt2 : ¬ r2 = w.heap.size := HLT.out.2
  generalize hW : w.alloc (.cells #[.int .i64 n] 39) = W at *
  clear hW
  go_region
  have hs6 := set_six B1.out (.int .i64 0) (.int .u64 0) (.int .u64 0) (.int .u64 0) (.int .u64 0) (.slice none 0 0)
  have hs2 := (fr_six (S := at1 r) (r := r) (Fr.refl _ W) (.inl rfl) (.int .i64 0) (.int .u64 0) (.int .u64 0) (.int .u64 0) (.int .u64 0) (.slice none 0 0)).at_ B2.out (by simp only [at1]; omega)
  have hf6 := fr_six (S := fun k => k = r ∨ k = r2) (r := r) (HFA.out.none) (.inl (.inl rfl)) (.int .i64 0) (.int .u64 0) (.int .u64 0) (.int .u64 0) (.int .u64 0) (.slice none 0 0)
  generalize hW6 : ((((((W.setCell ⟨r, 0, none⟩ (.int .i64 0)).setCell ⟨r, 1, none⟩ (.int .u64 0)).setCell ⟨r, 2, none⟩ (.int .u64 0)).setCell ⟨r, 3, none⟩ (.int .u64 0)).setCell ⟨r, 4, none⟩ (.int .u64 0)).setCell ⟨r, 5, none⟩ (.slice none 0 0)) = W6 at *
  clear hW6 z0 z1 z2 z3 z4 z5 zf y0 yf x0 B1 B2 N0 HFA t0
  have e1 := (Below.heap_setCell W6 ⟨r2, 0, none⟩ (.int .i64 n) r hr).trans hs6
  have e2 := heap_setCell W6 hs2 0 (.int .i64 n)
  have e3 := (hf6.setCell (p := ⟨r2, 0, none⟩) (.inl (.inr rfl)) (.int .i64 n)).drew
  refine ⟨rfl, _, rfl, _, results_none rfl _ _ _, rfl, rfl, ?_, ?_, ?_⟩
  · exact e1
  · exact e2
  · exact e3

/-- What Parse hands back: the two named results out of their variables. -/
theorem results_parse {fn : Func} (h : fn.results = #[.cell 2 28, .cell 3 29]) {tmps : Array Value} {r r2 : Nat} (hp : tmps.getD 2 undef = .pointer (some ⟨r, 0, none⟩)) (hp2 : tmps.getD 3 undef = .pointer (some ⟨r2, 0, none⟩)) {w : World} {v0 v1 v2 v3 v4 v5 v6 : Value} {t t2 : TypeId}
    (hb : w.heap[r]? = some (.cells #[v0, v1, v2, v3, v4, v5] t (0, 0))) (hb2 : w.heap[r2]? = some (.cells #[v6] t2 (0, 0))) : (results fn tmps).run Try.prog w = .ok (.tuple #[.agg #[v0, v1, v2, v3, v4, v5], v6]) w := by
  have c0 : w.cell? ⟨r, 0, none⟩ = some v0 := cell_of_block hb rfl
  have c1 : w.cell? ⟨r, 1, none⟩ = some v1 := cell_of_block hb rfl
  have c2 : w.cell? ⟨r, 2, none⟩ = some v2 := cell_of_block hb rfl
  have c3 : w.cell? ⟨r, 3, none⟩ = some v3 := cell_of_block hb rfl
  have c4 : w.cell? ⟨r, 4, none⟩ = some v4 := cell_of_block hb rfl
  have c5 : w.cell? ⟨r, 5, none⟩ = some v5 := cell_of_block hb rfl
  have c6 : w.cell? ⟨r2, 0, none⟩ = some v6 := cell_of_block hb2 rfl
  have hp' : tmps[2]?.getD undef = .pointer (some ⟨r, 0, none⟩) := by simpa using hp
  have hp2' : tmps[3]?.getD undef = .pointer (some ⟨r2, 0, none⟩) := by simpa using hp2
  simp [results, h, hp', hp2', go_sem, c0, c1, c2, c3, c4, c5, c6]

/-- What Parse comes to. -/
def GotP (w : World) (m : Except Int Rx) (e : Ending) (w' : World) : Prop :=
  match m with
  | .ok r => ∃ v, e = .returned (.tuple #[v, .int .i64 0]) ∧ RxV (fun k => w.heap.size ≤ k) w' v r ∧ Fr none_ w w'
  | .error n => e = .returned (.tuple #[.agg #[.int .i64 0, .int .u64 0, .int .u64 0, .int .u64 0, .int .u64 0, .slice none 0 0], .int .i64 n]) ∧ Fr none_ w w'

set_option maxRecDepth 100000 in
set_option maxHeartbeats 4000000 in
theorem parse_long (s : ByteArray) (hs : s.size < 9223372036854775808) (hl : 200 < s.size) (w : World) :
    Calls Try.prog 5 #[.string s] w (GotP w (.error 4)) := by
  have hl2 : (200 : Int) < (s.size : Int) := by omega
  have hmf : ∀ (fn : Fn) (first cap : Array Value) (w : World), (Instr.makeFunc fn first cap).run Try.prog w = .ok (.func fn first cap) w := fun _ _ _ _ => rfl
  go_enter_defers Try.func5, Try.ntmps5
  go_wp2_with fail
  obtain ⟨n1, n2⟩ := alloc_new2 w (.cells #[.int .i64 0, .int .u64 0, .int .u64 0, .int .u64 0, .int .u64 0, .slice none 0 0] 28) (.cells #[.int .i64 4] 29)
  have F0 := ((Fr.refl none_ w).alloc (.cells #[.int .i64 0, .int .u64 0, .int .u64 0, .int .u64 0, .int .u64 0, .slice none 0 0] 28)).alloc (.cells #[.int .i64 4] 29)
  exact ⟨_, results_parse rfl rfl rfl n1 n2, rfl, F0⟩
set_option maxRecDepth 100000 in
set_option maxHeartbeats 4000000 in
theorem parse_ways_err (s : ByteArray) (hs : s.size ≤ 200) (k : Nat) (w : World) (en : Int) (hw : waysB s k 0 = some (.error en)) :
    Calls Try.prog 5 #[.string s] w (GotP w (.error en)) := by
  have hl2 : (s.size : Int) ≤ 200 := by omega
  have hs1 : s.size ≤ 1000 := by omega
  have hmf : ∀ (fn : Fn) (first cap : Array Value) (w : World), (Instr.makeFunc fn first cap).run Try.prog w = .ok (.func fn first cap) w := fun _ _ _ _ => rfl
  have F0 := (((Fr.refl none_ w).alloc (.cells #[.int .i64 0, .int .u64 0, .int .u64 0, .int .u64 0, .int .u64 0, .slice none 0 0] 28)).alloc (.cells #[.int .i64 0] 29)).alloc (rdObj s 0)
  obtain ⟨n1, n2⟩ := alloc_new2 w (.cells #[.int .i64 0, .int .u64 0, .int .u64 0, .int .u64 0, .int .u64 0, .slice none 0 0] 28) (.cells #[.int .i64 0] 29)
  have n3 := alloc_new ((w.alloc (.cells #[.int .i64 0, .int .u64 0, .int .u64 0, .int .u64 0, .int .u64 0, .slice none 0 0] 28)).alloc (.cells #[.int .i64 0] 29)) (rdObj s 0)
  have hz : ((w.alloc (.cells #[.int .i64 0, .int .u64 0, .int .u64 0, .int .u64 0, .int .u64 0, .slice none 0 0] 28)).alloc (.cells #[.int .i64 0] 29)).heap.size = w.heap.size + 2 := by simp
  rw [hz] at n3
  have N1 := Lib.hid (((Fr.refl none_ ((w.alloc (.cells #[.int .i64 0, .int .u64 0, .int .u64 0, .int .u64 0, .int .u64 0, .slice none 0 0] 28)).alloc (.cells #[.int .i64 0] 29))).alloc (rdObj s 0)).at_ n1 (fun h => h))
  have N2 := Lib.hid (((Fr.refl none_ ((w.alloc (.cells #[.int .i64 0, .int .u64 0, .int .u64 0, .int .u64 0, .int .u64 0, .slice none 0 0] 28)).alloc (.cells #[.int .i64 0] 29))).alloc (rdObj s 0)).at_ n2 (fun h => h))
  have N3 := Lib.hid n3
  have HF0 := Lib.hid F0
  have E1 := Lib.hid (show ¬ at1 (w.heap.size + 2) w.heap.size by simp only [at1]; omega)
  have E2 := Lib.hid (show ¬ at1 (w.heap.size + 2) (w.heap.size + 1) by simp only [at1]; omega)
  have E3 := Lib.hid (show ¬ at1 w.heap.size (w.heap.size + 2) by simp only [at1]; omega)
  have E4 := Lib.hid (show ¬ at1 w.heap.size (w.heap.size + 1) by simp only [at1]; omega)
  have S0 := Lib.hid (show (((w.alloc (.cells #[.int .i64 0, .int .u64 0, .int .u64 0, .int .u64 0, .int .u64 0, .slice none 0 0] 28)).alloc (.cells #[.int .i64 0] 29)).alloc (rdObj s 0)).heap.size = w.heap.size + 3 by simp)
  have HR := Lib.hid (reader_all s hs1 k).2.2
  clear n1 n2 n3 F0 hz
  have HW := Lib.hid hw
  clear hw
  go_enter_defers Try.func5, Try.ntmps5
  go_wp2_with fail
  refine (HR.out 0 (w.heap.size + 2) _ _ (by omega) N3.out HW.out).mono ?_
  rintro e wa ⟨rfl, Fa⟩
  have N1a := Fa.at_ N1.out E1.out
  have N2a := Fa.at_ N2.out E2.out
  have HFa := Lib.hid (HF0.out.trans Fa (fun i hi hh => by simp only [at1] at hh; omega))
  clear Fa
  go_wp2_with fail
  refine leaves_cons (f := 14) (args := #[.pointer (some ⟨w.heap.size, 0, none⟩), .pointer (some ⟨w.heap.size + 1, 0, none⟩)]) (by simp) (by simp [go_sem]) ?_
  refine (catch_panicking w.heap.size (w.heap.size + 1) (by omega) en 0 [] _ _ _ _ _ _ _ N1a N2a).mono ?_
  rintro e u' w3 ⟨rfl, rfl, h1, h2, F3⟩
  exact ⟨_, results_parse rfl rfl rfl h1 h2, rfl, HFa.out.trans F3 (fun i hi hh => by rcases hh with h | h <;> omega)⟩
set_option maxRecDepth 100000 in
set_option maxHeartbeats 4000000 in
theorem parse_more (s : ByteArray) (hs : s.size ≤ 200) (k : Nat) (w : World) (k' : Int) (x0' x1' x2' x3' : Nat) (xids : List Rx) (q : Nat) (hw : waysB s k 0 = some (.ok (.mk k' x0' x1' x2' x3' xids, q))) (hq : q < s.size) :
    Calls Try.prog 5 #[.string s] w (GotP w (.error 5)) := by
  have hl2 : (s.size : Int) ≤ 200 := by omega
  have hs1 : s.size ≤ 1000 := by omega
  have hmf : ∀ (fn : Fn) (first cap : Array Value) (w : World), (Instr.makeFunc fn first cap).run Try.prog w = .ok (.func fn first cap) w := fun _ _ _ _ => rfl
  have F0 := (((Fr.refl none_ w).alloc (.cells #[.int .i64 0, .int .u64 0, .int .u64 0, .int .u64 0, .int .u64 0, .slice none 0 0] 28)).alloc (.cells #[.int .i64 0] 29)).alloc (rdObj s 0)
  obtain ⟨n1, n2⟩ := alloc_new2 w (.cells #[.int .i64 0, .int .u64 0, .int .u64 0, .int .u64 0, .int .u64 0, .slice none 0 0] 28) (.cells #[.int .i64 0] 29)
  have n3 := alloc_new ((w.alloc (.cells #[.int .i64 0, .int .u64 0, .int .u64 0, .int .u64 0, .int .u64 0, .slice none 0 0] 28)).alloc (.cells #[.int .i64 0] 29)) (rdObj s 0)
  have hz : ((w.alloc (.cells #[.int .i64 0, .int .u64 0, .int .u64 0, .int .u64 0, .int .u64 0, .slice none 0 0] 28)).alloc (.cells #[.int .i64 0] 29)).heap.size = w.heap.size + 2 := by simp
  rw [hz] at n3
  have N1 := Lib.hid (((Fr.refl none_ ((w.alloc (.cells #[.int .i64 0, .int .u64 0, .int .u64 0, .int .u64 0, .int .u64 0, .slice none 0 0] 28)).alloc (.cells #[.int .i64 0] 29))).alloc (rdObj s 0)).at_ n1 (fun h => h))
  have N2 := Lib.hid (((Fr.refl none_ ((w.alloc (.cells #[.int .i64 0, .int .u64 0, .int .u64 0, .int .u64 0, .int .u64 0, .slice none 0 0] 28)).alloc (.cells #[.int .i64 0] 29))).alloc (rdObj s 0)).at_ n2 (fun h => h))
  have N3 := Lib.hid n3
  have HF0 := Lib.hid F0
  have E1 := Lib.hid (show ¬ at1 (w.heap.size + 2) w.heap.size by simp only [at1]; omega)
  have E2 := Lib.hid (show ¬ at1 (w.heap.size + 2) (w.heap.size + 1) by simp only [at1]; omega)
  have E3 := Lib.hid (show ¬ at1 w.heap.size (w.heap.size + 2) by simp only [at1]; omega)
  have E4 := Lib.hid (show ¬ at1 w.heap.size (w.heap.size + 1) by simp only [at1]; omega)
  have S0 := Lib.hid (show (((w.alloc (.cells #[.int .i64 0, .int .u64 0, .int .u64 0, .int .u64 0, .int .u64 0, .slice none 0 0] 28)).alloc (.cells #[.int .i64 0] 29)).alloc (rdObj s 0)).heap.size = w.heap.size + 3 by simp)
  have HR := Lib.hid (reader_all s hs1 k).2.2
  clear n1 n2 n3 F0 hz
  have HW := Lib.hid hw
  clear hw
  have hq2 : (q : Int) < (s.size : Int) := by omega
  go_enter_defers Try.func5, Try.ntmps5
  go_wp2_with fail
  refine (HR.out 0 (w.heap.size + 2) _ _ (by omega) N3.out HW.out).mono ?_
  rintro e wa ⟨v, rfl, hv, hba, Fa⟩
  obtain ⟨va, vcap, rfl, hvc, hvl⟩ := hv.open_
  have HVL := Lib.hid hvl
  have N1a := Lib.hid (Fa.at_ N1.out E1.out)
  have N2a := Lib.hid (Fa.at_ N2.out E2.out)
  have HBa := Lib.hid hba
  have HFa := Lib.hid (HF0.out.trans Fa (fun i hi hh => by simp only [at1] at hh; omega))
  have HSa := Lib.hid Fa.size
  obtain ⟨z0, z1, z2, z3, z4, z5⟩ := six N1a.out
  have zf : ∀ o, wa.frozen? ⟨w.heap.size, o, none⟩ = false := fun o => free_of_block N1a.out
  have y0 : wa.cell? ⟨w.heap.size + 1, 0, none⟩ = some (.int .i64 0) := cell_of_block N2a.out rfl
  have yf : ∀ o, wa.frozen? ⟨w.heap.size + 1, o, none⟩ = false := fun o => free_of_block N2a.out
  have x0 : wa.cell? ⟨w.heap.size + 2, 0, none⟩ = some (.string s) := cell_of_block HBa.out rfl
  have x1 : wa.cell? ⟨w.heap.size + 2, 1, none⟩ = some (.int .i64 q) := cell_of_block HBa.out rfl
  clear hvl hv hba Fa
  go_wp2_with fail
  have hn1 := Lib.hid (set_six N1a.out (.int .i64 k') (.int .u64 x0') (.int .u64 x1') (.int .u64 x2') (.int .u64 x3') (.slice va xids.length vcap))
  have fx := fr_six (S := at1 w.heap.size) (r := w.heap.size) (Fr.refl _ wa) (.inl rfl) (.int .i64 k') (.int .u64 x0') (.int .u64 x1') (.int .u64 x2') (.int .u64 x3') (.slice va xids.length vcap)
  have hn2 := Lib.hid (fx.at_ N2a.out E4.out)
  have hf1 := Lib.hid (fr_six HFa.out (.inr (Nat.le_refl _)) (.int .i64 k') (.int .u64 x0') (.int .u64 x1') (.int .u64 x2') (.int .u64 x3') (.slice va xids.length vcap))
  have HV1 := Lib.hid (RxL.move (fun i hi hlt => fx.block i hlt (by
    have := HSa.out
    have := S0.out
    simp only [at1]
    rcases hi with hi | hi
    · exact hi.elim
    · omega)) xids va 0 HVL.out)
  clear fx HVL
  refine (fail_any _ _).mono ?_
  rintro e wf ⟨rfl, rfl⟩
  go_wp2_with fail
  refine leaves_cons (f := 14) (args := #[.pointer (some ⟨w.heap.size, 0, none⟩), .pointer (some ⟨w.heap.size + 1, 0, none⟩)]) (by simp) (by simp [go_sem]) ?_
  refine (catch_panicking w.heap.size (w.heap.size + 1) (by omega) 5 0 [] _ _ _ _ _ _ _ hn1.out hn2.out).mono ?_
  rintro e u' w3 ⟨rfl, rfl, h1, h2, F3⟩
  exact ⟨_, results_parse rfl rfl rfl h1 h2, rfl, hf1.out.trans F3 (fun i hi hh => by rcases hh with h | h <;> omega)⟩
set_option maxRecDepth 100000 in
set_option maxHeartbeats 4000000 in
theorem parse_great (s : ByteArray) (hs : s.size ≤ 200) (k : Nat) (w : World) (k' : Int) (x0' x1' x2' x3' : Nat) (xids : List Rx) (q : Nat) (hw : waysB s k 0 = some (.ok (.mk k' x0' x1' x2' x3' xids, q))) (hq : s.size ≤ q) (hsz : (Rx.mk k' x0' x1' x2' x3' xids).size ≤ 600000000) (en : Int) (hf : fitR (.mk k' x0' x1' x2' x3' xids) = .error en) :
    Calls Try.prog 5 #[.string s] w (GotP w (.error en)) := by
  have hl2 : (s.size : Int) ≤ 200 := by omega
  have hs1 : s.size ≤ 1000 := by omega
  have hmf : ∀ (fn : Fn) (first cap : Array Value) (w : World), (Instr.makeFunc fn first cap).run Try.prog w = .ok (.func fn first cap) w := fun _ _ _ _ => rfl
  have F0 := (((Fr.refl none_ w).alloc (.cells #[.int .i64 0, .int .u64 0, .int .u64 0, .int .u64 0, .int .u64 0, .slice none 0 0] 28)).alloc (.cells #[.int .i64 0] 29)).alloc (rdObj s 0)
  obtain ⟨n1, n2⟩ := alloc_new2 w (.cells #[.int .i64 0, .int .u64 0, .int .u64 0, .int .u64 0, .int .u64 0, .slice none 0 0] 28) (.cells #[.int .i64 0] 29)
  have n3 := alloc_new ((w.alloc (.cells #[.int .i64 0, .int .u64 0, .int .u64 0, .int .u64 0, .int .u64 0, .slice none 0 0] 28)).alloc (.cells #[.int .i64 0] 29)) (rdObj s 0)
  have hz : ((w.alloc (.cells #[.int .i64 0, .int .u64 0, .int .u64 0, .int .u64 0, .int .u64 0, .slice none 0 0] 28)).alloc (.cells #[.int .i64 0] 29)).heap.size = w.heap.size + 2 := by simp
  rw [hz] at n3
  have N1 := Lib.hid (((Fr.refl none_ ((w.alloc (.cells #[.int .i64 0, .int .u64 0, .int .u64 0, .int .u64 0, .int .u64 0, .slice none 0 0] 28)).alloc (.cells #[.int .i64 0] 29))).alloc (rdObj s 0)).at_ n1 (fun h => h))
  have N2 := Lib.hid (((Fr.refl none_ ((w.alloc (.cells #[.int .i64 0, .int .u64 0, .int .u64 0, .int .u64 0, .int .u64 0, .slice none 0 0] 28)).alloc (.cells #[.int .i64 0] 29))).alloc (rdObj s 0)).at_ n2 (fun h => h))
  have N3 := Lib.hid n3
  have HF0 := Lib.hid F0
  have E1 := Lib.hid (show ¬ at1 (w.heap.size + 2) w.heap.size by simp only [at1]; omega)
  have E2 := Lib.hid (show ¬ at1 (w.heap.size + 2) (w.heap.size + 1) by simp only [at1]; omega)
  have E3 := Lib.hid (show ¬ at1 w.heap.size (w.heap.size + 2) by simp only [at1]; omega)
  have E4 := Lib.hid (show ¬ at1 w.heap.size (w.heap.size + 1) by simp only [at1]; omega)
  have S0 := Lib.hid (show (((w.alloc (.cells #[.int .i64 0, .int .u64 0, .int .u64 0, .int .u64 0, .int .u64 0, .slice none 0 0] 28)).alloc (.cells #[.int .i64 0] 29)).alloc (rdObj s 0)).heap.size = w.heap.size + 3 by simp)
  have HR := Lib.hid (reader_all s hs1 k).2.2
  clear n1 n2 n3 F0 hz
  have HW := Lib.hid hw
  have HFIT := Lib.hid hf
  clear hw hf
  have hq2 : (s.size : Int) ≤ (q : Int) := by omega
  go_enter_defers Try.func5, Try.ntmps5
  go_wp2_with fail
  refine (HR.out 0 (w.heap.size + 2) _ _ (by omega) N3.out HW.out).mono ?_
  rintro e wa ⟨v, rfl, hv, hba, Fa⟩
  obtain ⟨va, vcap, rfl, hvc, hvl⟩ := hv.open_
  have HVL := Lib.hid hvl
  have N1a := Lib.hid (Fa.at_ N1.out E1.out)
  have N2a := Lib.hid (Fa.at_ N2.out E2.out)
  have HBa := Lib.hid hba
  have HFa := Lib.hid (HF0.out.trans Fa (fun i hi hh => by simp only [at1] at hh; omega))
  have HSa := Lib.hid Fa.size
  obtain ⟨z0, z1, z2, z3, z4, z5⟩ := six N1a.out
  have zf : ∀ o, wa.frozen? ⟨w.heap.size, o, none⟩ = false := fun o => free_of_block N1a.out
  have y0 : wa.cell? ⟨w.heap.size + 1, 0, none⟩ = some (.int .i64 0) := cell_of_block N2a.out rfl
  have yf : ∀ o, wa.frozen? ⟨w.heap.size + 1, o, none⟩ = false := fun o => free_of_block N2a.out
  have x0 : wa.cell? ⟨w.heap.size + 2, 0, none⟩ = some (.string s) := cell_of_block HBa.out rfl
  have x1 : wa.cell? ⟨w.heap.size + 2, 1, none⟩ = some (.int .i64 q) := cell_of_block HBa.out rfl
  clear hvl hv hba Fa
  go_wp2_with fail
  have hn1 := Lib.hid (set_six N1a.out (.int .i64 k') (.int .u64 x0') (.int .u64 x1') (.int .u64 x2') (.int .u64 x3') (.slice va xids.length vcap))
  have fx := fr_six (S := at1 w.heap.size) (r := w.heap.size) (Fr.refl _ wa) (.inl rfl) (.int .i64 k') (.int .u64 x0') (.int .u64 x1') (.int .u64 x2') (.int .u64 x3') (.slice va xids.length vcap)
  have hn2 := Lib.hid (fx.at_ N2a.out E4.out)
  have hf1 := Lib.hid (fr_six HFa.out (.inr (Nat.le_refl _)) (.int .i64 k') (.int .u64 x0') (.int .u64 x1') (.int .u64 x2') (.int .u64 x3') (.slice va xids.length vcap))
  have HV1 := Lib.hid (RxL.move (fun i hi hlt => fx.block i hlt (by
    have := HSa.out
    have := S0.out
    simp only [at1]
    rcases hi with hi | hi
    · exact hi.elim
    · omega)) xids va 0 HVL.out)
  clear fx HVL
  refine (fit_err (.mk k' x0' x1' x2' x3' xids) en _ _ _ (RxV.mk_ hvc HV1.out) (by omega) HFIT.out).mono ?_
  rintro e wf ⟨rfl, Ff⟩
  have hn1f := Ff.at_ hn1.out (fun h => h)
  have hn2f := Ff.at_ hn2.out (fun h => h)
  have HFf := Lib.hid (hf1.out.tr Ff)
  clear Ff
  go_wp2_with fail
  refine leaves_cons (f := 14) (args := #[.pointer (some ⟨w.heap.size, 0, none⟩), .pointer (some ⟨w.heap.size + 1, 0, none⟩)]) (by simp) (by simp [go_sem]) ?_
  refine (catch_panicking w.heap.size (w.heap.size + 1) (by omega) en 0 [] _ _ _ _ _ _ _ hn1f hn2f).mono ?_
  rintro e u' w3 ⟨rfl, rfl, h1, h2, F3⟩
  exact ⟨_, results_parse rfl rfl rfl h1 h2, rfl, HFf.out.trans F3 (fun i hi hh => by rcases hh with h | h <;> omega)⟩
set_option maxRecDepth 100000 in
set_option maxHeartbeats 4000000 in
theorem parse_fits (s : ByteArray) (hs : s.size ≤ 200) (k : Nat) (w : World) (k' : Int) (x0' x1' x2' x3' : Nat) (xids : List Rx) (q : Nat) (hw : waysB s k 0 = some (.ok (.mk k' x0' x1' x2' x3' xids, q))) (hq : s.size ≤ q) (hsz : (Rx.mk k' x0' x1' x2' x3' xids).size ≤ 600000000) (r' : Rx) (hf : fitR (.mk k' x0' x1' x2' x3' xids) = .ok r') :
    Calls Try.prog 5 #[.string s] w (GotP w (.ok r')) := by
  have hl2 : (s.size : Int) ≤ 200 := by omega
  have hs1 : s.size ≤ 1000 := by omega
  have hmf : ∀ (fn : Fn) (first cap : Array Value) (w : World), (Instr.makeFunc fn first cap).run Try.prog w = .ok (.func fn first cap) w := fun _ _ _ _ => rfl
  have F0 := (((Fr.refl none_ w).alloc (.cells #[.int .i64 0, .int .u64 0, .int .u64 0, .int .u64 0, .int .u64 0, .slice none 0 0] 28)).alloc (.cells #[.int .i64 0] 29)).alloc (rdObj s 0)
  obtain ⟨n1, n2⟩ := alloc_new2 w (.cells #[.int .i64 0, .int .u64 0, .int .u64 0, .int .u64 0, .int .u64 0, .slice none 0 0] 28) (.cells #[.int .i64 0] 29)
  have n3 := alloc_new ((w.alloc (.cells #[.int .i64 0, .int .u64 0, .int .u64 0, .int .u64 0, .int .u64 0, .slice none 0 0] 28)).alloc (.cells #[.int .i64 0] 29)) (rdObj s 0)
  have hz : ((w.alloc (.cells #[.int .i64 0, .int .u64 0, .int .u64 0, .int .u64 0, .int .u64 0, .slice none 0 0] 28)).alloc (.cells #[.int .i64 0] 29)).heap.size = w.heap.size + 2 := by simp
  rw [hz] at n3
  have N1 := Lib.hid (((Fr.refl none_ ((w.alloc (.cells #[.int .i64 0, .int .u64 0, .int .u64 0, .int .u64 0, .int .u64 0, .slice none 0 0] 28)).alloc (.cells #[.int .i64 0] 29))).alloc (rdObj s 0)).at_ n1 (fun h => h))
  have N2 := Lib.hid (((Fr.refl none_ ((w.alloc (.cells #[.int .i64 0, .int .u64 0, .int .u64 0, .int .u64 0, .int .u64 0, .slice none 0 0] 28)).alloc (.cells #[.int .i64 0] 29))).alloc (rdObj s 0)).at_ n2 (fun h => h))
  have N3 := Lib.hid n3
  have HF0 := Lib.hid F0
  have E1 := Lib.hid (show ¬ at1 (w.heap.size + 2) w.heap.size by simp only [at1]; omega)
  have E2 := Lib.hid (show ¬ at1 (w.heap.size + 2) (w.heap.size + 1) by simp only [at1]; omega)
  have E3 := Lib.hid (show ¬ at1 w.heap.size (w.heap.size + 2) by simp only [at1]; omega)
  have E4 := Lib.hid (show ¬ at1 w.heap.size (w.heap.size + 1) by simp only [at1]; omega)
  have S0 := Lib.hid (show (((w.alloc (.cells #[.int .i64 0, .int .u64 0, .int .u64 0, .int .u64 0, .int .u64 0, .slice none 0 0] 28)).alloc (.cells #[.int .i64 0] 29)).alloc (rdObj s 0)).heap.size = w.heap.size + 3 by simp)
  have HR := Lib.hid (reader_all s hs1 k).2.2
  clear n1 n2 n3 F0 hz
  have HW := Lib.hid hw
  have HFIT := Lib.hid hf
  clear hw hf
  have hq2 : (s.size : Int) ≤ (q : Int) := by omega
  go_enter_defers Try.func5, Try.ntmps5
  go_wp2_with fail
  refine (HR.out 0 (w.heap.size + 2) _ _ (by omega) N3.out HW.out).mono ?_
  rintro e wa ⟨v, rfl, hv, hba, Fa⟩
  obtain ⟨va, vcap, rfl, hvc, hvl⟩ := hv.open_
  have HVL := Lib.hid hvl
  have N1a := Lib.hid (Fa.at_ N1.out E1.out)
  have N2a := Lib.hid (Fa.at_ N2.out E2.out)
  have HBa := Lib.hid hba
  have HFa := Lib.hid (HF0.out.trans Fa (fun i hi hh => by simp only [at1] at hh; omega))
  have HSa := Lib.hid Fa.size
  obtain ⟨z0, z1, z2, z3, z4, z5⟩ := six N1a.out
  have zf : ∀ o, wa.frozen? ⟨w.heap.size, o, none⟩ = false := fun o => free_of_block N1a.out
  have y0 : wa.cell? ⟨w.heap.size + 1, 0, none⟩ = some (.int .i64 0) := cell_of_block N2a.out rfl
  have yf : ∀ o, wa.frozen? ⟨w.heap.size + 1, o, none⟩ = false := fun o => free_of_block N2a.out
  have x0 : wa.cell? ⟨w.heap.size + 2, 0, none⟩ = some (.string s) := cell_of_block HBa.out rfl
  have x1 : wa.cell? ⟨w.heap.size + 2, 1, none⟩ = some (.int .i64 q) := cell_of_block HBa.out rfl
  clear hvl hv hba Fa
  go_wp2_with fail
  have hn1 := Lib.hid (set_six N1a.out (.int .i64 k') (.int .u64 x0') (.int .u64 x1') (.int .u64 x2') (.int .u64 x3') (.slice va xids.length vcap))
  have fx := fr_six (S := at1 w.heap.size) (r := w.heap.size) (Fr.refl _ wa) (.inl rfl) (.int .i64 k') (.int .u64 x0') (.int .u64 x1') (.int .u64 x2') (.int .u64 x3') (.slice va xids.length vcap)
  have hn2 := Lib.hid (fx.at_ N2a.out E4.out)
  have hf1 := Lib.hid (fr_six HFa.out (.inr (Nat.le_refl _)) (.int .i64 k') (.int .u64 x0') (.int .u64 x1') (.int .u64 x2') (.int .u64 x3') (.slice va xids.length vcap))
  have HV1 := Lib.hid (RxL.move (fun i hi hlt => fx.block i hlt (by
    have := HSa.out
    have := S0.out
    simp only [at1]
    rcases hi with hi | hi
    · exact hi.elim
    · omega)) xids va 0 HVL.out)
  clear fx HVL
  refine (fit_ok (.mk k' x0' x1' x2' x3' xids) r' _ _ _ (RxV.mk_ hvc HV1.out) (by omega) HFIT.out).mono ?_
  rintro e wf ⟨rfl, rfl, Ff⟩
  have N1f := Lib.hid (Ff.at_ hn1.out (fun h => h))
  have N2f := Lib.hid (Ff.at_ hn2.out (fun h => h))
  have HFf := Lib.hid (hf1.out.tr Ff)
  have HVf := Lib.hid (RxL.move (fun i hi hlt => Ff.block i hlt (fun h => h)) xids va 0 HV1.out)
  clear Ff z0 z1 z2 z3 z4 z5 zf y0 yf x0 x1
  obtain ⟨z0, z1, z2, z3, z4, z5⟩ := six N1f.out
  have zf : ∀ o, wf.frozen? ⟨w.heap.size, o, none⟩ = false := fun o => free_of_block N1f.out
  have y0 : wf.cell? ⟨w.heap.size + 1, 0, none⟩ = some (.int .i64 0) := cell_of_block N2f.out rfl
  have yf : ∀ o, wf.frozen? ⟨w.heap.size + 1, o, none⟩ = false := fun o => free_of_block N2f.out
  go_wp2_with fail
  have hs6 := set_six N1f.out (.int .i64 k') (.int .u64 x0') (.int .u64 x1') (.int .u64 x2') (.int .u64 x3') (.slice va xids.length vcap)
  have fx := fr_six (S := at1 w.heap.size) (r := w.heap.size) (Fr.refl _ wf) (.inl rfl) (.int .i64 k') (.int .u64 x0') (.int .u64 x1') (.int .u64 x2') (.int .u64 x3') (.slice va xids.length vcap)
  have hs2 := fx.at_ N2f.out E4.out
  have hf6 := fr_six HFf.out (.inr (Nat.le_refl _)) (.int .i64 k') (.int .u64 x0') (.int .u64 x1') (.int .u64 x2') (.int .u64 x3') (.slice va xids.length vcap)
  have hv6 := RxL.move (fun i hi hlt => fx.block i hlt (by
    have := S0.out
    simp only [at1]
    rcases hi with hi | hi
    · exact hi.elim
    · omega)) xids va 0 HVf.out
  generalize hW6 : ((((((wf.setCell ⟨w.heap.size, 0, none⟩ (.int .i64 k')).setCell ⟨w.heap.size, 1, none⟩ (.int .u64 x0')).setCell ⟨w.heap.size, 2, none⟩ (.int .u64 x1')).setCell ⟨w.heap.size, 3, none⟩ (.int .u64 x2')).setCell ⟨w.heap.size, 4, none⟩ (.int .u64 x3')).setCell ⟨w.heap.size, 5, none⟩ (.slice va xids.length vcap)) = W6 at *
  clear hW6 z0 z1 z2 z3 z4 z5 zf y0 yf N1f N2f HVf fx
  have e1 := (Below.heap_setCell W6 ⟨w.heap.size + 1, 0, none⟩ (.int .i64 0) w.heap.size (by simp only []; omega)).trans hs6
  have e2 := heap_setCell W6 hs2 0 (.int .i64 0)
  have e3 := hf6.setCell (p := ⟨w.heap.size + 1, 0, none⟩) (.inr (Nat.le_succ _)) (.int .i64 0)
  have e4 := RxL.move (w' := W6.setCell ⟨w.heap.size + 1, 0, none⟩ (.int .i64 0)) (fun i hi hlt => Below.heap_setCell W6 ⟨w.heap.size + 1, 0, none⟩ (.int .i64 0) i (by
    have := S0.out
    simp only []
    rcases hi with hi | hi
    · exact hi.elim
    · omega)) xids va 0 hv6
  generalize hW7 : W6.setCell ⟨w.heap.size + 1, 0, none⟩ (.int .i64 0) = W7 at *
  refine leaves_cons (f := 14) (args := #[.pointer (some ⟨w.heap.size, 0, none⟩), .pointer (some ⟨w.heap.size + 1, 0, none⟩)]) (by simp) (by simp [go_sem]) ?_
  refine (catch_idle _ _ _).mono ?_
  rintro e u' w3 ⟨rfl, rfl, F3⟩
  refine ⟨_, results_parse rfl rfl rfl (F3.at_ e1 (fun h => h)) (F3.at_ e2 (fun h => h)), _, rfl, ?_, e3.tr F3⟩
  refine (RxV.mk_ hvc (RxL.move (fun i hi hlt => F3.block i hlt (fun h => h)) xids va 0 e4)).mono (fun i hi => ?_)
  have := S0.out
  rcases hi with hi | hi
  · exact hi.elim
  · omega
theorem parse_any (s : ByteArray) (hs : s.size < 9223372036854775808) (k : Nat) (m : Except Int Rx) (hm : parseB s k = some m) (w : World) :
    Calls Try.prog 5 #[.string s] w (GotP w m) := by
  unfold parseB at hm
  by_cases hl : s.size > 200
  · rw [if_pos hl] at hm
    simp only [Option.some.injEq] at hm
    subst hm
    exact parse_long s hs hl w
  · rw [if_neg hl] at hm
    have hs2 : s.size ≤ 200 := by omega
    cases hw : waysB s k 0 with
    | none => simp [hw] at hm
    | some mw =>
      cases mw with
      | error en =>
        have : m = .error en := by simpa [hw] using hm.symm
        subst this
        exact parse_ways_err s hs2 k w en hw
      | ok y =>
        obtain ⟨⟨k', x0, x1, x2, x3, xids⟩, q⟩ := y
        have hsz := ((all_at (s := s) (by omega) k).1 0 q _ (Nat.zero_le _) hw).2.2
        simp only [hw] at hm
        by_cases hq : q < s.size
        · rw [if_pos hq] at hm
          simp only [Option.some.injEq] at hm
          subst hm
          exact parse_more s hs2 k w k' x0 x1 x2 x3 xids q hw hq
        · rw [if_neg hq] at hm
          cases hf : fitR (.mk k' x0 x1 x2 x3 xids) with
          | error en =>
            have : m = .error en := by simpa [hf] using hm.symm
            subst this
            exact parse_great s hs2 k w k' x0 x1 x2 x3 xids q hw (by omega) hsz en hf
          | ok r' =>
            have : m = .ok r' := by simpa [hf] using hm.symm
            subst this
            exact parse_fits s hs2 k w k' x0 x1 x2 x3 xids q hw (by omega) hsz r' hf
end Go.Proofs.Ytjbmppbciiemkaa
