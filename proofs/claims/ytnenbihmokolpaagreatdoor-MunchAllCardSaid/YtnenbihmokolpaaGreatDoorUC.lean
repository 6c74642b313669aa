/-
  munch.All: the walk.
  The document's example of layer 7: plain.
  The document's example of layer 7: the walk.
  One set in another: plain, and the walk of bits.In.
  A part of a text; what a run tells is a set.
  The table of math/bits, as the row lays it.
  A row of pairs that came in.
-/
import Derived.Test.YtnenbihmokolpaaGreatDoorUB
import Derived.LaidLaws
import Derived.Lib.LaidTab
import Derived.Test.YtnenbihmokolpaaGreatDoorRows
import Derived.Deep.Slices
namespace Go.Proofs.YtnenbihmokolpaaGreatDoor
open Go.RowKit Go.Shelf
attribute [local go_sem] Oper.semAt_some

def piecesV (l : List (Nat × Int)) : List Value := l.flatMap fun p => [Value.int .u64 (p.1 : Int), Value.int .i64 p.2]
def endM (l : List (Nat × Int)) : Int := (l.getLast?.map (·.2)).getD 0
theorem piecesV_snoc (l : List (Nat × Int)) (p : Nat × Int) : piecesV (l ++ [p]) = piecesV l ++ [.int .u64 (p.1 : Int), .int .i64 p.2] := by simp [piecesV]
theorem piecesV_length (l : List (Nat × Int)) : (piecesV l).length = l.length * 2 := by
  induction l with
  | nil => rfl
  | cons p l ih => rw [show piecesV (p :: l) = [.int .u64 (p.1 : Int), .int .i64 p.2] ++ piecesV l from rfl, List.length_append, ih, List.length_cons]; simp; omega
theorem endM_snoc (l : List (Nat × Int)) (p : Nat × Int) : endM (l ++ [p]) = p.2 := by simp [endM]

theorem piece_info3 : (Tryz.prog.info? 41).map (fun i => (i.zero, i.size, i.bytes)) = some (some (.agg #[.int .u64 0, .int .i64 0]), 2, 16) := by kernel_rfl

set_option maxRecDepth 100000 in
theorem meach_val (C : List Value) (s : ByteArray) (may : Nat) (a : Option Addr) (len cap : Nat) (w : World) :
    Calls Tryz.prog 24 #[.agg C.toArray, .string s, .int .u64 may, .slice a len cap] w fun e w' => e = .returned (.func (.func 53) #[] #[.pointer (some ⟨w.heap.size, 0, none⟩), .pointer (some ⟨w.heap.size + 1, 0, none⟩), .pointer (some ⟨w.heap.size + 1 + 1, 0, none⟩), .pointer (some ⟨w.heap.size + 1 + 1 + 1, 0, none⟩)]) ∧
      (((w.alloc (.cells C.toArray 26)).alloc (.cells #[.string s] 9)).alloc (.cells #[.int .u64 may] 28)).alloc (.cells #[.slice a len cap] 29) = w' := by
  have hmf : ∀ (fn : Fn) (first cap : Array Value) (w : World), (Instr.makeFunc fn first cap).run Tryz.prog w = .ok (.func fn first cap) w := fun _ _ _ _ => rfl
  go_enter Tryz.func24, Tryz.ntmps24
  go_wp2_with fail
  go_ret
  exact ⟨rfl, rfl⟩

/-- Between two rounds of All. -/
structure AllJ (b k : Nat) (w : World) (rec : Loop) (C : List Value) (s : ByteArray) (may : Nat) (a : Option Addr) (len cap : Nat) (pre : List (Nat × Int)) (W : World) : Prop where
  lv : ∃ v, W.heap[b + 1]? = some (.cells #[v] 32 (0, 0)) ∧ W.ownsRow (k + 2) 41 2 v pre.length (piecesV pre)
  at_ : W.heap[b + 1 + 1]? = some (.cells #[.int .i64 (endM pre)] 3 (0, 0))
  loop : W.heap[k + 1]? = some (.loop rec)
  dfr : W.heap[k]? = some (.deferred (some []))
  fr : Fr none_ w W
  sz : k + 2 ≤ W.heap.size
  b3 : W.heap[b + 1 + 1 + 1]? = some (.cells C.toArray 26 (0, 0))
  b4 : W.heap[b + 1 + 1 + 1 + 1]? = some (.cells #[.string s] 9 (0, 0))
  b5 : W.heap[b + 1 + 1 + 1 + 1 + 1]? = some (.cells #[.int .u64 (may : Int)] 28 (0, 0))
  b6 : W.heap[b + 1 + 1 + 1 + 1 + 1 + 1]? = some (.cells #[.slice a len cap] 29 (0, 0))
theorem AllJ.move {b k : Nat} {w : World} {rec : Loop} {C : List Value} {s : ByteArray} {may : Nat} {a : Option Addr} {len cap : Nat} {pre : List (Nat × Int)} {W W' : World} (h : AllJ b k w rec C s may a len cap pre W) (hf : Fr none_ W W') : AllJ b k w rec C s may a len cap pre W' :=
  ⟨h.lv.elim fun v q => ⟨v, hf.at_ q.1 (fun h => h), row_keep q.2 hf (fun _ _ h => h)⟩, hf.at_ h.at_ (fun h => h), hf.at_ h.loop (fun h => h), hf.at_ h.dfr (fun h => h), h.fr.tr hf, by have := hf.size; have := h.sz; omega,
    hf.at_ h.b3 (fun h => h), hf.at_ h.b4 (fun h => h), hf.at_ h.b5 (fun h => h), hf.at_ h.b6 (fun h => h)⟩

set_option maxRecDepth 100000 in
set_option maxHeartbeats 2000000 in
theorem all_any (D : Dfa) (v : Value) (s : ByteArray) (may : Nat) (ps : List (Int × Int)) (a : Option Addr) (len cap : Nat) (w : World) (h : DfaIn w v D) (ht : ∀ t ∈ D.tags, t < 18446744073709551616) (hmay : may < 18446744073709551616) (hs : s.size ≤ 1000000) (hp : PairsIn w a len ps) (hT : TabOk w) :
    Calls Tryz.prog 7 #[v, .string s, .int .u64 may, .slice a len cap] w fun e w' => ∃ u base, e = .returned (.tuple #[u, .int .i64 (endM (allM D (bytesN s) may ps))]) ∧ w'.ownsRow base 41 2 u (allM D (bytesN s) may ps).length (piecesV (allM D (bytesN s) may ps)) ∧ w.heap.size ≤ base ∧ Fr none_ w w' := by
  obtain ⟨C, rfl, hz, hone⟩ := h.cells
  have HD := Lib.hid h
  have HTB := Lib.hid ht
  have HP := Lib.hid hp
  have HT := Lib.hid hT
  have HB0 := Lib.hid (alloc_new w (.cells C.toArray 26))
  clear h ht hp hT hone
  refine (callsIn_wide (n := 5)).1 ?_
  refine callsIn_of_wp_marks Tryz.func7 rfl trivial ?_ rfl
  simp only [Tryz.ntmps7, List.size_toArray, List.length_cons, List.length_nil, Nat.reduceAdd, Nat.reduceSub, Array.replicate_succ, Array.replicate_zero, List.push_toArray, List.append_toArray, List.nil_append, List.cons_append]
  gi_wp2_with fail
  have HBX := Lib.hid ((((Fr.refl none_ (w.alloc (.cells C.toArray 26))).alloc (.cells #[.slice none 0 0] 32)).alloc (.cells #[.int .i64 0] 3)).at_ HB0.out (fun h => h))
  have HA3 := Lib.hid (alloc3 w (.cells C.toArray 26) (.cells #[.slice none 0 0] 32) (.cells #[.int .i64 0] 3))
  have hsz3 : (((w.alloc (.cells C.toArray 26)).alloc (.cells #[.slice none 0 0] 32)).alloc (.cells #[.int .i64 0] 3)).heap.size = w.heap.size + 1 + 1 + 1 := by simp
  have HSZ3 := Lib.hid hsz3
  clear hsz3
  refine wpIn_load_row 26 (.tmp 4) rfl w.heap.size rfl 26 C.toArray _ _ HBX.out Tryz.underlying26 rfl (by rw [List.size_toArray, hz]; exact dfa_info) ?_
  obtain ⟨w3, hw3⟩ : ∃ x, (((w.alloc (.cells C.toArray 26)).alloc (.cells #[.slice none 0 0] 32)).alloc (.cells #[.int .i64 0] 3)) = x := ⟨_, rfl⟩
  rw [hw3] at HA3 HSZ3 ⊢
  clear hw3 HBX HB0
  gi_wp2_with fail
  refine ⟨trivial, ?_⟩
  refine (callsIn_wide.2 (meach_val C s may a len cap _)).mono ?_
  rintro e w' ⟨rfl, rfl⟩
  rw [HSZ3.out]
  obtain ⟨b, hb⟩ : ∃ b, w.heap.size = b := ⟨_, rfl⟩
  have HBE := Lib.hid hb
  rw [hb] at HA3 HSZ3 ⊢
  have HST := Lib.hid (show ∀ rec, AllJ b (b + 1 + 1 + 1 + 1 + 1 + 1 + 1) w rec C s may a len cap [] (((((((w3.alloc (.cells C.toArray 26)).alloc (.cells #[.string s] 9)).alloc (.cells #[.int .u64 may] 28)).alloc (.cells #[.slice a len cap] 29))).alloc (.deferred (some []))).alloc (.loop rec)) from by
    intro rec
    obtain ⟨q1, q2, q3, q4⟩ := HA3.out
    obtain ⟨r1, r2, r3, r4⟩ := alloc_at4 w3 (.cells C.toArray 26) (.cells #[.string s] 9) (.cells #[.int .u64 may] 28) (.cells #[.slice a len cap] 29)
    rw [HSZ3.out] at r1 r2 r3 r4
    have f4 := ((((Fr.refl none_ w3).alloc (.cells C.toArray 26)).alloc (.cells #[.string s] 9)).alloc (.cells #[.int .u64 may] 28)).alloc (.cells #[.slice a len cap] 29)
    have hsz : ((((w3.alloc (.cells C.toArray 26)).alloc (.cells #[.string s] 9)).alloc (.cells #[.int .u64 may] 28)).alloc (.cells #[.slice a len cap] 29)).heap.size = b + 1 + 1 + 1 + 1 + 1 + 1 + 1 := by simp; rw [HSZ3.out]
    obtain ⟨w2, hw2⟩ : ∃ x, (((w3.alloc (.cells C.toArray 26)).alloc (.cells #[.string s] 9)).alloc (.cells #[.int .u64 may] 28)).alloc (.cells #[.slice a len cap] 29) = x := ⟨_, rfl⟩
    rw [hw2] at r1 r2 r3 r4 f4 hsz ⊢
    have n := alloc_new2 w2 (.deferred (some [])) (.loop rec)
    rw [hsz] at n
    have f6 := ((Fr.refl none_ w2).alloc (.deferred (some []))).alloc (.loop rec)
    exact ⟨⟨_, f6.at_ (f4.at_ q3 (fun h => h)) (fun h => h), World.ownsRow_nil _ _ _ _⟩, f6.at_ (f4.at_ q4 (fun h => h)) (fun h => h), n.2, n.1, (q1.tr f4).tr f6, by simp; omega, f6.at_ r1 (fun h => h), f6.at_ r2 (fun h => h), f6.at_ r3 (fun h => h), f6.at_ r4 (fun h => h)⟩)
  have HS7 := Lib.hid (show ((((w3.alloc (.cells C.toArray 26)).alloc (.cells #[.string s] 9)).alloc (.cells #[.int .u64 may] 28)).alloc (.cells #[.slice a len cap] 29)).heap.size = b + 1 + 1 + 1 + 1 + 1 + 1 + 1 by simp; rw [HSZ3.out])
  obtain ⟨w2, hw2⟩ : ∃ x, (((w3.alloc (.cells C.toArray 26)).alloc (.cells #[.string s] 9)).alloc (.cells #[.int .u64 may] 28)).alloc (.cells #[.slice a len cap] 29) = x := ⟨_, rfl⟩
  rw [hw2] at HST HS7 ⊢
  clear hw2 HA3 HSZ3 hb
  gi_wp2_with fail
  refine wpIn_rangeFunc ?_
  intro fn hfn
  refine ⟨_, _, _, _, _, _, _, _, run_enterLoop_outer fn _ _ _ _, resolve_range rfl _ _, leads_range _ _, invoke_range (enters_of Tryz.func53 (by kernel_rfl) rfl) _ _, fun _ => by omega, ?_⟩
  rw [HS7.out]
  refine (meach_in 4 (by omega) _ (b + 1 + 1 + 1) (b + 1 + 1 + 1 + 1) (b + 1 + 1 + 1 + 1 + 1) (b + 1 + 1 + 1 + 1 + 1 + 1) D C s may ps a len cap HTB.out hmay hs hz (AllJ b (b + 1 + 1 + 1 + 1 + 1 + 1 + 1) w _ C s may a len cap) (fun pre A A' hA hf => hA.move hf) ?hi ?hy _ (HST.out _)).mono ?_
  case hi =>
    intro pre A hA
    exact ⟨hA.b3, cell_of_block hA.b4 rfl, cell_of_block hA.b5 rfl, cell_of_block hA.b6 rfl, HD.out.move hA.fr, HP.out.move hA.fr, HT.out.move hA.fr⟩
  case hy =>
    intro pre m to W hW hlen
    refine ⟨fn, _, _, _, run_yield hW.loop rfl, roundIn_of_wpIn hfn ?_⟩
    gi_wp2_with fail
    have np := alloc_new W (.cells #[.int .u64 (m : Int), .int .i64 to] 41)
    have fa := (Fr.refl none_ W).alloc (.cells #[.int .u64 (m : Int), .int .i64 to] 41)
    have hW2 := hW.move fa
    obtain ⟨v, h1, h2⟩ := hW.lv
    have hvl : ∀ j, v.ownBlock = some j → j < W.heap.size := fun j hj => (h2.lt j hj).2
    replace h1 := fa.at_ h1 (fun h => h)
    replace h2 := row_keep h2 fa (fun _ _ h => h)
    have hgk := hW.sz
    obtain ⟨g, hg⟩ : ∃ g, W.heap.size = g := ⟨_, rfl⟩
    rw [hg] at np hgk hvl ⊢
    obtain ⟨Wp, hWp⟩ : ∃ x, W.alloc (.cells #[.int .u64 (m : Int), .int .i64 to] 41) = x := ⟨_, rfl⟩
    rw [hWp] at np hW2 h1 h2 ⊢
    clear hW hg hWp fa
    obtain ⟨_, ha, hl, hd, hf, hsz, h3, h4, h5, h6⟩ := hW2
    refine ⟨_, run_beginRound hl rfl, ?_⟩
    refine with_put (C := fun Wb => Code.wpIn _ _ _ _ _ _ Wb) ?_ (lt_of_block hl)
    intro Wb hne hat hfr hsb
    have KB := Lib.hid ((hne (b + 1) (by omega)).trans h1)
    have KR := Lib.hid (ownsRow_same h2 (fun j hj => hne j (by have := (h2.lt j hj).1; omega)))
    have KA := Lib.hid ((hne (b + 1 + 1) (by omega)).trans ha)
    have KL := Lib.hid hat
    have KD := Lib.hid ((hne _ (by omega)).trans hd)
    have KF := Lib.hid (hfr _ _ hf (.inr (by have := HBE.out; omega)))
    have K3 := Lib.hid ((hne _ (by omega)).trans h3)
    have K4 := Lib.hid ((hne _ (by omega)).trans h4)
    have K5 := Lib.hid ((hne _ (by omega)).trans h5)
    have K6 := Lib.hid ((hne _ (by omega)).trans h6)
    have KP := Lib.hid ((hne g (by omega)).trans np)
    have hsb' : b + 1 + 1 + 1 + 1 + 1 + 1 + 1 + 2 ≤ Wb.heap.size := by omega
    clear h1 h2 ha hl hd hf hsz h3 h4 h5 h6 hne hat hfr hsb np
    have c0 : Wb.cell? ⟨b + 1, 0, none⟩ = some v := cell_of_block KB.out rfl
    have c1 : Wb.cell? ⟨g, 0, none⟩ = some (.int .u64 (m : Int)) := cell_of_block KP.out rfl
    have c2 : Wb.cell? ⟨g, 1, none⟩ = some (.int .i64 to) := cell_of_block KP.out rfl
    obtain ⟨i0, hi, hz0, hz1, hz2⟩ := info_parts piece_info3
    gi_wp2_with (gi_at_builtin; refine wpListIn_append_own _ rfl (.tmp 19) (.tmp 21) 32 rfl (b + 1 + 1 + 1 + 1 + 1 + 1 + 1 + 2) 41 i0 _ 2 16 Tryz.underlying32 hi hz0 hz1 hz2 rfl (by decide) _ pre.length (piecesV pre) rfl (KR.out.alloc _) ⟨Wb.heap.size, 0, none⟩ 1 1 [.int .u64 (m : Int), .int .i64 to] rfl rfl (getElem_block (alloc_new _ _)) ?c1 ?c2 ?c3 ?c4 ?_)
    case c1 => simp [Value.oneCell']
    case c2 => unfold maxLen; omega
    case c3 => omega
    case c4 => first | omega | (simp; omega)
    intro v1 w1 hown1 hgrow1 _
    obtain ⟨g1, cap1, rfl, hg1, hg1'⟩ := hown1.form (by omega)
    have hub : ∀ j, v.ownBlock = some j → b + 1 + 1 + 1 + 1 + 1 + 1 + 1 + 2 ≤ j := fun j hj => (KR.out.lt j hj).1
    have hk : ∀ j o, Wb.heap[j]? = some o → v.ownBlock ≠ some j → w1.heap[j]? = some o := fun j o hb hne => by
      rw [hgrow1.block j (by have := lt_of_block hb; simp; omega) (fun e => hne e.symm)]
      exact (Below.heap_alloc _ _ _ (lt_of_block hb)).trans hb
    have lo : ∀ j, j < b + 1 + 1 + 1 + 1 + 1 + 1 + 1 + 2 → v.ownBlock ≠ some j := fun j hj e => by have := hub j e; omega
    have M1 := Lib.hid (hk _ _ KB.out (lo _ (by omega)))
    have M2 := Lib.hid (hk _ _ KA.out (lo _ (by omega)))
    have ML := Lib.hid (hk _ _ KL.out (lo _ (by omega)))
    have MD := Lib.hid (hk _ _ KD.out (lo _ (by omega)))
    have M3 := Lib.hid (hk _ _ K3.out (lo _ (by omega)))
    have M4 := Lib.hid (hk _ _ K4.out (lo _ (by omega)))
    have M5 := Lib.hid (hk _ _ K5.out (lo _ (by omega)))
    have M6 := Lib.hid (hk _ _ K6.out (lo _ (by omega)))
    have MP := Lib.hid (hk _ _ KP.out (fun e => by have := hvl g e; omega))
    have MF := Lib.hid ((KF.out.alloc (.cells #[.int .u64 (m : Int), .int .i64 to] 41)).grown hgrow1 (fun j hj => .inr (by have := hub j hj; have := HBE.out; omega)))
    have MO := Lib.hid hown1
    have MS : b + 1 + 1 + 1 + 1 + 1 + 1 + 1 + 2 ≤ w1.heap.size := by have := hgrow1.size; simp at this; omega
    have d0 : w1.cell? ⟨b + 1, 0, none⟩ = some v := cell_of_block M1.out rfl
    have df : w1.frozen? ⟨b + 1, 0, none⟩ = false := free_of_block M1.out
    have eh : ∀ k, k ≠ b + 1 → (w1.setCell ⟨b + 1, 0, none⟩ (.slice (some ⟨g1, 0, none⟩) (pre.length + 1) cap1)).heap[k]? = w1.heap[k]? := fun k hk => Below.heap_setCell _ _ _ _ hk
    have c1' : (w1.setCell ⟨b + 1, 0, none⟩ (.slice (some ⟨g1, 0, none⟩) (pre.length + 1) cap1)).cell? ⟨g, 1, none⟩ = some (.int .i64 to) := cell_of_block ((eh g (by omega)).trans MP.out) rfl
    have c2' : (w1.setCell ⟨b + 1, 0, none⟩ (.slice (some ⟨g1, 0, none⟩) (pre.length + 1) cap1)).cell? ⟨b + 1 + 1, 0, none⟩ = some (.int .i64 (endM pre)) := cell_of_block ((eh _ (by omega)).trans M2.out) rfl
    have c3' : (w1.setCell ⟨b + 1, 0, none⟩ (.slice (some ⟨g1, 0, none⟩) (pre.length + 1) cap1)).frozen? ⟨b + 1 + 1, 0, none⟩ = false := free_of_block ((eh _ (by omega)).trans M2.out)
    clear hown1 hgrow1 hub hk lo c0 c1 c2 KB KR KA KL KD KF K3 K4 K5 K6 KP eh
    gi_wp2_with fail
    have e0 := heap_setCell w1 M1.out 0 (.slice (some ⟨g1, 0, none⟩) (pre.length + 1) cap1)
    have eh : ∀ k, k ≠ b + 1 → (w1.setCell ⟨b + 1, 0, none⟩ (.slice (some ⟨g1, 0, none⟩) (pre.length + 1) cap1)).heap[k]? = w1.heap[k]? := fun k hk => Below.heap_setCell _ _ _ _ hk
    have e1 := (eh _ (show b + 1 + 1 ≠ b + 1 by omega)).trans M2.out
    have hsz0 : (w1.setCell ⟨b + 1, 0, none⟩ (.slice (some ⟨g1, 0, none⟩) (pre.length + 1) cap1)).heap.size = w1.heap.size := by simp
    have ef := MF.out.setCell (p := ⟨b + 1, 0, none⟩) (.inr (by have := HBE.out; show w.heap.size ≤ b + 1; omega)) (.slice (some ⟨g1, 0, none⟩) (pre.length + 1) cap1)
    have eo := ownsRow_same (w' := w1.setCell ⟨b + 1, 0, none⟩ (.slice (some ⟨g1, 0, none⟩) (pre.length + 1) cap1)) MO.out (fun j hj => eh j (by have := (MO.out.lt j hj).1; omega))
    have eL := (eh _ (by omega)).trans ML.out
    have eD := (eh _ (by omega)).trans MD.out
    have e3 := (eh _ (by omega)).trans M3.out
    have e4 := (eh _ (by omega)).trans M4.out
    have e5 := (eh _ (by omega)).trans M5.out
    have e6 := (eh _ (by omega)).trans M6.out
    clear c1' c2' c3' d0 df eh
    obtain ⟨wz, hwz⟩ : ∃ x, w1.setCell ⟨b + 1, 0, none⟩ (.slice (some ⟨g1, 0, none⟩) (pre.length + 1) cap1) = x := ⟨_, rfl⟩
    rw [hwz] at e0 e1 hsz0 ef eo eL eD e3 e4 e5 e6 ⊢
    have a0 := heap_setCell wz e1 0 (.int .i64 to)
    have ah : ∀ k, k ≠ b + 1 + 1 → (wz.setCell ⟨b + 1 + 1, 0, none⟩ (.int .i64 to)).heap[k]? = wz.heap[k]? := fun k hk => Below.heap_setCell _ _ _ _ hk
    have af := ef.setCell (p := ⟨b + 1 + 1, 0, none⟩) (.inr (by have := HBE.out; show w.heap.size ≤ b + 1 + 1; omega)) (.int .i64 to)
    have ao := ownsRow_same (w' := wz.setCell ⟨b + 1 + 1, 0, none⟩ (.int .i64 to)) eo (fun j hj => ah j (by have := (eo.lt j hj).1; omega))
    have a1 := (ah _ (by omega)).trans e0
    have aL := (ah _ (by omega)).trans eL
    have aD := (ah _ (by omega)).trans eD
    have a3 := (ah _ (by omega)).trans e3
    have a4 := (ah _ (by omega)).trans e4
    have a5 := (ah _ (by omega)).trans e5
    have a6 := (ah _ (by omega)).trans e6
    have asz : b + 1 + 1 + 1 + 1 + 1 + 1 + 1 + 2 ≤ (wz.setCell ⟨b + 1 + 1, 0, none⟩ (.int .i64 to)).heap.size := by simp; omega
    obtain ⟨wy, hwy⟩ : ∃ x, wz.setCell ⟨b + 1 + 1, 0, none⟩ (.int .i64 to) = x := ⟨_, rfl⟩
    rw [hwy] at a0 af ao a1 aL aD a3 a4 a5 a6 asz ⊢
    refine ⟨_, _, run_endRound none aL, rfl, ⟨_, (World.putObj_heap_other (by omega)).trans a1, ?_⟩, ?_, World.putObj_heap_same (lt_of_block aL), (World.putObj_heap_other (by omega)).trans aD, fr_put af _ (.inr (by have := HBE.out; omega)), by simpa using asz, (World.putObj_heap_other (by omega)).trans a3, (World.putObj_heap_other (by omega)).trans a4, (World.putObj_heap_other (by omega)).trans a5, (World.putObj_heap_other (by omega)).trans a6⟩
    · rw [List.length_append, piecesV_snoc]
      exact ownsRow_same ao (fun j hj => World.putObj_heap_other (by have := (ao.lt j hj).1; omega))
    · rw [endM_snoc]
      exact (World.putObj_heap_other (by omega)).trans a0
  rintro e W2 ⟨⟨v0, rfl⟩, hJ⟩
  obtain ⟨⟨x, h1, h2⟩, ha, hl, hd, hf, hsz, _, _, _, _⟩ := hJ
  refine ⟨none, _, run_endLoop hl (by simp), ?_⟩
  dsimp only
  refine with_put (C := fun Wb => Exit.inBlock _ (Exit.then _ _) .normal _ Wb) ?_ (lt_of_block hl)
  intro Wb hne hat hfr hsb
  have KB := Lib.hid ((hne (b + 1) (by omega)).trans h1)
  have KA := Lib.hid ((hne (b + 1 + 1) (by omega)).trans ha)
  have KR := Lib.hid (ownsRow_same h2 (fun j hj => hne j (by have := (h2.lt j hj).1; omega)))
  have KD := Lib.hid ((hne _ (by omega)).trans hd)
  have KF := Lib.hid (hfr _ _ hf (.inr (by have := HBE.out; omega)))
  clear h1 h2 ha hl hd hf hsz hne hat hfr hsb
  have c0 : Wb.cell? ⟨b + 1, 0, none⟩ = some x := cell_of_block KB.out rfl
  have c1 : Wb.cell? ⟨b + 1 + 1, 0, none⟩ = some (.int .i64 (endM (allM D (bytesN s) may ps))) := cell_of_block KA.out rfl
  gi_wp2_with fail
  gi_region
  all_goals
    gi_wp2_with fail
    have KRd := KR.out.drew
    have KDd : Wb.drew.heap[b + 1 + 1 + 1 + 1 + 1 + 1 + 1]? = some (.deferred (some [])) := KD.out
    have KFd := KF.out.drew
    refine ⟨by simp, .inl ⟨_, _, rfl, run_takeDeferred KDd, ?_⟩⟩
    refine ⟨_, results_tmp2 rfl _ _ _, _, _, rfl, (ownsRow_same KRd (fun j hj => World.putObj_heap_other (by have := (KRd.lt j hj).1; omega))), by have := HBE.out; omega, fr_put KFd _ (.inr (by have := HBE.out; omega))⟩
end Go.Proofs.YtnenbihmokolpaaGreatDoor

namespace Go.Proofs.YtnenbihmokolpaaGreatDoor
open Go.RowKit

def zs7 : List ByteArray := [⟨#[91, 97, 45, 122, 93, 43]⟩, ⟨#[105, 102]⟩]
def ov7 : List (Int × Int) := [(1, 0)]
def works7B : Bool := match ofM zs7 with
  | .ok d => decide (pickM d [105, 102] 0 3 ov7 = (1, 2)) && decide (pickM d [105, 102, 102] 0 3 ov7 = (0, 3)) && decide (pickM d [105, 102] 0 3 [] = (-1, 2)) && decide (allM d [105, 102] 3 ov7 = [(2, 2)]) && decide (longM d [105, 102, 33] 0 1 = (1, 2)) && decide (d.tags.length ≤ 100) && d.tags.all fun t => decide (t < 18446744073709551616)
  | .error _ => false
theorem works7B_true : works7B = true := by decide +kernel
theorem win7 : winM 3 ov7 = 2 := by decide +kernel
theorem works7_parts : ∃ d, ofM zs7 = .ok d ∧ pickM d [105, 102] 0 3 ov7 = (1, 2) ∧ pickM d [105, 102, 102] 0 3 ov7 = (0, 3) ∧ pickM d [105, 102] 0 3 [] = (-1, 2) ∧ allM d [105, 102] 3 ov7 = [(2, 2)] ∧ longM d [105, 102, 33] 0 1 = (1, 2) ∧ d.tags.length ≤ 100 ∧ ∀ t ∈ d.tags, t < 18446744073709551616 := by
  have h := works7B_true
  unfold works7B at h
  split at h
  · rename_i d hd
    simp only [Bool.and_eq_true, decide_eq_true_eq, List.all_eq_true] at h
    obtain ⟨⟨⟨⟨⟨⟨h1, h2⟩, h3⟩, h4⟩, h5⟩, h6⟩, h7⟩ := h
    exact ⟨d, hd, h1, h2, h3, h4, h5, h6, h7⟩
  · cases h
end Go.Proofs.YtnenbihmokolpaaGreatDoor

namespace Go.Proofs.YtnenbihmokolpaaGreatDoor
open Go.RowKit

theorem PairsIn.lit {w : World} {g : Nat} {x y : Int} {t : TypeId} (h : w.heap[g]? = some (.cells #[.int .i64 x, .int .i64 y] t (0, 0))) : PairsIn w (some ⟨g, 0, none⟩) 1 [(x, y)] := by
  refine ⟨rfl, by decide, fun j p hp => ?_⟩
  have hj : j = 0 := by
    have := (List.getElem?_eq_some_iff.1 hp).1
    simp at this; omega
  subst hj
  have e : (x, y) = p := by simpa using hp
  subst e
  exact ⟨_, rfl, by rw [Addr.add_mid]; exact cell_of_block h rfl, by rw [Addr.add_mid]; exact cell_of_block h rfl⟩
theorem PairsIn.nil (w : World) : PairsIn w none 0 [] := ⟨rfl, by decide, fun j p hp => by simp at hp⟩

set_option maxRecDepth 100000 in
set_option maxHeartbeats 8000000 in
theorem works7_any (w : World) (hp : PowOk w) (hT : TabOk w) : Calls Tryz.prog 5 #[] w fun e w' => e = .returned (.bool true) ∧ Fr none_ w w' := by
  obtain ⟨d, hd, k1, k2, k3, k4, k5, htl, htg⟩ := works7_parts
  have HP := Lib.hid hp
  have HT := Lib.hid hT
  have HDD := Lib.hid hd
  have HTG := Lib.hid htg
  have K1 := Lib.hid (show pickM d (bytesN ⟨#[105, 102]⟩) 0 3 ov7 = (1, 2) from k1)
  have K2 := Lib.hid (show pickM d (bytesN ⟨#[105, 102, 102]⟩) 0 3 ov7 = (0, 3) from k2)
  have K3 := Lib.hid (show pickM d (bytesN ⟨#[105, 102]⟩) 0 3 [] = (-1, 2) from k3)
  have K4 := Lib.hid (show allM d (bytesN ⟨#[105, 102]⟩) 3 ov7 = [(2, 2)] from k4)
  have K5 := Lib.hid (show longM d (bytesN ⟨#[105, 102, 33]⟩) 0 1 = (1, 2) from k5)
  clear hp hT hd htg k1 k2 k3 k4 k5
  go_enter Tryz.func5, Tryz.ntmps5
  go_wp2_with fail
  have FA := Lib.hid ((Fr.refl none_ w).alloc (.cells #[.string ⟨#[91, 97, 45, 122, 93, 43]⟩, .string ⟨#[105, 102]⟩] 9))
  refine (miniof_any _ _ _ zs7 _ (StrsAt.lit (l := zs7) (alloc_new w _) (by decide) (by decide)) (by decide) (by decide) (HP.out.move FA.out)).mono ?_
  rintro e w1 ⟨hO, F1⟩
  rw [HDD.out] at hO
  obtain ⟨v1, rfl, hD1⟩ := hO
  obtain ⟨C1, na, ncap, rfl, hz1, hone1, hbad⟩ := hD1.cells2
  clear hbad
  have HD1 := Lib.hid hD1
  have FB := Lib.hid (FA.out.tr F1)
  clear hD1 F1 FA
  have LR := laid_row w1 Tryz.zeroCells26 26 C1.toArray
  have LF := Lib.hid LR.1
  have LB := Lib.hid LR.2
  clear LR
  have hsza := setRow_size w1 Tryz.zeroCells26 26 C1.toArray
  have HSZ := Lib.hid hsza
  clear hsza
  have LB2 := Lib.hid (((Fr.refl none_ ((w1.alloc (.cells Tryz.zeroCells26 26)).setRow w1.heap.size C1.toArray)).alloc (.cells #[.int .i64 1, .int .i64 0] 64)).at_ LB.out (fun h => h))
  go_wp2_with (first
    | (refine wpList_store_row rfl 26 (.tmp 1) (.tmp 15) rfl w1.heap.size 26 Tryz.zeroCells26 C1.toArray rfl rfl (alloc_new w1 _) ?_ ?_ hone1 ?_; (rw [List.size_toArray, hz1]; exact dfa_info); (rw [zeroD_size, List.size_toArray, hz1]))
    | (refine wpList_load_row rfl 26 (.tmp 1) rfl w1.heap.size 26 C1 _ rfl LB2.out Tryz.underlying26 rfl ?_ ?_; (rw [hz1]; exact dfa_info)))
  have PA := alloc_new ((w1.alloc (.cells Tryz.zeroCells26 26)).setRow w1.heap.size C1.toArray) (.cells #[.int .i64 1, .int .i64 0] 64)
  rw [HSZ.out] at PA
  have FX := Lib.hid (LF.out.alloc (.cells #[.int .i64 1, .int .i64 0] 64))
  have DA := Lib.hid (HD1.out.move FX.out)
  have FC := Lib.hid (FB.out.tr FX.out)
  obtain ⟨b1, hb1⟩ : ∃ x, w1.heap.size = x := ⟨_, rfl⟩
  obtain ⟨g, hg⟩ : ∃ x, b1 + 1 = x := ⟨_, rfl⟩
  obtain ⟨wa, hwa⟩ : ∃ x, ((w1.alloc (.cells Tryz.zeroCells26 26)).setRow w1.heap.size C1.toArray).alloc (.cells #[.int .i64 1, .int .i64 0] 64) = x := ⟨_, rfl⟩
  rw [hwa] at PA FX DA FC LB2 ⊢
  rw [hb1] at PA LB2 ⊢
  rw [hg] at PA ⊢
  have PR := Lib.hid (show PairsIn wa (some ⟨g, 0, none⟩) 1 ov7 from PairsIn.lit PA)
  clear hwa hg hb1 PA LB LF HSZ HD1 FB FX
  refine (pick_any d _ ⟨#[105, 102]⟩ 0 3 ov7 (some ⟨g, 0, none⟩) 1 1 _ DA.out HTG.out (by decide) (by decide) PR.out (HT.out.move FC.out)).mono ?_
  rintro e w2 ⟨rfl, F2⟩
  rw [K1.out]
  have G2 := Lib.hid F2
  have L2 := Lib.hid (F2.at_ LB2.out (fun h => h))
  clear F2
  go_wp2_with (refine wpList_load_row rfl 26 (.tmp 1) rfl b1 26 C1 _ rfl L2.out Tryz.underlying26 rfl ?_ ?_; (rw [hz1]; exact dfa_info))
  refine (pick_any d _ ⟨#[105, 102, 102]⟩ 0 3 ov7 (some ⟨g, 0, none⟩) 1 1 _ (DA.out.move G2.out) HTG.out (by decide) (by decide) (PR.out.move G2.out) (HT.out.move (FC.out.tr G2.out))).mono ?_
  rintro e w3 ⟨rfl, F2⟩
  rw [K2.out]
  have G3 := Lib.hid (G2.out.tr F2)
  have L3 := Lib.hid (F2.at_ L2.out (fun h => h))
  clear F2 L2 G2
  go_wp2_with (refine wpList_load_row rfl 26 (.tmp 1) rfl b1 26 C1 _ rfl L3.out Tryz.underlying26 rfl ?_ ?_; (rw [hz1]; exact dfa_info))
  refine (pick_any d _ ⟨#[105, 102]⟩ 0 3 [] none 0 0 _ (DA.out.move G3.out) HTG.out (by decide) (by decide) (PairsIn.nil _) (HT.out.move (FC.out.tr G3.out))).mono ?_
  rintro e w4 ⟨rfl, F2⟩
  rw [K3.out]
  have G4 := Lib.hid (G3.out.tr F2)
  have L4 := Lib.hid (F2.at_ L3.out (fun h => h))
  clear F2 L3 G3
  go_wp2_with (refine wpList_load_row rfl 26 (.tmp 1) rfl b1 26 C1 _ rfl L4.out Tryz.underlying26 rfl ?_ ?_; (rw [hz1]; exact dfa_info))
  refine (all_any d _ ⟨#[105, 102]⟩ 3 ov7 (some ⟨g, 0, none⟩) 1 1 _ (DA.out.move G4.out) HTG.out (by decide) (by decide) (PR.out.move G4.out) (HT.out.move (FC.out.tr G4.out))).mono ?_
  rintro e w5 ⟨u, base, rfl, hown, _, F2⟩
  rw [K4.out] at hown ⊢
  have G5 := Lib.hid (G4.out.tr F2)
  have L5 := Lib.hid (F2.at_ L4.out (fun h => h))
  obtain ⟨gl, lcap, rfl, _, _⟩ := hown.form (by decide)
  have q0 : w5.cell? ⟨gl, 0, none⟩ = some (.int .u64 2) := hown.cellAt 0 (by decide)
  have q1 : w5.cell? ⟨gl, 1, none⟩ = some (.int .i64 2) := hown.cellAt 1 (by decide)
  clear F2 L4 G4 hown
  go_wp2_with fail
  refine (win_any 3 ov7 (some ⟨g, 0, none⟩) 1 1 _ (by decide) (PR.out.move G5.out) (HT.out.move (FC.out.tr G5.out))).mono ?_
  rintro e w6 ⟨rfl, F2⟩
  rw [win7]
  have G6 := Lib.hid (G5.out.tr F2)
  have L6 := Lib.hid (F2.at_ L5.out (fun h => h))
  clear F2 L5 G5 q0 q1
  go_wp2_with fail
  refine wp_load_mid 26 _ rfl b1 0 rfl C1 _ (range_of L6.out) Tryz.underlying26 rfl (by rw [hz1]; exact dfa_info) ?_
  go_wp2_with fail
  refine (longest_any d _ ⟨#[105, 102, 33]⟩ 0 1 _ (DA.out.move G6.out) HTG.out (by decide) (by decide)).mono ?_
  rintro e w7 ⟨rfl, F2⟩
  rw [K5.out]
  have G7 := Lib.hid (G6.out.tr F2)
  clear F2 L6 G6
  go_wp2_with fail
  go_ret
  exact ⟨rfl, FC.out.tr G7.out⟩
end Go.Proofs.YtnenbihmokolpaaGreatDoor

namespace Go.Proofs.YtnenbihmokolpaaGreatDoor
open Go.RowKit

/-- One lies in another. -/
def Sub (a b : Nat) : Prop := a &&& b = a
theorem sub_bit {a b : Nat} : Sub a b ↔ ∀ i, a.testBit i = true → b.testBit i = true := by
  constructor
  · intro h i hi
    have h1 : (a &&& b).testBit i = true := by rw [show a &&& b = a from h]; exact hi
    rw [Nat.testBit_and, Bool.and_eq_true] at h1
    exact h1.2
  · intro h
    show a &&& b = a
    apply Nat.eq_of_testBit_eq
    intro i
    rw [Nat.testBit_and]
    cases hi : a.testBit i with
    | false => rfl
    | true => rw [h i hi]; rfl
theorem sub_zero (b : Nat) : Sub 0 b := Nat.zero_and b
end Go.Proofs.YtnenbihmokolpaaGreatDoor

namespace Go.Proofs.YtnenbihmokolpaaGreatDoor
open Go.RowKit

theorem bytesN_extract (s : ByteArray) (a e : Nat) : bytesN (s.extract a e) = ((bytesN s).drop a).take (e - a) := by
  simp only [bytesN, ByteArray.data_extract, Array.toList_extract, List.extract_eq_take_drop, List.map_take, List.map_drop]
theorem runD_lt {D : Dfa} (h : ∀ t ∈ D.tags, t < 18446744073709551616) (bs : List Nat) : runD D bs < 18446744073709551616 := by
  unfold runD tagD
  split
  · omega
  · rename_i h1
    by_cases hi : (atD D 0 bs).toNat < D.tags.length
    · exact h _ (getD_mem hi 0)
    · rw [getD_ge (by omega)]; omega
end Go.Proofs.YtnenbihmokolpaaGreatDoor

namespace Go.Proofs.YtnenbihmokolpaaGreatDoor
open Go.RowKit

def tabZ : List Int := Lib.deBruijn64tab.map fun (n : Nat) => (n : Int)
theorem tabOk_of_met {W : World} {rest : List (String × DataW Unit)} (h0 : laidMet Tryz.prog (("math/bits.deBruijn64tab", Rows.laid_math_bits_deBruijn64tab) :: rest) W) : TabOk W := by
  have h1 : Lib.TabIs Tryz.prog W "math/bits.deBruijn64tab" .u8 tabZ :=
    Lib.tabIs_of_head (rest := rest) (g := 0) (t := 161) (e := 5) (n := 64) (by kernel_rfl) (by kernel_rfl) (by kernel_rfl) (by kernel_rfl) (by kernel_rfl) (by kernel_rfl) h0
  intro j hj
  have h2 := h1.cell (g := 0) (by kernel_rfl) j (by simpa [tabZ] using hj)
  rw [h2]
  simp [tabZ, List.getD, hj]
end Go.Proofs.YtnenbihmokolpaaGreatDoor

namespace Go.Proofs.YtnenbihmokolpaaGreatDoor
open Go.RowKit
open Go.Deep Go.ChangeShapes Go.WideShapes

def PairsAt (w : World) (a : Option Addr) (len : Nat) (ps : List (Int × Int)) : Prop := ps.length = len ∧ ∀ (j : Nat) (p : Int × Int), ps[j]? = some p → ∃ ad, a = some ad ∧ w.cell? (ad.add (j * 2)) = some (.int .i64 p.1) ∧ w.cell? (ad.add (j * 2 + 1)) = some (.int .i64 p.2)
theorem PairsAt.few {w : World} {a : Option Addr} {len : Nat} {ps : List (Int × Int)} (h : PairsAt w a len ps) (hl : len ≤ 1000000) : PairsIn w a len ps := ⟨h.1, hl, h.2⟩

set_option maxRecDepth 100000 in
theorem open_pairs {H : Type} {enc : TypeId × Value → H} {w : World} {held : Bool} {v : Value} {d : DataW H} {ps : List MemPlace} (h : DataW.Trod enc Tryz.prog w 0 (fun _ => true) held 29 v d ps) :
    ∃ (a : Option Addr) (len cap : Nat) (l : List (Int × Int)), v.cells.toList = [.slice a len cap] ∧ PairsAt w a len l ∧ len ≤ 9223372036854775807 := by
  obtain ⟨fuel, hf⟩ := h
  have ce : Tryz.prog.cellsOf 64 = 2 := by kernel_rfl
  have ci : Tryz.prog.cellsOf 3 = 1 := by kernel_rfl
  rcases open_slice Tryz.underlying29 hf with ⟨hcs, _⟩ | ⟨x, len, cap, m, n, D, Pl, hcs, _, hl, hm, hmm, _, hx⟩
  · exact ⟨none, 0, 0, [], hcs, ⟨rfl, fun j p hp => by simp at hp⟩, Nat.zero_le _⟩
  · have hlm : len ≤ m := by rw [hmm]; split <;> omega
    have each : ∀ i, i < len → ∃ p q : Int, w.cell? (x.add (i * 2)) = some (.int .i64 p) ∧ w.cell? (x.add (i * 2 + 1)) = some (.int .i64 q) := by
      intro i hi
      obtain ⟨cs', h1, h2⟩ := hx i (by omega)
      rw [ce] at h1
      obtain ⟨_, hlen, hcell⟩ := World.cells?_some h1
      obtain ⟨xs, k, _, _, _, hxl, hf⟩ := DataW.trod_array Tryz.underlying64 h2
      match cs', hlen with
      | [v0, v1], _ =>
        have g0 := hf 0 (by decide)
        have g1 := hf 1 (by decide)
        rw [ci, List.getElem?_eq_getElem (show 0 < xs.length by omega)] at g0
        rw [ci, List.getElem?_eq_getElem (show 1 < xs.length by omega)] at g1
        have e0 := hcell 0 (by omega)
        have e1 := hcell 1 (by omega)
        rw [Addr.add_add] at e0 e1
        obtain ⟨p, hp, _⟩ := DataW.trod_int Tryz.underlying3 g0
        obtain ⟨q, hq, _⟩ := DataW.trod_int Tryz.underlying3 g1
        refine ⟨p, q, ?_, ?_⟩
        · have : v0 = .int .i64 p := by simpa using hp
          rw [← this]; simpa using e0
        · have : v1 = .int .i64 q := by simpa using hq
          rw [← this]; simpa using e1
    refine ⟨some x, len, cap, (List.range len).map fun i => (intOf ((w.cell? (x.add (i * 2))).getD undef), intOf ((w.cell? (x.add (i * 2 + 1))).getD undef)), hcs, ⟨by simp, fun j p hp => ?_⟩, by unfold maxLen at hm; omega⟩
    have hj : j < len := by have := (List.getElem?_eq_some_iff.1 hp).1; simpa using this
    obtain ⟨y, z, q1, q2⟩ := each j hj
    simp [hj, q1, q2, intOf] at hp
    subst hp
    exact ⟨x, rfl, q1, q2⟩
end Go.Proofs.YtnenbihmokolpaaGreatDoor
