/-
  munch.All: the walk.
  The document's example of layer 7: plain.
  The document's example of layer 7: the walk.
  MunchFewer: plain, and the walk.
  MunchFewer: for every input.
-/
import Derived.Test.YtglflmkkecephaaGreatDoorUB
import Derived.LaidLaws
import Derived.Lib.LaidTab
import Derived.Test.YtglflmkkecephaaGreatDoorRows
namespace Go.Proofs.YtglflmkkecephaaGreatDoor set_option linter.unusedVariables false set_option linter.unusedSimpArgs false
open Go.RowKit Go.Shelf
attribute [local go_sem] Oper.semAt_some

def piecesV (l : List (Nat × Int)) : List Value := l.flatMap fun p => [Value.int .u64 (p.1 : Int), Value.int .i64 p.2]
def endM (l : List (Nat × Int)) : Int := (l.getLast?.map (·.2)).getD 0
theorem piecesV_snoc (l : List (Nat × Int)) (p : Nat × Int) : piecesV (l ++ [p]) = piecesV l ++ [.int .u64 (p.1 : Int), .int .i64 p.2] := by simp [piecesV]
theorem piecesV_length (l : List (Nat × Int)) : (piecesV l).length = l.length * 2 := by
  induction l with
  | nil => rfl
  | cons p l ih => rw [show piecesV (p :: l) = [.int .u64 (p.1 : Int), .int .i64 p.2] ++ piecesV l from rfl, List.length_append, ih, List.length_cons]; simp; omega
theorem endM_snoc (l : List (Nat × Int)) (p : Nat × Int) : endM (l ++ [p]) = p.2 := by simp [endM]

theorem piece_info3 : (Tryz.prog.info? 43).map (fun i => (i.zero, i.size, i.bytes)) = some (some (.agg #[.int .u64 0, .int .i64 0]), 2, 16) := by kernel_rfl

set_option maxRecDepth 100000 in
theorem meach_val (C : List Value) (s : ByteArray) (may : Nat) (a : Option Addr) (len cap : Nat) (w : World) :
    Calls Tryz.prog 48 #[.agg C.toArray, .string s, .int .u64 may, .slice a len cap] w fun e w' => e = .returned (.func (.func 66) #[] #[.pointer (some ⟨w.heap.size, 0, none⟩), .pointer (some ⟨w.heap.size + 1, 0, none⟩), .pointer (some ⟨w.heap.size + 1 + 1, 0, none⟩), .pointer (some ⟨w.heap.size + 1 + 1 + 1, 0, none⟩)]) ∧
      (((w.alloc (.cells C.toArray 26)).alloc (.cells #[.string s] 9)).alloc (.cells #[.int .u64 may] 39)).alloc (.cells #[.slice a len cap] 40) = w' := by
  have hmf : ∀ (fn : Fn) (first cap : Array Value) (w : World), (Instr.makeFunc fn first cap).run Tryz.prog w = .ok (.func fn first cap) w := fun _ _ _ _ => rfl
  go_enter Tryz.func48, Tryz.ntmps48
  go_wp2_with fail
  go_ret
  exact ⟨rfl, rfl⟩

/-- Between two rounds of All. -/
structure AllJ (b k : Nat) (w : World) (rec : Loop) (C : List Value) (s : ByteArray) (may : Nat) (a : Option Addr) (len cap : Nat) (pre : List (Nat × Int)) (W : World) : Prop where
  lv : ∃ v, W.heap[b + 1]? = some (.cells #[v] 52 (0, 0)) ∧ W.ownsRow (k + 2) 43 2 v pre.length (piecesV pre)
  at_ : W.heap[b + 1 + 1]? = some (.cells #[.int .i64 (endM pre)] 3 (0, 0))
  loop : W.heap[k + 1]? = some (.loop rec)
  dfr : W.heap[k]? = some (.deferred (some []))
  fr : Fr none_ w W
  sz : k + 2 ≤ W.heap.size
  b3 : W.heap[b + 1 + 1 + 1]? = some (.cells C.toArray 26 (0, 0))
  b4 : W.heap[b + 1 + 1 + 1 + 1]? = some (.cells #[.string s] 9 (0, 0))
  b5 : W.heap[b + 1 + 1 + 1 + 1 + 1]? = some (.cells #[.int .u64 (may : Int)] 39 (0, 0))
  b6 : W.heap[b + 1 + 1 + 1 + 1 + 1 + 1]? = some (.cells #[.slice a len cap] 40 (0, 0))
theorem AllJ.move {b k : Nat} {w : World} {rec : Loop} {C : List Value} {s : ByteArray} {may : Nat} {a : Option Addr} {len cap : Nat} {pre : List (Nat × Int)} {W W' : World} (h : AllJ b k w rec C s may a len cap pre W) (hf : Fr none_ W W') : AllJ b k w rec C s may a len cap pre W' :=
  ⟨h.lv.elim fun v q => ⟨v, hf.at_ q.1 (fun h => h), row_keep q.2 hf (fun _ _ h => h)⟩, hf.at_ h.at_ (fun h => h), hf.at_ h.loop (fun h => h), hf.at_ h.dfr (fun h => h), h.fr.tr hf, by have := hf.size; have := h.sz; omega,
    hf.at_ h.b3 (fun h => h), hf.at_ h.b4 (fun h => h), hf.at_ h.b5 (fun h => h), hf.at_ h.b6 (fun h => h)⟩

set_option maxRecDepth 100000 in
set_option maxHeartbeats 2000000 in
theorem all_any (D : Dfa) (v : Value) (s : ByteArray) (may : Nat) (ps : List (Int × Int)) (a : Option Addr) (len cap : Nat) (w : World) (h : DfaIn w v D) (ht : ∀ t ∈ D.tags, t < 18446744073709551616) (hmay : may < 18446744073709551616) (hs : s.size ≤ 1000000) (hp : PairsIn w a len ps) (hT : TabOk w) :
    Calls Tryz.prog 23 #[v, .string s, .int .u64 may, .slice a len cap] w fun e w' => ∃ u base, e = .returned (.tuple #[u, .int .i64 (endM (allM D (bytesN s) may ps))]) ∧ w'.ownsRow base 43 2 u (allM D (bytesN s) may ps).length (piecesV (allM D (bytesN s) may ps)) ∧ w.heap.size ≤ base ∧ Fr none_ w w' := by
  obtain ⟨C, rfl, hz, hone⟩ := h.cells
  have HD := Lib.hid h
  have HTB := Lib.hid ht
  have HP := Lib.hid hp
  have HT := Lib.hid hT
  have HB0 := Lib.hid (alloc_new w (.cells C.toArray 26))
  clear h ht hp hT hone
  refine (callsIn_wide (n := 5)).1 ?_
  refine callsIn_of_wp_marks Tryz.func23 rfl trivial ?_ rfl
  simp only [Tryz.ntmps23, List.size_toArray, List.length_cons, List.length_nil, Nat.reduceAdd, Nat.reduceSub, Array.replicate_succ, Array.replicate_zero, List.push_toArray, List.append_toArray, List.nil_append, List.cons_append]
  gi_wp2_with fail
  have HBX := Lib.hid ((((Fr.refl none_ (w.alloc (.cells C.toArray 26))).alloc (.cells #[.slice none 0 0] 52)).alloc (.cells #[.int .i64 0] 3)).at_ HB0.out (fun h => h))
  have HA3 := Lib.hid (alloc3 w (.cells C.toArray 26) (.cells #[.slice none 0 0] 52) (.cells #[.int .i64 0] 3))
  have hsz3 : (((w.alloc (.cells C.toArray 26)).alloc (.cells #[.slice none 0 0] 52)).alloc (.cells #[.int .i64 0] 3)).heap.size = w.heap.size + 1 + 1 + 1 := by simp
  have HSZ3 := Lib.hid hsz3
  clear hsz3
  refine wpIn_load_row 26 (.tmp 4) rfl w.heap.size rfl 26 C.toArray _ _ HBX.out Tryz.underlying26 rfl (by rw [List.size_toArray, hz]; exact dfa_info) ?_
  obtain ⟨w3, hw3⟩ : ∃ x, (((w.alloc (.cells C.toArray 26)).alloc (.cells #[.slice none 0 0] 52)).alloc (.cells #[.int .i64 0] 3)) = x := ⟨_, rfl⟩
  rw [hw3] at HA3 HSZ3 ⊢
  clear hw3 HBX HB0
  gi_wp2_with fail
  refine ⟨trivial, ?_⟩
  refine (callsIn_wide.2 (meach_val C s may a len cap _)).mono ?_
  rintro e w' ⟨rfl, rfl⟩
  rw [HSZ3.out]
  obtain ⟨b, hb⟩ : ∃ b, w.heap.size = b := ⟨_, rfl⟩
  have HBE := Lib.hid hb
  rw [hb] at HA3 HSZ3 ⊢
  have HST := Lib.hid (show ∀ rec, AllJ b (b + 1 + 1 + 1 + 1 + 1 + 1 + 1) w rec C s may a len cap [] (((((((w3.alloc (.cells C.toArray 26)).alloc (.cells #[.string s] 9)).alloc (.cells #[.int .u64 may] 39)).alloc (.cells #[.slice a len cap] 40))).alloc (.deferred (some []))).alloc (.loop rec)) from by
    intro rec
    obtain ⟨q1, q2, q3, q4⟩ := HA3.out
    obtain ⟨r1, r2, r3, r4⟩ := alloc_at4 w3 (.cells C.toArray 26) (.cells #[.string s] 9) (.cells #[.int .u64 may] 39) (.cells #[.slice a len cap] 40)
    rw [HSZ3.out] at r1 r2 r3 r4
    have f4 := ((((Fr.refl none_ w3).alloc (.cells C.toArray 26)).alloc (.cells #[.string s] 9)).alloc (.cells #[.int .u64 may] 39)).alloc (.cells #[.slice a len cap] 40)
    have hsz : ((((w3.alloc (.cells C.toArray 26)).alloc (.cells #[.string s] 9)).alloc (.cells #[.int .u64 may] 39)).alloc (.cells #[.slice a len cap] 40)).heap.size = b + 1 + 1 + 1 + 1 + 1 + 1 + 1 := by simp; rw [HSZ3.out]
    obtain ⟨w2, hw2⟩ : ∃ x, (((w3.alloc (.cells C.toArray 26)).alloc (.cells #[.string s] 9)).alloc (.cells #[.int .u64 may] 39)).alloc (.cells #[.slice a len cap] 40) = x := ⟨_, rfl⟩
    rw [hw2] at r1 r2 r3 r4 f4 hsz ⊢
    have n := alloc_new2 w2 (.deferred (some [])) (.loop rec)
    rw [hsz] at n
    have f6 := ((Fr.refl none_ w2).alloc (.deferred (some []))).alloc (.loop rec)
    exact ⟨⟨_, f6.at_ (f4.at_ q3 (fun h => h)) (fun h => h), World.ownsRow_nil _ _ _ _⟩, f6.at_ (f4.at_ q4 (fun h => h)) (fun h => h), n.2, n.1, (q1.tr f4).tr f6, by simp; omega, f6.at_ r1 (fun h => h), f6.at_ r2 (fun h => h), f6.at_ r3 (fun h => h), f6.at_ r4 (fun h => h)⟩)
  have HS7 := Lib.hid (show ((((w3.alloc (.cells C.toArray 26)).alloc (.cells #[.string s] 9)).alloc (.cells #[.int .u64 may] 39)).alloc (.cells #[.slice a len cap] 40)).heap.size = b + 1 + 1 + 1 + 1 + 1 + 1 + 1 by simp; rw [HSZ3.out])
  obtain ⟨w2, hw2⟩ : ∃ x, (((w3.alloc (.cells C.toArray 26)).alloc (.cells #[.string s] 9)).alloc (.cells #[.int .u64 may] 39)).alloc (.cells #[.slice a len cap] 40) = x := ⟨_, rfl⟩
  rw [hw2] at HST HS7 ⊢
  clear hw2 HA3 HSZ3 hb
  gi_wp2_with fail
  refine wpIn_rangeFunc ?_
  intro fn hfn
  refine ⟨_, _, _, _, _, _, _, _, run_enterLoop_outer fn _ _ _ _, resolve_range rfl _ _, leads_range _ _, invoke_range (enters_of Tryz.func66 (by kernel_rfl) rfl) _ _, fun _ => by omega, ?_⟩
  rw [HS7.out]
  refine (meach_in 4 (by omega) _ (b + 1 + 1 + 1) (b + 1 + 1 + 1 + 1) (b + 1 + 1 + 1 + 1 + 1) (b + 1 + 1 + 1 + 1 + 1 + 1) D C s may ps a len cap HTB.out hmay hs hz (AllJ b (b + 1 + 1 + 1 + 1 + 1 + 1 + 1) w _ C s may a len cap) (fun pre A A' hA hf => hA.move hf) ?hi ?hy _ (HST.out _)).mono ?_
  case hi =>
    intro pre A hA
    exact ⟨hA.b3, cell_of_block hA.b4 rfl, cell_of_block hA.b5 rfl, cell_of_block hA.b6 rfl, HD.out.move hA.fr, HP.out.move hA.fr, HT.out.move hA.fr⟩
  case hy =>
    intro pre m to W hW hlen
    refine ⟨fn, _, _, _, run_yield hW.loop rfl, roundIn_of_wpIn hfn ?_⟩
    gi_wp2_with fail
    have np := alloc_new W (.cells #[.int .u64 (m : Int), .int .i64 to] 43)
    have fa := (Fr.refl none_ W).alloc (.cells #[.int .u64 (m : Int), .int .i64 to] 43)
    have hW2 := hW.move fa
    obtain ⟨v, h1, h2⟩ := hW.lv
    have hvl : ∀ j, v.ownBlock = some j → j < W.heap.size := fun j hj => (h2.lt j hj).2
    replace h1 := fa.at_ h1 (fun h => h)
    replace h2 := row_keep h2 fa (fun _ _ h => h)
    have hgk := hW.sz
    obtain ⟨g, hg⟩ : ∃ g, W.heap.size = g := ⟨_, rfl⟩
    rw [hg] at np hgk hvl ⊢
    obtain ⟨Wp, hWp⟩ : ∃ x, W.alloc (.cells #[.int .u64 (m : Int), .int .i64 to] 43) = x := ⟨_, rfl⟩
    rw [hWp] at np hW2 h1 h2 ⊢
    clear hW hg hWp fa
    obtain ⟨_, ha, hl, hd, hf, hsz, h3, h4, h5, h6⟩ := hW2
    refine ⟨_, run_beginRound hl rfl, ?_⟩
    refine with_put (C := fun Wb => Code.wpIn _ _ _ _ _ _ Wb) ?_ (lt_of_block hl)
    intro Wb hne hat hfr hsb
    have KB := Lib.hid ((hne (b + 1) (by omega)).trans h1)
    have KR := Lib.hid (ownsRow_same h2 (fun j hj => hne j (by have := (h2.lt j hj).1; omega)))
    have KA := Lib.hid ((hne (b + 1 + 1) (by omega)).trans ha)
    have KL := Lib.hid hat
    have KD := Lib.hid ((hne _ (by omega)).trans hd)
    have KF := Lib.hid (hfr _ _ hf (.inr (by have := HBE.out; omega)))
    have K3 := Lib.hid ((hne _ (by omega)).trans h3)
    have K4 := Lib.hid ((hne _ (by omega)).trans h4)
    have K5 := Lib.hid ((hne _ (by omega)).trans h5)
    have K6 := Lib.hid ((hne _ (by omega)).trans h6)
    have KP := Lib.hid ((hne g (by omega)).trans np)
    have hsb' : b + 1 + 1 + 1 + 1 + 1 + 1 + 1 + 2 ≤ Wb.heap.size := by omega
    clear h1 h2 ha hl hd hf hsz h3 h4 h5 h6 hne hat hfr hsb np
    have c0 : Wb.cell? ⟨b + 1, 0, none⟩ = some v := cell_of_block KB.out rfl
    have c1 : Wb.cell? ⟨g, 0, none⟩ = some (.int .u64 (m : Int)) := cell_of_block KP.out rfl
    have c2 : Wb.cell? ⟨g, 1, none⟩ = some (.int .i64 to) := cell_of_block KP.out rfl
    obtain ⟨i0, hi, hz0, hz1, hz2⟩ := info_parts piece_info3
    gi_wp2_with (gi_at_builtin; refine wpListIn_append_own _ rfl (.tmp 19) (.tmp 21) 52 rfl (b + 1 + 1 + 1 + 1 + 1 + 1 + 1 + 2) 43 i0 _ 2 16 Tryz.underlying52 hi hz0 hz1 hz2 rfl (by decide) _ pre.length (piecesV pre) rfl (KR.out.alloc _) ⟨Wb.heap.size, 0, none⟩ 1 1 [.int .u64 (m : Int), .int .i64 to] rfl rfl (getElem_block (alloc_new _ _)) ?c1 ?c2 ?c3 ?c4 ?_)
    case c1 => simp [Value.oneCell']
    case c2 => unfold maxLen; omega
    case c3 => omega
    case c4 => first | omega | (simp; omega)
    intro v1 w1 hown1 hgrow1 _
    obtain ⟨g1, cap1, rfl, hg1, hg1'⟩ := hown1.form (by omega)
    have hub : ∀ j, v.ownBlock = some j → b + 1 + 1 + 1 + 1 + 1 + 1 + 1 + 2 ≤ j := fun j hj => (KR.out.lt j hj).1
    have hk : ∀ j o, Wb.heap[j]? = some o → v.ownBlock ≠ some j → w1.heap[j]? = some o := fun j o hb hne => by
      rw [hgrow1.block j (by have := lt_of_block hb; simp; omega) (fun e => hne e.symm)]
      exact (Below.heap_alloc _ _ _ (lt_of_block hb)).trans hb
    have lo : ∀ j, j < b + 1 + 1 + 1 + 1 + 1 + 1 + 1 + 2 → v.ownBlock ≠ some j := fun j hj e => by have := hub j e; omega
    have M1 := Lib.hid (hk _ _ KB.out (lo _ (by omega)))
    have M2 := Lib.hid (hk _ _ KA.out (lo _ (by omega)))
    have ML := Lib.hid (hk _ _ KL.out (lo _ (by omega)))
    have MD := Lib.hid (hk _ _ KD.out (lo _ (by omega)))
    have M3 := Lib.hid (hk _ _ K3.out (lo _ (by omega)))
    have M4 := Lib.hid (hk _ _ K4.out (lo _ (by omega)))
    have M5 := Lib.hid (hk _ _ K5.out (lo _ (by omega)))
    have M6 := Lib.hid (hk _ _ K6.out (lo _ (by omega)))
    have MP := Lib.hid (hk _ _ KP.out (fun e => by have := hvl g e; omega))
    have MF := Lib.hid ((KF.out.alloc (.cells #[.int .u64 (m : Int), .int .i64 to] 43)).grown hgrow1 (fun j hj => .inr (by have := hub j hj; have := HBE.out; omega)))
    have MO := Lib.hid hown1
    have MS : b + 1 + 1 + 1 + 1 + 1 + 1 + 1 + 2 ≤ w1.heap.size := by have := hgrow1.size; simp at this; omega
    have d0 : w1.cell? ⟨b + 1, 0, none⟩ = some v := cell_of_block M1.out rfl
    have df : w1.frozen? ⟨b + 1, 0, none⟩ = false := free_of_block M1.out
    have eh : ∀ k, k ≠ b + 1 → (w1.setCell ⟨b + 1, 0, none⟩ (.slice (some ⟨g1, 0, none⟩) (pre.length + 1) cap1)).heap[k]? = w1.heap[k]? := fun k hk => Below.heap_setCell _ _ _ _ hk
    have c1' : (w1.setCell ⟨b + 1, 0, none⟩ (.slice (some ⟨g1, 0, none⟩) (pre.length + 1) cap1)).cell? ⟨g, 1, none⟩ = some (.int .i64 to) := cell_of_block ((eh g (by omega)).trans MP.out) rfl
    have c2' : (w1.setCell ⟨b + 1, 0, none⟩ (.slice (some ⟨g1, 0, none⟩) (pre.length + 1) cap1)).cell? ⟨b + 1 + 1, 0, none⟩ = some (.int .i64 (endM pre)) := cell_of_block ((eh _ (by omega)).trans M2.out) rfl
    have c3' : (w1.setCell ⟨b + 1, 0, none⟩ (.slice (some ⟨g1, 0, none⟩) (pre.length + 1) cap1)).frozen? ⟨b + 1 + 1, 0, none⟩ = false := free_of_block ((eh _ (by omega)).trans M2.out)
    clear hown1 hgrow1 hub hk lo c0 c1 c2 KB KR KA KL KD KF K3 K4 K5 K6 KP eh
    gi_wp2_with fail
    have e0 := heap_setCell w1 M1.out 0 (.slice (some ⟨g1, 0, none⟩) (pre.length + 1) cap1)
    have eh : ∀ k, k ≠ b + 1 → (w1.setCell ⟨b + 1, 0, none⟩ (.slice (some ⟨g1, 0, none⟩) (pre.length + 1) cap1)).heap[k]? = w1.heap[k]? := fun k hk => Below.heap_setCell _ _ _ _ hk
    have e1 := (eh _ (show b + 1 + 1 ≠ b + 1 by omega)).trans M2.out
    have hsz0 : (w1.setCell ⟨b + 1, 0, none⟩ (.slice (some ⟨g1, 0, none⟩) (pre.length + 1) cap1)).heap.size = w1.heap.size := by simp
    have ef := MF.out.setCell (p := ⟨b + 1, 0, none⟩) (.inr (by have := HBE.out; show w.heap.size ≤ b + 1; omega)) (.slice (some ⟨g1, 0, none⟩) (pre.length + 1) cap1)
    have eo := ownsRow_same (w' := w1.setCell ⟨b + 1, 0, none⟩ (.slice (some ⟨g1, 0, none⟩) (pre.length + 1) cap1)) MO.out (fun j hj => eh j (by have := (MO.out.lt j hj).1; omega))
    have eL := (eh _ (by omega)).trans ML.out
    have eD := (eh _ (by omega)).trans MD.out
    have e3 := (eh _ (by omega)).trans M3.out
    have e4 := (eh _ (by omega)).trans M4.out
    have e5 := (eh _ (by omega)).trans M5.out
    have e6 := (eh _ (by omega)).trans M6.out
    clear c1' c2' c3' d0 df eh
    obtain ⟨wz, hwz⟩ : ∃ x, w1.setCell ⟨b + 1, 0, none⟩ (.slice (some ⟨g1, 0, none⟩) (pre.length + 1) cap1) = x := ⟨_, rfl⟩
    rw [hwz] at e0 e1 hsz0 ef eo eL eD e3 e4 e5 e6 ⊢
    have a0 := heap_setCell wz e1 0 (.int .i64 to)
    have ah : ∀ k, k ≠ b + 1 + 1 → (wz.setCell ⟨b + 1 + 1, 0, none⟩ (.int .i64 to)).heap[k]? = wz.heap[k]? := fun k hk => Below.heap_setCell _ _ _ _ hk
    have af := ef.setCell (p := ⟨b + 1 + 1, 0, none⟩) (.inr (by have := HBE.out; show w.heap.size ≤ b + 1 + 1; omega)) (.int .i64 to)
    have ao := ownsRow_same (w' := wz.setCell ⟨b + 1 + 1, 0, none⟩ (.int .i64 to)) eo (fun j hj => ah j (by have := (eo.lt j hj).1; omega))
    have a1 := (ah _ (by omega)).trans e0
    have aL := (ah _ (by omega)).trans eL
    have aD := (ah _ (by omega)).trans eD
    have a3 := (ah _ (by omega)).trans e3
    have a4 := (ah _ (by omega)).trans e4
    have a5 := (ah _ (by omega)).trans e5
    have a6 := (ah _ (by omega)).trans e6
    have asz : b + 1 + 1 + 1 + 1 + 1 + 1 + 1 + 2 ≤ (wz.setCell ⟨b + 1 + 1, 0, none⟩ (.int .i64 to)).heap.size := by simp; omega
    obtain ⟨wy, hwy⟩ : ∃ x, wz.setCell ⟨b + 1 + 1, 0, none⟩ (.int .i64 to) = x := ⟨_, rfl⟩
    rw [hwy] at a0 af ao a1 aL aD a3 a4 a5 a6 asz ⊢
    refine ⟨_, _, run_endRound none aL, rfl, ⟨_, (World.putObj_heap_other (by omega)).trans a1, ?_⟩, ?_, World.putObj_heap_same (lt_of_block aL), (World.putObj_heap_other (by omega)).trans aD, fr_put af _ (.inr (by have := HBE.out; omega)), by simpa using asz, (World.putObj_heap_other (by omega)).trans a3, (World.putObj_heap_other (by omega)).trans a4, (World.putObj_heap_other (by omega)).trans a5, (World.putObj_heap_other (by omega)).trans a6⟩
    · rw [List.length_append, piecesV_snoc]
      exact ownsRow_same ao (fun j hj => World.putObj_heap_other (by have := (ao.lt j hj).1; omega))
    · rw [endM_snoc]
      exact (World.putObj_heap_other (by omega)).trans a0
  rintro e W2 ⟨⟨v0, rfl⟩, hJ⟩
  obtain ⟨⟨x, h1, h2⟩, ha, hl, hd, hf, hsz, _, _, _, _⟩ := hJ
  refine ⟨none, _, run_endLoop hl (by simp), ?_⟩
  dsimp only
  refine with_put (C := fun Wb => Exit.inBlock _ (Exit.then _ _) .normal _ Wb) ?_ (lt_of_block hl)
  intro Wb hne hat hfr hsb
  have KB := Lib.hid ((hne (b + 1) (by omega)).trans h1)
  have KA := Lib.hid ((hne (b + 1 + 1) (by omega)).trans ha)
  have KR := Lib.hid (ownsRow_same h2 (fun j hj => hne j (by have := (h2.lt j hj).1; omega)))
  have KD := Lib.hid ((hne _ (by omega)).trans hd)
  have KF := Lib.hid (hfr _ _ hf (.inr (by have := HBE.out; omega)))
  clear h1 h2 ha hl hd hf hsz hne hat hfr hsb
  have c0 : Wb.cell? ⟨b + 1, 0, none⟩ = some x := cell_of_block KB.out rfl
  have c1 : Wb.cell? ⟨b + 1 + 1, 0, none⟩ = some (.int .i64 (endM (allM D (bytesN s) may ps))) := cell_of_block KA.out rfl
  gi_wp2_with fail
  gi_region
  all_goals
    gi_wp2_with fail
    have KRd := KR.out.drew
    have KDd : Wb.drew.heap[b + 1 + 1 + 1 + 1 + 1 + 1 + 1]? = some (.deferred (some [])) := KD.out
    have KFd := KF.out.drew
    refine ⟨by simp, .inl ⟨_, _, rfl, run_takeDeferred KDd, ?_⟩⟩
    refine ⟨_, results_tmp2 rfl _ _ _, _, _, rfl, (ownsRow_same KRd (fun j hj => World.putObj_heap_other (by have := (KRd.lt j hj).1; omega))), by have := HBE.out; omega, fr_put KFd _ (.inr (by have := HBE.out; omega))⟩
end Go.Proofs.YtglflmkkecephaaGreatDoor

namespace Go.Proofs.YtglflmkkecephaaGreatDoor set_option linter.unusedVariables false set_option linter.unusedSimpArgs false
open Go.RowKit

def zs7 : List ByteArray := [⟨#[91, 97, 45, 122, 93, 43]⟩, ⟨#[105, 102]⟩]
def ov7 : List (Int × Int) := [(1, 0)]
def works7B : Bool := match ofM zs7 with
  | .ok d => decide (pickM d [105, 102] 0 3 ov7 = (1, 2)) && decide (pickM d [105, 102, 102] 0 3 ov7 = (0, 3)) && decide (pickM d [105, 102] 0 3 [] = (-1, 2)) && decide (allM d [105, 102] 3 ov7 = [(2, 2)]) && decide (longM d [105, 102, 33] 0 1 = (1, 2)) && decide (d.tags.length ≤ 100) && d.tags.all fun t => decide (t < 18446744073709551616)
  | .error _ => false
theorem works7B_true : works7B = true := by decide +kernel
theorem win7 : winM 3 ov7 = 2 := by decide +kernel
theorem works7_parts : ∃ d, ofM zs7 = .ok d ∧ pickM d [105, 102] 0 3 ov7 = (1, 2) ∧ pickM d [105, 102, 102] 0 3 ov7 = (0, 3) ∧ pickM d [105, 102] 0 3 [] = (-1, 2) ∧ allM d [105, 102] 3 ov7 = [(2, 2)] ∧ longM d [105, 102, 33] 0 1 = (1, 2) ∧ d.tags.length ≤ 100 ∧ ∀ t ∈ d.tags, t < 18446744073709551616 := by
  have h := works7B_true
  unfold works7B at h
  split at h
  · rename_i d hd
    simp only [Bool.and_eq_true, decide_eq_true_eq, List.all_eq_true] at h
    obtain ⟨⟨⟨⟨⟨⟨h1, h2⟩, h3⟩, h4⟩, h5⟩, h6⟩, h7⟩ := h
    exact ⟨d, hd, h1, h2, h3, h4, h5, h6, h7⟩
  · cases h
end Go.Proofs.YtglflmkkecephaaGreatDoor

namespace Go.Proofs.YtglflmkkecephaaGreatDoor set_option linter.unusedVariables false set_option linter.unusedSimpArgs false
open Go.RowKit

theorem PairsIn.lit {w : World} {g : Nat} {x y : Int} {t : TypeId} (h : w.heap[g]? = some (.cells #[.int .i64 x, .int .i64 y] t (0, 0))) : PairsIn w (some ⟨g, 0, none⟩) 1 [(x, y)] := by
  refine ⟨rfl, by decide, fun j p hp => ?_⟩
  have hj : j = 0 := by
    have := (List.getElem?_eq_some_iff.1 hp).1
    simp at this; omega
  subst hj
  have e : (x, y) = p := by simpa using hp
  subst e
  exact ⟨_, rfl, by rw [Addr.add_mid]; exact cell_of_block h rfl, by rw [Addr.add_mid]; exact cell_of_block h rfl⟩
theorem PairsIn.nil (w : World) : PairsIn w none 0 [] := ⟨rfl, by decide, fun j p hp => by simp at hp⟩

set_option maxRecDepth 100000 in
set_option maxHeartbeats 8000000 in
theorem works7_any (w : World) (hp : PowOk w) (hT : TabOk w) : Calls Tryz.prog 15 #[] w fun e w' => e = .returned (.bool true) ∧ Fr none_ w w' := by
  obtain ⟨d, hd, k1, k2, k3, k4, k5, htl, htg⟩ := works7_parts
  have HP := Lib.hid hp
  have HT := Lib.hid hT
  have HDD := Lib.hid hd
  have HTG := Lib.hid htg
  have K1 := Lib.hid (show pickM d (bytesN ⟨#[105, 102]⟩) 0 3 ov7 = (1, 2) from k1)
  have K2 := Lib.hid (show pickM d (bytesN ⟨#[105, 102, 102]⟩) 0 3 ov7 = (0, 3) from k2)
  have K3 := Lib.hid (show pickM d (bytesN ⟨#[105, 102]⟩) 0 3 [] = (-1, 2) from k3)
  have K4 := Lib.hid (show allM d (bytesN ⟨#[105, 102]⟩) 3 ov7 = [(2, 2)] from k4)
  have K5 := Lib.hid (show longM d (bytesN ⟨#[105, 102, 33]⟩) 0 1 = (1, 2) from k5)
  clear hp hT hd htg k1 k2 k3 k4 k5
  go_enter Tryz.func15, Tryz.ntmps15
  go_wp2_with fail
  have FA := Lib.hid ((Fr.refl none_ w).alloc (.cells #[.string ⟨#[91, 97, 45, 122, 93, 43]⟩, .string ⟨#[105, 102]⟩] 9))
  refine (miniof_any _ _ _ zs7 _ (StrsAt.lit (l := zs7) (alloc_new w _) (by decide) (by decide)) (by decide) (by decide) (HP.out.move FA.out)).mono ?_
  rintro e w1 ⟨hO, F1⟩
  rw [HDD.out] at hO
  obtain ⟨v1, rfl, hD1⟩ := hO
  obtain ⟨C1, na, ncap, rfl, hz1, hone1, hbad⟩ := hD1.cells2
  clear hbad
  have HD1 := Lib.hid hD1
  have FB := Lib.hid (FA.out.tr F1)
  clear hD1 F1 FA
  have LR := laid_row w1 Tryz.zeroCells26 26 C1.toArray
  have LF := Lib.hid LR.1
  have LB := Lib.hid LR.2
  clear LR
  have hsza := setRow_size w1 Tryz.zeroCells26 26 C1.toArray
  have HSZ := Lib.hid hsza
  clear hsza
  have LB2 := Lib.hid (((Fr.refl none_ ((w1.alloc (.cells Tryz.zeroCells26 26)).setRow w1.heap.size C1.toArray)).alloc (.cells #[.int .i64 1, .int .i64 0] 57)).at_ LB.out (fun h => h))
  go_wp2_with (first
    | (refine wpList_store_row rfl 26 (.tmp 1) (.tmp 15) rfl w1.heap.size 26 Tryz.zeroCells26 C1.toArray rfl rfl (alloc_new w1 _) ?_ ?_ hone1 ?_; (rw [List.size_toArray, hz1]; exact dfa_info); (rw [zeroD_size, List.size_toArray, hz1]))
    | (refine wpList_load_row rfl 26 (.tmp 1) rfl w1.heap.size 26 C1 _ rfl LB2.out Tryz.underlying26 rfl ?_ ?_; (rw [hz1]; exact dfa_info)))
  have PA := alloc_new ((w1.alloc (.cells Tryz.zeroCells26 26)).setRow w1.heap.size C1.toArray) (.cells #[.int .i64 1, .int .i64 0] 57)
  rw [HSZ.out] at PA
  have FX := Lib.hid (LF.out.alloc (.cells #[.int .i64 1, .int .i64 0] 57))
  have DA := Lib.hid (HD1.out.move FX.out)
  have FC := Lib.hid (FB.out.tr FX.out)
  obtain ⟨b1, hb1⟩ : ∃ x, w1.heap.size = x := ⟨_, rfl⟩
  obtain ⟨g, hg⟩ : ∃ x, b1 + 1 = x := ⟨_, rfl⟩
  obtain ⟨wa, hwa⟩ : ∃ x, ((w1.alloc (.cells Tryz.zeroCells26 26)).setRow w1.heap.size C1.toArray).alloc (.cells #[.int .i64 1, .int .i64 0] 57) = x := ⟨_, rfl⟩
  rw [hwa] at PA FX DA FC LB2 ⊢
  rw [hb1] at PA LB2 ⊢
  rw [hg] at PA ⊢
  have PR := Lib.hid (show PairsIn wa (some ⟨g, 0, none⟩) 1 ov7 from PairsIn.lit PA)
  clear hwa hg hb1 PA LB LF HSZ HD1 FB FX
  refine (pick_any d _ ⟨#[105, 102]⟩ 0 3 ov7 (some ⟨g, 0, none⟩) 1 1 _ DA.out HTG.out (by decide) (by decide) PR.out (HT.out.move FC.out)).mono ?_
  rintro e w2 ⟨rfl, F2⟩
  rw [K1.out]
  have G2 := Lib.hid F2
  have L2 := Lib.hid (F2.at_ LB2.out (fun h => h))
  clear F2
  go_wp2_with (refine wpList_load_row rfl 26 (.tmp 1) rfl b1 26 C1 _ rfl L2.out Tryz.underlying26 rfl ?_ ?_; (rw [hz1]; exact dfa_info))
  refine (pick_any d _ ⟨#[105, 102, 102]⟩ 0 3 ov7 (some ⟨g, 0, none⟩) 1 1 _ (DA.out.move G2.out) HTG.out (by decide) (by decide) (PR.out.move G2.out) (HT.out.move (FC.out.tr G2.out))).mono ?_
  rintro e w3 ⟨rfl, F2⟩
  rw [K2.out]
  have G3 := Lib.hid (G2.out.tr F2)
  have L3 := Lib.hid (F2.at_ L2.out (fun h => h))
  clear F2 L2 G2
  go_wp2_with (refine wpList_load_row rfl 26 (.tmp 1) rfl b1 26 C1 _ rfl L3.out Tryz.underlying26 rfl ?_ ?_; (rw [hz1]; exact dfa_info))
  refine (pick_any d _ ⟨#[105, 102]⟩ 0 3 [] none 0 0 _ (DA.out.move G3.out) HTG.out (by decide) (by decide) (PairsIn.nil _) (HT.out.move (FC.out.tr G3.out))).mono ?_
  rintro e w4 ⟨rfl, F2⟩
  rw [K3.out]
  have G4 := Lib.hid (G3.out.tr F2)
  have L4 := Lib.hid (F2.at_ L3.out (fun h => h))
  clear F2 L3 G3
  go_wp2_with (refine wpList_load_row rfl 26 (.tmp 1) rfl b1 26 C1 _ rfl L4.out Tryz.underlying26 rfl ?_ ?_; (rw [hz1]; exact dfa_info))
  refine (all_any d _ ⟨#[105, 102]⟩ 3 ov7 (some ⟨g, 0, none⟩) 1 1 _ (DA.out.move G4.out) HTG.out (by decide) (by decide) (PR.out.move G4.out) (HT.out.move (FC.out.tr G4.out))).mono ?_
  rintro e w5 ⟨u, base, rfl, hown, _, F2⟩
  rw [K4.out] at hown ⊢
  have G5 := Lib.hid (G4.out.tr F2)
  have L5 := Lib.hid (F2.at_ L4.out (fun h => h))
  obtain ⟨gl, lcap, rfl, _, _⟩ := hown.form (by decide)
  have q0 : w5.cell? ⟨gl, 0, none⟩ = some (.int .u64 2) := hown.cellAt 0 (by decide)
  have q1 : w5.cell? ⟨gl, 1, none⟩ = some (.int .i64 2) := hown.cellAt 1 (by decide)
  clear F2 L4 G4 hown
  go_wp2_with fail
  refine (win_any 3 ov7 (some ⟨g, 0, none⟩) 1 1 _ (by decide) (PR.out.move G5.out) (HT.out.move (FC.out.tr G5.out))).mono ?_
  rintro e w6 ⟨rfl, F2⟩
  rw [win7]
  have G6 := Lib.hid (G5.out.tr F2)
  have L6 := Lib.hid (F2.at_ L5.out (fun h => h))
  clear F2 L5 G5 q0 q1
  go_wp2_with fail
  refine wp_load_mid 26 _ rfl b1 0 rfl C1 _ (range_of L6.out) Tryz.underlying26 rfl (by rw [hz1]; exact dfa_info) ?_
  go_wp2_with fail
  refine (longest_any d _ ⟨#[105, 102, 33]⟩ 0 1 _ (DA.out.move G6.out) HTG.out (by decide) (by decide)).mono ?_
  rintro e w7 ⟨rfl, F2⟩
  rw [K5.out]
  have G7 := Lib.hid (G6.out.tr F2)
  clear F2 L6 G6
  go_wp2_with fail
  go_ret
  exact ⟨rfl, FC.out.tr G7.out⟩
end Go.Proofs.YtglflmkkecephaaGreatDoor

namespace Go.Proofs.YtglflmkkecephaaGreatDoor set_option linter.unusedVariables false set_option linter.unusedSimpArgs false
open Go.RowKit

/-- One lies in another. -/
def Sub (a b : Nat) : Prop := a &&& b = a
theorem sub_bit {a b : Nat} : Sub a b ↔ ∀ i, a.testBit i = true → b.testBit i = true := by
  constructor
  · intro h i hi
    have h1 : (a &&& b).testBit i = true := by rw [show a &&& b = a from h]; exact hi
    rw [Nat.testBit_and, Bool.and_eq_true] at h1
    exact h1.2
  · intro h
    show a &&& b = a
    apply Nat.eq_of_testBit_eq
    intro i
    rw [Nat.testBit_and]
    cases hi : a.testBit i with
    | false => rfl
    | true => rw [h i hi]; rfl
theorem sub_zero (b : Nat) : Sub 0 b := Nat.zero_and b
theorem fewer_to (D : Dfa) (bs : List Nat) (a may less : Nat) : ∀ d, (longTo D bs a (may &&& less) d).2 ≤ (longTo D bs a may d).2 ∧ (longTo D bs a may d).2 ≤ a + d ∧ Sub (longTo D bs a (may &&& less) d).1 may ∧ ((longTo D bs a (may &&& less) d).2 = (longTo D bs a may d).2 → Sub (longTo D bs a (may &&& less) d).1 (longTo D bs a may d).1)
  | 0 => ⟨Nat.le_refl _, Nat.le_refl _, sub_zero _, fun _ => sub_zero _⟩
  | d + 1 => by
    obtain ⟨h1, h2, h3, h4⟩ := fewer_to D bs a may less d
    obtain ⟨r, hr⟩ : ∃ r, runD D ((bs.drop a).take (d + 1)) = r := ⟨_, rfl⟩
    simp only [longTo, hr]
    have hs : Sub (r &&& (may &&& less)) (r &&& may) := sub_bit.2 fun i hi => by
      simp only [Nat.testBit_and, Bool.and_eq_true] at hi ⊢
      exact ⟨hi.1, hi.2.1⟩
    have hm : Sub (r &&& (may &&& less)) may := sub_bit.2 fun i hi => by
      simp only [Nat.testBit_and, Bool.and_eq_true] at hi
      exact hi.2.1
    by_cases e1 : r &&& (may &&& less) = 0
    · rw [if_pos e1]
      by_cases e2 : r &&& may = 0
      · rw [if_pos e2]; exact ⟨h1, by omega, h3, h4⟩
      · rw [if_neg e2]
        refine ⟨?_, Nat.le_refl _, h3, fun h => ?_⟩
        · show _ ≤ a + d + 1; omega
        · have h : (longTo D bs a (may &&& less) d).2 = a + d + 1 := h
          omega
    · have e2 : r &&& may ≠ 0 := fun e => e1 (by
        have := hs
        rw [e] at this
        unfold Sub at this
        rw [Nat.and_zero] at this
        exact this.symm)
      rw [if_neg e1, if_neg e2]
      exact ⟨Nat.le_refl _, Nat.le_refl _, hm, fun _ => hs⟩
theorem fewer_long (D : Dfa) (bs : List Nat) (at_ : Int) (may less : Nat) : (longM D bs at_ (may &&& less)).2 ≤ (longM D bs at_ may).2 ∧ Sub (longM D bs at_ (may &&& less)).1 may ∧ ((longM D bs at_ (may &&& less)).2 = (longM D bs at_ may).2 → Sub (longM D bs at_ (may &&& less)).1 (longM D bs at_ may).1) := by
  unfold longM
  split
  · obtain ⟨h1, _, h3, h4⟩ := fewer_to D bs at_.toNat may less (bs.length - at_.toNat)
    exact ⟨by show ((longTo _ _ _ _ _).2 : Int) ≤ _; exact Int.ofNat_le.2 h1, h3, fun h => h4 (Int.ofNat.inj h)⟩
  · exact ⟨Int.le_refl _, sub_zero _, fun _ => sub_zero _⟩

theorem bits_less (a b : Nat) (ha : a < 18446744073709551616) (hb : b < 18446744073709551616) (h : Sub a b) : bits .andNot .u64 (a : Int) (b : Int) = 0 := by
  have h1 : (BitVec.ofInt 64 (a : Int)).toNat = a := by
    rw [BitVec.ofInt_natCast, BitVec.toNat_ofNat]; exact Nat.mod_eq_of_lt (by omega)
  have h2 : (BitVec.ofInt 64 (b : Int)).toNat = b := by
    rw [BitVec.ofInt_natCast, BitVec.toNat_ofNat]; exact Nat.mod_eq_of_lt (by omega)
  have h3 : BitVec.ofInt 64 (a : Int) &&& ~~~ BitVec.ofInt 64 (b : Int) = 0#64 := by
    apply BitVec.eq_of_getLsbD_eq
    intro i hi
    rw [BitVec.getLsbD_and, BitVec.getLsbD_not]
    have e1 : (BitVec.ofInt 64 (a : Int)).getLsbD i = a.testBit i := by rw [BitVec.getLsbD, h1]
    have e2 : (BitVec.ofInt 64 (b : Int)).getLsbD i = b.testBit i := by rw [BitVec.getLsbD, h2]
    rw [e1, e2]
    cases hi2 : a.testBit i with
    | false => simp
    | true => rw [sub_bit.1 h i hi2]; simp
  show IntKind.u64.wrap ((BitVec.ofInt 64 (a : Int) &&& ~~~ BitVec.ofInt 64 (b : Int)).toNat : Int) = _
  rw [h3]
  decide
theorem in_true (a b : Nat) (w : World) (ha : a < 18446744073709551616) (hb : b < 18446744073709551616) (h : Sub a b) :
    Calls Tryz.prog 25 #[.int .u64 a, .int .u64 b] w fun e w' => e = .returned (.bool true) ∧ w = w' := by
  have HL : Calls Tryz.prog 50 #[.int .u64 a, .int .u64 b] w fun e w' => e = .returned (.int .u64 0) ∧ w = w' := by
    have HB := Lib.hid (bits_less a b ha hb h)
    go_enter Tryz.func50, Tryz.ntmps50
    go_wp2_with fail
    go_ret
    exact ⟨by rw [← HB.out]; rfl, rfl⟩
  go_enter Tryz.func25, Tryz.ntmps25
  go_wp2_with fail
  refine HL.mono ?_
  rintro e w' ⟨rfl, rfl⟩
  go_wp2_with fail
  go_ret
  exact ⟨rfl, rfl⟩

set_option maxRecDepth 100000 in
set_option maxHeartbeats 4000000 in
theorem few_nil (D : Dfa) (v : Value) (s : ByteArray) (w : World) (h : DfaIn w v D) (htl : D.tags.length ≤ 9223372036854775807) :
    Calls Tryz.prog 16 #[v, .string s, .slice none 0 0] w fun e w' => e = .returned (.bool (littleM D && decide (s.size ≤ 40))) ∧ Fr none_ w w' := by
  obtain ⟨C, rfl, hz, hone⟩ := h.cells
  have HD := Lib.hid h
  have B0 := Lib.hid (alloc_new w (.cells C.toArray 26))
  have F0 := Lib.hid ((Fr.refl none_ w).alloc (.cells C.toArray 26))
  clear h hone
  go_enter Tryz.func16, Tryz.ntmps16
  go_wp2_with (refine wpList_load_row rfl 26 (.tmp 3) rfl w.heap.size 26 C _ rfl B0.out Tryz.underlying26 rfl (by rw [hz]; exact dfa_info) ?_)
  refine (little_any D _ _ (HD.out.move F0.out) htl).mono ?_
  rintro e w2 ⟨rfl, F1⟩
  have FA := Lib.hid (F0.out.tr F1)
  clear F1
  cases hl : littleM D with
  | false =>
    go_wp2_with fail
    go_ret
    exact ⟨by first | rfl | (rw [hl]; rfl), FA.out⟩
  | true =>
    by_cases h40 : s.size ≤ 40
    · have h4 : (s.size : Int) ≤ 40 := by omega
      have HE := Lib.hid (show decide (s.size ≤ 40) = true from decide_eq_true h40)
      go_wp2_with fail
      go_ret
      exact ⟨by first | rfl | (rw [hl, HE.out]; rfl) | (rw [HE.out]; rfl), FA.out⟩
    · have h4 : ¬ (s.size : Int) ≤ 40 := by omega
      have HE := Lib.hid (show decide (s.size ≤ 40) = false from decide_eq_false h40)
      go_wp2_with fail
      go_ret
      exact ⟨by first | rfl | (rw [hl, HE.out]; rfl) | (rw [HE.out]; rfl), FA.out⟩

set_option maxRecDepth 100000 in
set_option maxHeartbeats 4000000 in
theorem munchfewer_big (D : Dfa) (v : Value) (s : ByteArray) (at_ : Int) (may less : Nat) (w : World) (hD : DfaIn w v D) (htl : D.tags.length ≤ 9223372036854775807) (hl : (littleM D && decide (s.size ≤ 40)) = false) (hp : PowOk w) (hT : TabOk w) :
    Calls Tryz.prog 7 #[v, .string s, .int .i64 at_, .int .u64 (may : Int), .int .u64 (less : Int)] w fun e w' => e = .returned (.bool true) ∧ Fr none_ w w' := by
  have HL := Lib.hid hl
  clear hl
  obtain ⟨C, rfl, hz, hone⟩ := hD.cells
  have HD0 := Lib.hid hD
  have HP := Lib.hid hp
  have HT := Lib.hid hT
  have B0 := Lib.hid (alloc_new w (.cells C.toArray 26))
  have F0 := Lib.hid ((Fr.refl none_ w).alloc (.cells C.toArray 26))
  clear hD hp hT hone
  go_enter Tryz.func7, Tryz.ntmps7
  go_wp2_with fail
  refine (works7_any _ (HP.out.move F0.out) (HT.out.move F0.out)).mono ?_
  rintro e w1 ⟨rfl, F1⟩
  have B1 := Lib.hid (F1.at_ B0.out (fun h => h))
  have FA := Lib.hid (F0.out.tr F1)
  clear F1 B0 F0
  go_wp2_with (refine wpList_load_row rfl 26 (.tmp 5) rfl w.heap.size 26 C _ rfl B1.out Tryz.underlying26 rfl ?_ ?_; (rw [hz]; exact dfa_info))
  refine (few_nil D _ s _ (HD0.out.move FA.out) htl).mono ?_
  rintro e w2 ⟨rfl, F1⟩
  have B2 := Lib.hid (F1.at_ B1.out (fun h => h))
  have FB := Lib.hid (FA.out.tr F1)
  clear F1 B1 FA
  rw [HL.out]
  go_wp2_with fail
  go_ret
  exact ⟨rfl, FB.out⟩

set_option maxRecDepth 100000 in
set_option maxHeartbeats 4000000 in
theorem munchfewer_out (D : Dfa) (v : Value) (s : ByteArray) (at_ : Int) (may less : Nat) (w : World) (hD : DfaIn w v D) (htl : D.tags.length ≤ 9223372036854775807) (hl : (littleM D && decide (s.size ≤ 40)) = true) (hat : at_ < 0 ∨ (0 ≤ at_ ∧ (s.size : Int) < at_)) (hp : PowOk w) (hT : TabOk w) :
    Calls Tryz.prog 7 #[v, .string s, .int .i64 at_, .int .u64 (may : Int), .int .u64 (less : Int)] w fun e w' => e = .returned (.bool true) ∧ Fr none_ w w' := by
  have HL := Lib.hid hl
  clear hl
  obtain ⟨C, rfl, hz, hone⟩ := hD.cells
  have HD0 := Lib.hid hD
  have HP := Lib.hid hp
  have HT := Lib.hid hT
  have B0 := Lib.hid (alloc_new w (.cells C.toArray 26))
  have F0 := Lib.hid ((Fr.refl none_ w).alloc (.cells C.toArray 26))
  clear hD hp hT hone
  go_enter Tryz.func7, Tryz.ntmps7
  go_wp2_with fail
  refine (works7_any _ (HP.out.move F0.out) (HT.out.move F0.out)).mono ?_
  rintro e w1 ⟨rfl, F1⟩
  have B1 := Lib.hid (F1.at_ B0.out (fun h => h))
  have FA := Lib.hid (F0.out.tr F1)
  clear F1 B0 F0
  go_wp2_with (refine wpList_load_row rfl 26 (.tmp 5) rfl w.heap.size 26 C _ rfl B1.out Tryz.underlying26 rfl ?_ ?_; (rw [hz]; exact dfa_info))
  refine (few_nil D _ s _ (HD0.out.move FA.out) htl).mono ?_
  rintro e w2 ⟨rfl, F1⟩
  have B2 := Lib.hid (F1.at_ B1.out (fun h => h))
  have FB := Lib.hid (FA.out.tr F1)
  clear F1 B1 FA
  rw [HL.out]
  rcases hat with h0 | ⟨h0, h1⟩
  · go_wp2_with fail
    go_ret
    exact ⟨rfl, FB.out⟩
  · have h0' : ¬ at_ < 0 := by omega
    go_wp2_with fail
    go_ret
    exact ⟨rfl, FB.out⟩

set_option maxRecDepth 100000 in
set_option maxHeartbeats 4000000 in
theorem munchfewer_good (D : Dfa) (v : Value) (s : ByteArray) (at_ : Int) (may less : Nat) (w : World) (hD : DfaIn w v D) (htl : D.tags.length ≤ 9223372036854775807) (htg : ∀ t ∈ D.tags, t < 18446744073709551616) (hmay : may < 18446744073709551616) (hless : less < 18446744073709551616) (hl : (littleM D && decide (s.size ≤ 40)) = true) (h40 : s.size ≤ 40) (hat : 0 ≤ at_ ∧ at_ ≤ (s.size : Int)) (hp : PowOk w) (hT : TabOk w) :
    Calls Tryz.prog 7 #[v, .string s, .int .i64 at_, .int .u64 (may : Int), .int .u64 (less : Int)] w fun e w' => e = .returned (.bool true) ∧ Fr none_ w w' := by
  have HL := Lib.hid hl
  have HTG := Lib.hid htg
  clear hl htg
  obtain ⟨h0, h1⟩ := hat
  have h0' : ¬ at_ < 0 := by omega
  have h1' : ¬ (s.size : Int) < at_ := by omega
  have hml : may &&& less < 18446744073709551616 := Nat.lt_of_le_of_lt Nat.and_le_left hmay
  obtain ⟨r1, r2, r3⟩ := fewer_long D (bytesN s) at_ may less
  have hA := longM_lt D (bytesN s) at_ may hmay
  have hB := longM_lt D (bytesN s) at_ (may &&& less) hml
  obtain ⟨⟨m1, t1⟩, hPA⟩ : ∃ p, longM D (bytesN s) at_ may = p := ⟨_, rfl⟩
  obtain ⟨⟨m2, t2⟩, hPB⟩ : ∃ p, longM D (bytesN s) at_ (may &&& less) = p := ⟨_, rfl⟩
  rw [hPA] at r1 r3 hA
  rw [hPB] at r1 r2 r3 hB
  have HLA := Lib.hid hPA
  have HLB := Lib.hid hPB
  have R3 := Lib.hid (show t2 = t1 → Sub m2 m1 from r3)
  have R2 := Lib.hid (show Sub m2 may from r2)
  have hle : t2 ≤ t1 := r1
  have hA2 : m1 < 18446744073709551616 := hA
  have hB2 : m2 < 18446744073709551616 := hB
  clear hPA hPB r1 r2 r3 hA hB
  obtain ⟨C, rfl, hz, hone⟩ := hD.cells
  have HD0 := Lib.hid hD
  have HP := Lib.hid hp
  have HT := Lib.hid hT
  have B0 := Lib.hid (alloc_new w (.cells C.toArray 26))
  have F0 := Lib.hid ((Fr.refl none_ w).alloc (.cells C.toArray 26))
  clear hD hp hT hone
  go_enter Tryz.func7, Tryz.ntmps7
  go_wp2_with fail
  refine (works7_any _ (HP.out.move F0.out) (HT.out.move F0.out)).mono ?_
  rintro e w1 ⟨rfl, F1⟩
  have B1 := Lib.hid (F1.at_ B0.out (fun h => h))
  have FA := Lib.hid (F0.out.tr F1)
  clear F1 B0 F0
  go_wp2_with (refine wpList_load_row rfl 26 (.tmp 5) rfl w.heap.size 26 C _ rfl B1.out Tryz.underlying26 rfl ?_ ?_; (rw [hz]; exact dfa_info))
  refine (few_nil D _ s _ (HD0.out.move FA.out) htl).mono ?_
  rintro e w2 ⟨rfl, F1⟩
  have B2 := Lib.hid (F1.at_ B1.out (fun h => h))
  have FB := Lib.hid (FA.out.tr F1)
  clear F1 B1 FA
  rw [HL.out]
  go_wp2_with (refine wpList_load_row rfl 26 (.tmp 5) rfl w.heap.size 26 C _ rfl B2.out Tryz.underlying26 rfl ?_ ?_; (rw [hz]; exact dfa_info))
  refine (longest_any D _ s at_ may _ (HD0.out.move FB.out) HTG.out hmay (by omega)).mono ?_
  rintro e w2b ⟨rfl, F1⟩
  rw [HLA.out]
  have N1 := Lib.hid (alloc_new w2b (.cells #[.int .u64 (m1 : Int), .int .i64 t1] 43))
  have FX := Lib.hid (F1.alloc (.cells #[.int .u64 (m1 : Int), .int .i64 t1] 43))
  clear F1
  go_wp2_with fail
  obtain ⟨g1, hg1⟩ : ∃ x, w2b.heap.size = x := ⟨_, rfl⟩
  obtain ⟨w3, hw3⟩ : ∃ x, w2b.alloc (.cells #[.int .u64 (m1 : Int), .int .i64 t1] 43) = x := ⟨_, rfl⟩
  rw [hw3] at N1 FX ⊢
  rw [hg1] at N1 ⊢
  clear hw3 hg1
  have FC := Lib.hid (FB.out.tr FX.out)
  have DC := Lib.hid (HD0.out.move FC.out)
  have B3 := Lib.hid (FX.out.at_ B2.out (fun h => h))
  clear FX B2 FB
  have HSX := Lib.hid (show ∀ wx, Fr none_ w3 wx → wx.rangeAt w.heap.size 0 C from fun wx hf => range_of (hf.at_ B3.out (fun h => h)))
  refine wp_region_held_drew (S := fun wx => wx.rangeAt w.heap.size 0 C) (by kernel_rfl) (HSX.out _ (Fr.refl none_ w3).drew) (fun hHeld => ?_)
  try simp only [Act.put, List.setIfInBounds_toArray, List.set_cons_zero, List.set_cons_succ]
  refine wpAnyH_take (i := 0) lot0 (by kernel_rfl) (by kernel_rfl) (by kernel_rfl) (fun _ _ _ h => h) (yieldsIf_load_mid (by rfl) _ _ rfl _ _ rfl C _ (fun _ h => h) Tryz.underlying26 rfl (by rw [hz]; exact dfa_info)) (by assumption) ?_
  try simp only [Act.put, List.setIfInBounds_toArray, List.set_cons_zero, List.set_cons_succ]
  refine wpAnyH_take (i := 1) (v := ?_) lot1 (by kernel_rfl) (by kernel_rfl) (by kernel_rfl) (fun _ _ _ h => h) (Or.inl ⟨by rfl, ?_⟩) (by assumption) ?_
  rotate_left
  · (intro wv hSw; (try dsimp only at hSw); go_simp) <;> with_reducible rfl
  try simp only [Act.put, List.setIfInBounds_toArray, List.set_cons_zero, List.set_cons_succ]
  refine wpAnyH_take (i := 2) (v := ?_) lot2 (by kernel_rfl) (by kernel_rfl) (by kernel_rfl) (fun _ _ _ h => h) (Or.inl ⟨by rfl, ?_⟩) (by assumption) ?_
  rotate_left
  · (intro wv hSw; (try dsimp only at hSw); go_simp) <;> with_reducible rfl
  try simp only [Act.put, List.setIfInBounds_toArray, List.set_cons_zero, List.set_cons_succ]
  refine wpAnyH_take (i := 3) (v := ?_) lot3 (by kernel_rfl) (by kernel_rfl) (by kernel_rfl) (fun _ _ _ h => h) (Or.inl ⟨by rfl, ?_⟩) (by assumption) ?_
  rotate_left
  · (intro wv hSw; (try dsimp only at hSw); go_simp) <;> with_reducible rfl
  try simp only [Act.put, List.setIfInBounds_toArray, List.set_cons_zero, List.set_cons_succ]
  refine wpAnyH_take (i := 4) (v := ?_) lot4 (by kernel_rfl) (by kernel_rfl) (by kernel_rfl) (fun _ _ _ h => h) (Or.inl ⟨by rfl, ?_⟩) (by assumption) ?_
  rotate_left
  · (intro wv hSw; (try dsimp only at hSw); go_simp) <;> with_reducible rfl
  try simp only [Act.put, List.setIfInBounds_toArray, List.set_cons_zero, List.set_cons_succ]
  obtain ⟨wz, hwz⟩ : ∃ y, w3.drew = y := ⟨_, rfl⟩
  have Gwz := Lib.hid (Fr.refl none_ w3).drew
  rw [hwz] at Gwz hHeld ⊢
  clear hwz
  refine wpAnyH_ready (rs := [5, 7]) (by kernel_rfl) (by simp) ?_
  refine AllReadyH.cons lot5 (fun K hK => ?gA) (AllReadyH.cons lot7 (fun K hK => ?gB) AllReadyH.nil)
  case' gA =>
    go_simp
    go_at_call 29
    refine (meet_any may less _ hmay hless).mono ?_
    rintro e wm ⟨rfl, rfl⟩
    refine hK.out _ _ (HSX.out _ Gwz.out) (fun hHeld => ?_)
    clear hK K
    try simp only [Act.put, List.setIfInBounds_toArray, List.set_cons_zero, List.set_cons_succ]
    refine wpAnyH_ready (rs := [6, 7]) (by kernel_rfl) (by simp) ?_
    refine AllReadyH.cons lot6 (fun K hK => ?gC) (AllReadyH.cons lot7 (fun K hK => ?gD) AllReadyH.nil)
    case' gC =>
      go_simp
      go_at_call 17
      refine (longest_any D _ s at_ (may &&& less) _ (DC.out.move Gwz.out) HTG.out hml (by omega)).mono ?_
      rintro e wx ⟨rfl, Fwx⟩
      rw [HLB.out]
      have Gwx := Lib.hid ((Gwz.out).tr Fwx)
      refine hK.out _ _ (HSX.out _ Gwx.out) (fun hHeld => ?_)
      clear hK K
      try simp only [Act.put, List.setIfInBounds_toArray, List.set_cons_zero, List.set_cons_succ]
      refine wpAnyH_ready (rs := [7]) (by kernel_rfl) (by simp) ?_
      refine AllReadyH.cons lot7 (fun K hK => ?_) AllReadyH.nil
      go_simp
      refine hK.out _ _ (HSX.out _ ((Gwx.out).alloc (.cells #[.int .u64 0, .int .i64 0] 43))) (fun hHeld => ?_)
      clear hK K
      try simp only [Act.put, List.setIfInBounds_toArray, List.set_cons_zero, List.set_cons_succ]
      obtain ⟨WE, hWE⟩ : ∃ y, (wx).alloc (.cells #[.int .u64 0, .int .i64 0] 43) = y := ⟨_, rfl⟩
      have GWE := Lib.hid ((Gwx.out).alloc (.cells #[.int .u64 0, .int .i64 0] 43))
      have PB := Lib.hid (alloc_new (wx) (.cells #[.int .u64 0, .int .i64 0] 43))
      obtain ⟨g2, hg2⟩ : ∃ y, (wx).heap.size = y := ⟨_, rfl⟩
      have hge : w3.heap.size ≤ g2 := by have := (Gwx.out).size; omega
      rw [hWE] at GWE PB hHeld ⊢
      rw [hg2] at PB ⊢
      clear hWE hg2
    case' gD =>
      go_simp
      refine hK.out _ _ (HSX.out _ ((Gwz.out).alloc (.cells #[.int .u64 0, .int .i64 0] 43))) (fun hHeld => ?_)
      clear hK K
      try simp only [Act.put, List.setIfInBounds_toArray, List.set_cons_zero, List.set_cons_succ]
      obtain ⟨wy, hwy⟩ : ∃ y, (wz).alloc (.cells #[.int .u64 0, .int .i64 0] 43) = y := ⟨_, rfl⟩
      have Gwy := Lib.hid ((Gwz.out).alloc (.cells #[.int .u64 0, .int .i64 0] 43))
      have PB := Lib.hid (alloc_new (wz) (.cells #[.int .u64 0, .int .i64 0] 43))
      obtain ⟨g2, hg2⟩ : ∃ y, (wz).heap.size = y := ⟨_, rfl⟩
      have hge : w3.heap.size ≤ g2 := by have := (Gwz.out).size; omega
      rw [hwy] at Gwy PB hHeld ⊢
      rw [hg2] at PB ⊢
      clear hwy hg2
      refine wpAnyH_ready (rs := [6]) (by kernel_rfl) (by simp) ?_
      refine AllReadyH.cons lot6 (fun K hK => ?_) AllReadyH.nil
      go_simp
      go_at_call 17
      refine (longest_any D _ s at_ (may &&& less) _ (DC.out.move Gwy.out) HTG.out hml (by omega)).mono ?_
      rintro e WE ⟨rfl, FWE⟩
      rw [HLB.out]
      have GWE := Lib.hid ((Gwy.out).tr FWE)
      refine hK.out _ _ (HSX.out _ GWE.out) (fun hHeld => ?_)
      clear hK K
      try simp only [Act.put, List.setIfInBounds_toArray, List.set_cons_zero, List.set_cons_succ]
      replace PB := Lib.hid (FWE.at_ PB.out (fun h => h))
  case' gB =>
    go_simp
    refine hK.out _ _ (HSX.out _ ((Gwz.out).alloc (.cells #[.int .u64 0, .int .i64 0] 43))) (fun hHeld => ?_)
    clear hK K
    try simp only [Act.put, List.setIfInBounds_toArray, List.set_cons_zero, List.set_cons_succ]
    obtain ⟨wy, hwy⟩ : ∃ y, (wz).alloc (.cells #[.int .u64 0, .int .i64 0] 43) = y := ⟨_, rfl⟩
    have Gwy := Lib.hid ((Gwz.out).alloc (.cells #[.int .u64 0, .int .i64 0] 43))
    have PB := Lib.hid (alloc_new (wz) (.cells #[.int .u64 0, .int .i64 0] 43))
    obtain ⟨g2, hg2⟩ : ∃ y, (wz).heap.size = y := ⟨_, rfl⟩
    have hge : w3.heap.size ≤ g2 := by have := (Gwz.out).size; omega
    rw [hwy] at Gwy PB hHeld ⊢
    rw [hg2] at PB ⊢
    clear hwy hg2
    refine wpAnyH_ready (rs := [5]) (by kernel_rfl) (by simp) ?_
    refine AllReadyH.cons lot5 (fun K hK => ?_) AllReadyH.nil
    go_simp
    go_at_call 29
    refine (meet_any may less _ hmay hless).mono ?_
    rintro e wm ⟨rfl, rfl⟩
    refine hK.out _ _ (HSX.out _ Gwy.out) (fun hHeld => ?_)
    clear hK K
    try simp only [Act.put, List.setIfInBounds_toArray, List.set_cons_zero, List.set_cons_succ]
    refine wpAnyH_ready (rs := [6]) (by kernel_rfl) (by simp) ?_
    refine AllReadyH.cons lot6 (fun K hK => ?_) AllReadyH.nil
    go_simp
    go_at_call 17
    refine (longest_any D _ s at_ (may &&& less) _ (DC.out.move Gwy.out) HTG.out hml (by omega)).mono ?_
    rintro e WE ⟨rfl, FWE⟩
    rw [HLB.out]
    have GWE := Lib.hid ((Gwy.out).tr FWE)
    refine hK.out _ _ (HSX.out _ GWE.out) (fun hHeld => ?_)
    clear hK K
    try simp only [Act.put, List.setIfInBounds_toArray, List.set_cons_zero, List.set_cons_succ]
    replace PB := Lib.hid (FWE.at_ PB.out (fun h => h))
  all_goals
    have q0 : WE.cell? ⟨g2, 0, none⟩ = some (.int .u64 0) := cell_of_block PB.out rfl
    have q1 : WE.cell? ⟨g2, 1, none⟩ = some (.int .i64 0) := cell_of_block PB.out rfl
    have q2 : WE.frozen? ⟨g2, 0, none⟩ = false := free_of_block PB.out
    have q3 : WE.frozen? ⟨g2, 1, none⟩ = false := free_of_block PB.out
    refine wpAnyH_ready (rs := [8]) (by kernel_rfl) (by simp) ?_
    refine AllReadyH.cons lot8 (fun K hK => ?_) AllReadyH.nil
    go_simp
    have FF := Lib.hid ((GWE.out.setCell (p := ⟨g2, 0, none⟩) (.inr hge) (.int .u64 (m2 : Int))).setCell (p := ⟨g2, 1, none⟩) (.inr hge) (.int .i64 t2))
    refine hK.out _ _ (HSX.out _ FF.out) (fun hHeld => ?_)
    clear hK K q0 q1 q2 q3
    try simp only [Act.put, List.setIfInBounds_toArray, List.set_cons_zero, List.set_cons_succ]
    refine wpAnyH_done (by kernel_rfl) ?_ _
    have PBF := Lib.hid (lg_end PB.out (.int .u64 (m2 : Int)) (.int .i64 t2))
    have N1F := Lib.hid (FF.out.at_ N1.out (fun h => h))
    obtain ⟨wF, hwF⟩ : ∃ y, (WE.setCell ⟨g2, 0, none⟩ (.int .u64 (m2 : Int))).setCell ⟨g2, 1, none⟩ (.int .i64 t2) = y := ⟨_, rfl⟩
    rw [hwF] at FF PBF N1F ⊢
    have u0 : wF.cell? ⟨g2, 0, none⟩ = some (.int .u64 (m2 : Int)) := cell_of_block PBF.out rfl
    have u1 : wF.cell? ⟨g2, 1, none⟩ = some (.int .i64 t2) := cell_of_block PBF.out rfl
    have u2 : wF.cell? ⟨g1, 0, none⟩ = some (.int .u64 (m1 : Int)) := cell_of_block N1F.out rfl
    have u3 : wF.cell? ⟨g1, 1, none⟩ = some (.int .i64 t1) := cell_of_block N1F.out rfl
    clear hwF PB hge
    go_wp2_with fail
    refine (in_true m2 may _ hB2 hmay R2.out).mono ?_
    rintro e w' ⟨rfl, rfl⟩
    by_cases hlt : t2 < t1
    · go_wp2_with fail
      go_ret
      exact ⟨rfl, FC.out.tr FF.out⟩
    · have HEQ := Lib.hid (show t2 = t1 by omega)
      go_wp2_with fail
      refine (in_true m2 m1 _ hB2 hA2 (R3.out HEQ.out)).mono ?_
      rintro e w' ⟨rfl, rfl⟩
      go_wp2_with fail
      go_ret
      exact ⟨rfl, FC.out.tr FF.out⟩
end Go.Proofs.YtglflmkkecephaaGreatDoor

namespace Go.Proofs.YtglflmkkecephaaGreatDoor set_option linter.unusedVariables false set_option linter.unusedSimpArgs false
open Go.RowKit

def tabZ : List Int := Lib.deBruijn64tab.map fun (n : Nat) => (n : Int)
theorem tabOk_of_met {W : World} {rest : List (String × DataW Unit)} (h0 : laidMet Tryz.prog (("math/bits.deBruijn64tab", Rows.laid_math_bits_deBruijn64tab) :: rest) W) : TabOk W := by
  have h1 : Lib.TabIs Tryz.prog W "math/bits.deBruijn64tab" .u8 tabZ :=
    Lib.tabIs_of_head (rest := rest) (g := 0) (t := 107) (e := 5) (n := 64) (by kernel_rfl) (by kernel_rfl) (by kernel_rfl) (by kernel_rfl) (by kernel_rfl) (by kernel_rfl) h0
  intro j hj
  have h2 := h1.cell (g := 0) (by kernel_rfl) j (by simpa [tabZ] using hj)
  rw [h2]
  simp [tabZ, List.getD, hj]
theorem munchfewer_any (v : Value) (D : Dfa) (s : ByteArray) (at_ may less : Int) (w : World) (h : DfaIn w v D ∧ (∀ t ∈ D.tags, t < 18446744073709551616) ∧ (∀ r ∈ D.next, ∀ z ∈ r, intDom z) ∧ D.tags.length ≤ 9223372036854775807) (hs : s.size ≤ 140737488351232) (h3 : 0 ≤ may ∧ may ≤ 18446744073709551615) (h4 : 0 ≤ less ∧ less ≤ 18446744073709551615) (hT : TabOk w) (hp : PowOk w) :
    Calls Tryz.prog 7 #[v, .string s, .int .i64 at_, .int .u64 may, .int .u64 less] w fun e w' => e = .returned (.bool true) ∧ Below w.heap.size w w' := by
  obtain ⟨hD, htg, _, htl⟩ := h
  obtain ⟨m, rfl⟩ := Int.eq_ofNat_of_zero_le h3.1
  obtain ⟨l, rfl⟩ := Int.eq_ofNat_of_zero_le h4.1
  have key : Calls Tryz.prog 7 #[v, .string s, .int .i64 at_, .int .u64 (m : Int), .int .u64 (l : Int)] w fun e w' => e = .returned (.bool true) ∧ Fr none_ w w' := by
    cases hl : (littleM D && decide (s.size ≤ 40)) with
    | false => exact munchfewer_big D v s at_ m l w hD htl hl hp hT
    | true =>
      have h40 : s.size ≤ 40 := by
        have := hl
        simp only [Bool.and_eq_true, decide_eq_true_eq] at this
        exact this.2
      by_cases hat : 0 ≤ at_ ∧ at_ ≤ (s.size : Int)
      · exact munchfewer_good D v s at_ m l w hD htl htg (by omega) (by omega) hl h40 hat hp hT
      · exact munchfewer_out D v s at_ m l w hD htl hl (by omega) hp hT
  exact key.mono fun e w' h => ⟨h.1, h.2.below⟩
end Go.Proofs.YtglflmkkecephaaGreatDoor
