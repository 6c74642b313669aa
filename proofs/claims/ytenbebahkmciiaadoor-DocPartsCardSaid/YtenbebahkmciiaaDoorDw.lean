/-
  The walks over doc.Put, New, Edit, Text, Parser, Result and the law's own example: what each call comes to, in whatever world.
-/
import Derived.Test.YtenbebahkmciiaaDoorRows
import Derived.WalkKit
import Derived.WalkSpells
import Derived.WalkLawsBesides
import Derived.BigQuiet
import Derived.Deep.QuietTactic
import Derived.Deep.Draws
import Derived.Deep.RegionHeld3
import Derived.Recover
import Derived.Lib.Hide
namespace Go.Proofs.YtenbebahkmciiaaDoor
open Go.RowKit

theorem put_bad (t s : ByteArray) (a b : Int) (w : World) (ht : t.size ≤ 140737488351232) (h : a < 0 ∨ b < a ∨ (t.size : Int) < b) :
    Calls Tryd.prog 6 #[.string t, .int .i64 a, .int .i64 b, .string s] w fun e w' => e = .returned (.tuple #[.string ⟨#[]⟩, .int .i64 1]) ∧ w = w' := by
  by_cases h1 : a < 0
  · go_enter Tryd.func6, Tryd.ntmps6
    go_wp2
    go_ret2
    exact ⟨rfl, rfl⟩
  · by_cases h2 : b < a
    · go_enter Tryd.func6, Tryd.ntmps6
      go_wp2
      go_ret2
      exact ⟨rfl, rfl⟩
    · have h3 : (t.size : Int) < b := by omega
      clear h
      go_enter Tryd.func6, Tryd.ntmps6
      go_wp2
      go_ret2
      exact ⟨rfl, rfl⟩

theorem put_many (t s : ByteArray) (a b : Int) (w : World) (ht : t.size ≤ 140737488351232) (hs : s.size ≤ 140737488351232) (h1 : 0 ≤ a) (h2 : a ≤ b) (h3 : b ≤ (t.size : Int))
    (h : 20000 < (t.size : Int) - (b - a) + s.size) :
    Calls Tryd.prog 6 #[.string t, .int .i64 a, .int .i64 b, .string s] w fun e w' => e = .returned (.tuple #[.string ⟨#[]⟩, .int .i64 4]) ∧ w = w' := by
  go_enter Tryd.func6, Tryd.ntmps6
  go_wp2
  go_ret2
  exact ⟨rfl, rfl⟩

/-- The text that an edit comes to. -/
def putTxt (t : ByteArray) (a b : Int) (s : ByteArray) : ByteArray := t.extract 0 a.toNat ++ s ++ t.extract b.toNat t.size

theorem put_ok (t s : ByteArray) (a b : Int) (w : World) (ht : t.size ≤ 140737488351232) (hs : s.size ≤ 140737488351232) (h1 : 0 ≤ a) (h2 : a ≤ b) (h3 : b ≤ (t.size : Int))
    (h : (t.size : Int) - (b - a) + s.size ≤ 20000) :
    Calls Tryd.prog 6 #[.string t, .int .i64 a, .int .i64 b, .string s] w fun e w' => e = .returned (.tuple #[.string (putTxt t a b s), .int .i64 0]) ∧ ∃ n, w' = w.drewN n := by
  have b1 : a ≤ (t.size : Int) := by omega
  have b2 : 0 ≤ b := by omega
  have e1 : (t.extract 0 a.toNat).size = a.toNat := by simp [ByteArray.size_extract]; omega
  have e2 : (t.extract b.toNat t.size).size = t.size - b.toNat := by simp [ByteArray.size_extract]
  have c1 : (t.extract 0 a.toNat).size + s.size ≤ 9223372036854775807 := by omega
  have c2 : ((t.extract 0 a.toNat) ++ s).size + (t.extract b.toNat t.size).size ≤ 9223372036854775807 := by rw [ByteArray.size_append]; omega
  have H1 := Lib.hid e1
  have H2 := Lib.hid e2
  clear e1 e2
  go_enter Tryd.func6, Tryd.ntmps6
  go_wp2
  go_quiet (fail)
  go_wp2
  go_ret2
  exact ⟨rfl, _, rfl⟩

/-- A document's block. -/
def docObj (t : ByteArray) (p mark kept : Value) : Obj := .cells #[.string t, p, mark, kept] 43 (0, 0)

theorem new_any (t : ByteArray) (w : World) :
    Calls Tryd.prog 8 #[.pointer none, .string t] w fun e w' => e = .returned (.pointer (some ⟨w.heap.size, 0, none⟩)) ∧ w' = w.alloc (docObj t (.pointer none) (.pointer none) (.pointer none)) := by
  go_enter Tryd.func8, Tryd.ntmps8
  go_wp2
  go_ret
  exact ⟨rfl, rfl⟩

theorem text_any (t : ByteArray) (d : Addr) (w : World) (h : w.cell? ⟨d.block, d.off, none⟩ = some (.string t)) :
    Calls Tryd.prog 10 #[.pointer (some ⟨d.block, d.off, none⟩)] w fun e w' => e = .returned (.string t) ∧ w = w' := by
  go_enter Tryd.func10, Tryd.ntmps10
  go_wp2
  go_ret
  exact ⟨rfl, rfl⟩

theorem parser_any (d : Addr) (v : Option Addr) (w : World) (h : w.cell? ⟨d.block, d.off + 1, none⟩ = some (.pointer v)) :
    Calls Tryd.prog 11 #[.pointer (some ⟨d.block, d.off, none⟩)] w fun e w' => e = .returned (.pointer v) ∧ w = w' := by
  go_enter Tryd.func11, Tryd.ntmps11
  go_wp2
  go_ret
  exact ⟨rfl, rfl⟩

/-- What nothing comes to. -/
def nothing : Value := .agg #[.bool false, .slice none 0 0, .int .i64 0, .int .u64 0]

theorem result_nil (d : Addr) (w : World) (h : w.cell? ⟨d.block, d.off + 1, none⟩ = some (.pointer none)) (hd : d.block < w.heap.size) :
    Calls Tryd.prog 12 #[.pointer (some ⟨d.block, d.off, none⟩)] w fun e w' => e = .returned nothing ∧ Below w.heap.size w w' := by
  have hne : ¬ w.heap.size = d.block := by omega
  go_enter Tryd.func12, Tryd.ntmps12
  go_wp2
  exact bodyPost_ret (v := nothing) (by simp [results, Tryd.results12, go_sem, nothing]) rfl ⟨rfl, by repeat (first | exact Below.refl _ _ | (refine Below.setCell ?_ (by simp) _) | (refine Below.alloc ?_ (by simp) _))⟩

theorem before_nil (n : Int) (w : World) :
    Calls Tryd.prog 14 #[.pointer none, .int .i64 n] w fun e w' => e = .returned (.pointer none) ∧ w = w' := by
  go_enter Tryd.func14, Tryd.ntmps14
  go_wp2
  refine wp_loop_once ?_
  go_wp2
  go_ret
  exact ⟨rfl, rfl⟩

/-- The deferred closure of Edit: what is kept is forgotten. -/
theorem edit_kept (c d : Addr) (u : FrameMode) (w : World) (t : ByteArray) (p mark kept : Value)
    (hc : w.cell? ⟨c.block, c.off, none⟩ = some (.pointer (some ⟨d.block, d.off, none⟩))) (h3 : w.cell? ⟨d.block, d.off + 3, none⟩ = some kept) (hf : w.frozen? ⟨d.block, d.off + 3, none⟩ = false) :
    CallsD Tryd.prog 13 #[.pointer (some ⟨c.block, c.off, none⟩)] u w fun e u' w' => u' = u ∧ (e = .returned (.tuple #[]) ∧ w' = w.setCell ⟨d.block, d.off + 3, none⟩ (.pointer none)) := by
  go_enter_d Tryd.func13, Tryd.ntmps13
  go_wp2
  go_end0
  exact ⟨rfl, rfl⟩

theorem heap_setCell (w : World) {d : Nat} {c : Array Value} {ty : TypeId} {fr : Nat × Nat} (h : w.heap[d]? = some (.cells c ty fr)) (o : Nat) (v : Value) :
    (w.setCell ⟨d, o, none⟩ v).heap[d]? = some (.cells (c.setIfInBounds o v) ty fr) := by
  simp [World.setCell, Array.getElem?_modify, h]

theorem cell_of_block {w : World} {d o : Nat} {c : Array Value} {ty : TypeId} {fr : Nat × Nat} {v : Value} (h : w.heap[d]? = some (.cells c ty fr)) (hv : c[o]? = some v) : w.cell? ⟨d, o, none⟩ = some v := by
  simp [World.cell?, h, hv]

theorem below_drewN {B : Nat} {a w : World} (h : Below B a w) (n : Nat) : Below B a (w.drewN n) := h.trans ⟨rfl, rfl, rfl, Nat.le_refl _, fun _ _ => rfl⟩

theorem edit_err (d : Nat) (t s : ByteArray) (a b : Int) (w : World) (ht : t.size ≤ 140737488351232) (h : a < 0 ∨ b < a ∨ (t.size : Int) < b) (hd : d < w.heap.size) (h0 : w.cell? ⟨d, 0, none⟩ = some (.string t)) :
    Calls Tryd.prog 9 #[.pointer (some ⟨d, 0, none⟩), .int .i64 a, .int .i64 b, .string s] w fun e w' => e = .returned (.int .i64 1) ∧ Below w.heap.size w w' := by
  have hne : ¬ w.heap.size = d := by omega
  have HP := Lib.hid h
  clear h
  go_enter_defers Tryd.func9, Tryd.ntmps9
  go_wp2_with fail
  refine (put_bad _ _ _ _ _ ht HP.out).mono ?_
  rintro e w' ⟨rfl, rfl⟩
  go_wp2
  exact ⟨_, results_tmp rfl _ _ _, rfl, (Below.refl _ _).alloc (Nat.le_refl _) _⟩

set_option maxHeartbeats 1000000 in
theorem edit_ok (d : Nat) (t s : ByteArray) (a b : Int) (w : World) (v1 v3 : Value) (ht : t.size ≤ 140737488351232) (hs : s.size ≤ 140737488351232) (h1 : 0 ≤ a) (h2 : a ≤ b) (h3 : b ≤ (t.size : Int))
    (h : (t.size : Int) - (b - a) + s.size ≤ 20000) (hb : w.heap[d]? = some (docObj t v1 (.pointer none) v3)) :
    Calls Tryd.prog 9 #[.pointer (some ⟨d, 0, none⟩), .int .i64 a, .int .i64 b, .string s] w fun e w' => e = .returned (.int .i64 0) ∧ 
      w'.heap[d]? = some (docObj (putTxt t a b s) v1 (.pointer none) (.pointer none)) ∧ w.heap.size ≤ w'.heap.size ∧ Below d w w' := by
  have hd : d < w.heap.size := by
    rcases Nat.lt_or_ge d w.heap.size with h | h
    · exact h
    · simp [Array.getElem?_eq_none h] at hb
  have hne : ¬ w.heap.size = d := by omega
  have c0 : w.cell? ⟨d, 0, none⟩ = some (.string t) := by simp [World.cell?, hb, docObj]
  have c2 : w.cell? ⟨d, 2, none⟩ = some (.pointer none) := by simp [World.cell?, hb, docObj]
  have c3 : w.cell? ⟨d, 3, none⟩ = some v3 := by simp [World.cell?, hb, docObj]
  have f0 : ∀ o, w.frozen? ⟨d, o, none⟩ = false := by intro o; simp [World.frozen?, hb, docObj]
  have hmf : ∀ (fn : Fn) (first cap : Array Value) (w : World), (Instr.makeFunc fn first cap).run Tryd.prog w = .ok (.func fn first cap) w := fun _ _ _ _ => rfl
  have HB := Lib.hid hb
  clear hb
  go_enter_defers Tryd.func9, Tryd.ntmps9
  go_wp2_with fail
  refine (put_ok _ _ _ _ _ ht hs h1 h2 h3 h).mono ?_
  rintro e w' ⟨rfl, n, rfl⟩
  have g2 : (((w.alloc (Obj.cells #[Value.pointer (some { block := d, off := 0 })] 28)).drewN n).setCell { block := d, off := 0 } (Value.string (putTxt t a b s))).cell? ⟨d, 2, none⟩ = some (.pointer none) := by go_simp
  have g4 : (((w.alloc (Obj.cells #[Value.pointer (some { block := d, off := 0 })] 28)).drewN n).setCell { block := d, off := 0 } (Value.string (putTxt t a b s))).cell? ⟨w.heap.size, 0, none⟩ = some (.pointer (some ⟨d, 0, none⟩)) := by go_simp
  have g5 : ∀ o, (((w.alloc (Obj.cells #[Value.pointer (some { block := d, off := 0 })] 28)).drewN n).setCell { block := d, off := 0 } (Value.string (putTxt t a b s))).frozen? ⟨d, o, none⟩ = false := by intro o; go_simp
  have k1 : (((w.alloc (Obj.cells #[Value.pointer (some { block := d, off := 0 })] 28)).drewN n).setCell { block := d, off := 0 } (Value.string (putTxt t a b s))).heap[d]? = some (docObj (putTxt t a b s) v1 (.pointer none) v3) := by
    have := heap_setCell (((w.alloc (Obj.cells #[Value.pointer (some { block := d, off := 0 })] 28)).drewN n)) (d := d) (c := #[.string t, v1, .pointer none, v3]) (ty := 43) (fr := (0, 0)) (by
      show (w.alloc (Obj.cells #[Value.pointer (some { block := d, off := 0 })] 28)).heap[d]? = _
      rw [Below.heap_alloc _ _ _ hd]; exact HB.out) 0 (.string (putTxt t a b s))
    simpa [docObj] using this
  have b1 : Below d w (((w.alloc (Obj.cells #[Value.pointer (some { block := d, off := 0 })] 28)).drewN n).setCell { block := d, off := 0 } (Value.string (putTxt t a b s))) := ((below_drewN ((Below.refl _ _).alloc (Nat.le_of_lt hd) _) n).setCell (Nat.le_refl _) _)
  have z1 : w.heap.size ≤ (((w.alloc (Obj.cells #[Value.pointer (some { block := d, off := 0 })] 28)).drewN n).setCell { block := d, off := 0 } (Value.string (putTxt t a b s))).heap.size := by simp
  have K1 := Lib.hid k1
  have Z1 := Lib.hid z1
  clear k1 z1
  have G2 := Lib.hid g2
  have G5 := Lib.hid g5
  clear g5
  have G4 := Lib.hid g4
  clear g2 g4
  go_wp2_with fail
  have g2 := G2.out
  have g4 := G4.out
  have g5 := G5.out
  generalize ((w.alloc (Obj.cells #[Value.pointer (some { block := d, off := 0 })] 28)).drewN n).setCell { block := d, off := 0 } (Value.string (putTxt t a b s)) = w1 at *
  go_region_held3 (fun w' => w'.cell? ⟨d, 2, none⟩ = some (.pointer none) ∧ w'.cell? ⟨w.heap.size, 0, none⟩ = some (.pointer (some ⟨d, 0, none⟩))) ((refine ⟨?_, ?_⟩ <;> go_simp)) (first | (go_at_call 14; refine (before_nil _ _).mono ?_; rintro e w' ⟨rfl, rfl⟩))
  clear g2 g4 g5
  go_wp2
  refine leaves_cons (f := 13) (args := #[.pointer (some ⟨w.heap.size, 0, none⟩)]) (by simp) (by simp [go_sem]) ?_
  refine (edit_kept ⟨w.heap.size, 0, none⟩ ⟨d, 0, none⟩ _ _ t (.pointer none) (.pointer none) v3 ?_ ?_ ?_).mono ?_
  · rename_i hH; exact hH.2
  · exact cell_of_block (w := w1.setCell ⟨d, 2, none⟩ (.pointer none)) (heap_setCell w1 K1.out 2 (.pointer none)) rfl
  · simp; exact G5.out 3
  rintro e u' w'' ⟨rfl, rfl, rfl⟩
  have k2 : ((w1.setCell ⟨d, 2, none⟩ (.pointer none)).drew.setCell ⟨d, 3, none⟩ (.pointer none)).heap[d]? = some (docObj (putTxt t a b s) v1 (.pointer none) (.pointer none)) := by
    have := heap_setCell (w1.setCell ⟨d, 2, none⟩ (.pointer none)).drew (heap_setCell w1 K1.out 2 (.pointer none)) 3 (.pointer none)
    simpa [docObj] using this
  exact ⟨_, results_tmp rfl _ _ _, rfl, k2, by simpa using Z1.out, ((b1.setCell (Nat.le_refl _) _).drew.setCell (Nat.le_refl _) _)⟩

theorem docObj_cells {w : World} {d : Nat} {t : ByteArray} {p m k : Value} (h : w.heap[d]? = some (docObj t p m k)) :
    d < w.heap.size ∧ w.cell? ⟨d, 0, none⟩ = some (.string t) ∧ w.cell? ⟨d, 0 + 1, none⟩ = some p := by
  refine ⟨?_, cell_of_block h rfl, cell_of_block h rfl⟩
  rcases Nat.lt_or_ge d w.heap.size with h' | h'
  · exact h'
  · simp [Array.getElem?_eq_none h'] at h

theorem putTxt_ax : putTxt ⟨#[97, 98]⟩ 1 2 ⟨#[120]⟩ = ⟨#[97, 120]⟩ := by
  apply ByteArray.ext; decide
end Go.Proofs.YtenbebahkmciiaaDoor
