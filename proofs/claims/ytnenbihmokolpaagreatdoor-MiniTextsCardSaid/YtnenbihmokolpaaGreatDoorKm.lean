/-
  dfa.Build where the machine is refused.
-/
import Derived.Test.YtnenbihmokolpaaGreatDoorKC
namespace Go.Proofs.YtnenbihmokolpaaGreatDoor set_option linter.unusedVariables false set_option linter.unusedSimpArgs false
open Go.RowKit
open Go.Maps

theorem zeroD_size : (Tryz.zeroCells26).size = 258 := by kernel_rfl
theorem zeroD_one : (Tryz.zeroCells26).all (·.oneCell') = true := by kernel_rfl
theorem zeroD_list : Tryz.zeroCells26 = (dfaC (ints (List.replicate 256 0)) (.slice none 0 0) (.slice none 0 0)).toArray := by kernel_rfl
theorem results_dfa {fn : Func} {tm u : Nat} (h : fn.results = #[.cell tm 26, .tmp u]) {tmps : Array Value} {r : Nat} (hp : tmps.getD tm undef = .pointer (some ⟨r, 0, none⟩)) {w : World} {cs : List Value} {t : TypeId}
    (hb : w.heap[r]? = some (.cells cs.toArray t (0, 0))) (hz : cs.length = 258) : (results fn tmps).run Tryz.prog w = .ok (.tuple #[.agg cs.toArray, tmps.getD u undef]) w := by
  have hl := run_loadVar_mid (P := Tryz.prog) w r 0 26 cs _ (range_of hb) Tryz.underlying26 rfl (by rw [hz]; exact dfa_info)
  rw [results_cell_tmp h, hp]
  simp [hl, asAddr, Result.andThen]

set_option maxRecDepth 100000 in
set_option maxHeartbeats 1000000 in
theorem dbuild_many (rs : List Rx) (a : Option Addr) (cap : Nat) (w : World) (ok : Nat → Prop) (hsz : Rx.sizes rs < 4611686018427387904) (hl : RxL ok w a 0 rs) (hm : rs.length > 60 ∨ Rx.sizes rs > 3000) :
    Calls Tryz.prog 29 #[.slice a rs.length cap] w fun e w' => e = .returned (.tuple #[.agg Tryz.zeroCells26, .int .i64 4]) ∧ Fr none_ w w' := by
  have HL := Lib.hid hl
  clear hl
  go_enter Tryz.func29, Tryz.ntmps29
  go_wp2_with fail
  have F0 := Lib.hid ((Fr.refl none_ w).alloc (.cells Tryz.zeroCells26 26))
  have B0 := Lib.hid (alloc_new w (.cells Tryz.zeroCells26 26))
  refine (build_many rs a cap _ ok hsz (RxL.move (fun i _ hlt => F0.out.block i hlt (fun h => h)) _ _ _ HL.out) hm).mono ?_
  rintro e w1 ⟨rfl, F1⟩
  have B1 := Lib.hid (F1.at_ B0.out (fun h => h))
  have FF := Lib.hid (F0.out.tr F1)
  clear F1 F0 B0
  go_wp2_with (refine wpList_store_row rfl 26 _ _ rfl w.heap.size 26 Tryz.zeroCells26 Tryz.zeroCells26 rfl rfl B1.out (by rw [zeroD_size]; exact dfa_info) rfl zeroD_one ?_)
  have B2 := setRow_heap w1 w.heap.size Tryz.zeroCells26 Tryz.zeroCells26 26 (0, 0) B1.out
  have B3 := B2
  rw [zeroD_list] at B3
  have hz : (dfaC (ints (List.replicate 256 0)) (.slice none 0 0) (.slice none 0 0)).length = 258 := dfaC_length _ _ _ (by rw [ints_length]; exact List.length_replicate)
  refine bodyPost_ret (results_dfa rfl rfl B3 hz) rfl ?_
  exact ⟨by rw [zeroD_list]; rfl, Fr.setRow FF.out (.inr (Nat.le_refl _)) _⟩
end Go.Proofs.YtnenbihmokolpaaGreatDoor
