/-
  The walks over regex's reader, further on.
-/
import Derived.Test.YtgpmbkgedhcbjaaDoorPw
namespace Go.Proofs.YtgpmbkgedhcbjaaDoor
open Go.RowKit

theorem word_any (b : Nat) (hb : b < 256) (w : World) :
    Calls Tryd.prog 62 #[.int .u8 b] w fun e w' => e = .returned (.bool (wordB b)) ∧ w = w' := by
  by_cases h1 : 97 ≤ b
  · by_cases h2 : b ≤ 122
    · have hw : wordB b = true := by simp [wordB]; omega
      rw [hw]; clear hw
      go_enter Tryd.func62, Tryd.ntmps62
      go_wp2
      go_ret
      refine ⟨?_, rfl⟩; simp <;> omega
    · have hw : wordB b = false := by simp [wordB]; omega
      rw [hw]; clear hw
      have g1 : ¬ b ≤ 90 := by omega
      have g2 : ¬ b ≤ 57 := by omega
      have g3 : 65 ≤ b := by omega
      have g4 : 48 ≤ b := by omega
      go_enter Tryd.func62, Tryd.ntmps62
      go_wp2
      go_ret
      refine ⟨?_, rfl⟩; simp <;> omega
  · by_cases h3 : 65 ≤ b
    · by_cases h4 : b ≤ 90
      · have hw : wordB b = true := by simp [wordB]; omega
        rw [hw]; clear hw
        go_enter Tryd.func62, Tryd.ntmps62
        go_wp2
        go_ret
        refine ⟨?_, rfl⟩; simp <;> omega
      · have hw : wordB b = false := by simp [wordB]; omega
        rw [hw]; clear hw
        have g2 : ¬ b ≤ 57 := by omega
        have g4 : 48 ≤ b := by omega
        go_enter Tryd.func62, Tryd.ntmps62
        go_wp2
        go_ret
        refine ⟨?_, rfl⟩; simp <;> omega
    · by_cases h5 : 48 ≤ b
      · by_cases h6 : b ≤ 57
        · have hw : wordB b = true := by simp [wordB]; omega
          rw [hw]; clear hw
          go_enter Tryd.func62, Tryd.ntmps62
          go_wp2
          go_ret
          refine ⟨?_, rfl⟩; simp <;> omega
        · have hw : wordB b = false := by simp [wordB]; omega
          rw [hw]; clear hw
          go_enter Tryd.func62, Tryd.ntmps62
          go_wp2
          go_ret
          refine ⟨?_, rfl⟩; simp <;> omega
      · have hw : wordB b = false := by simp [wordB]; omega
        rw [hw]; clear hw
        go_enter Tryd.func62, Tryd.ntmps62
        go_wp2
        go_ret
        refine ⟨?_, rfl⟩; simp <;> omega

/-- The map of named bytes, as it is laid entry by entry. -/
def nmE : List (Int × Int) := [(110, 10), (116, 9), (114, 13), (115, 32)]
def nmObj (n : Nat) : Obj := .map ((nmE.take n).zipIdx.map fun x => ({ key := .int .u8 x.1.1, val := .int .u8 x.1.2, born := x.2 } : MapEntry)).toArray n

theorem run_put {P : Program} {T K V : TypeId} (hT : P.underlying T = some (.map K V)) (hK : P.underlying K = some (.int .u8)) (W : World) (r : Nat) (es : Array MapEntry) (c : Nat) (k : Int) (v : Value)
    (hr : W.heap[r]? = some (.map es c)) (hf : Instr.findNow (.int .u8) (.int .u8 k) es.toList 0 = some none) :
    (Instr.mapUpdate T (.map (some r)) (.int .u8 k) v).run P W = .ok () { W with heap := W.heap.setIfInBounds r (.map (es.push { key := .int .u8 k, val := v, born := c }) (c + 1)) } := by
  have hk : MapKept.IsKey (.int .u8) (.int .u8 k) := by simp [MapKept.IsKey]
  simp [Instr.mapUpdate, run_underlying hT, MapKept.run_getObj_map hr, MapKept.run_checkKey hK hk, MapKept.run_findKey hK hf, MapKept.run_setObj_map _ hr, Result.andThen]
theorem run_put_new {P : Program} {T K V : TypeId} (hT : P.underlying T = some (.map K V)) (hK : P.underlying K = some (.int .u8)) (W : World) (es : Array MapEntry) (c : Nat) (k : Int) (v : Value)
    (hf : Instr.findNow (.int .u8) (.int .u8 k) es.toList 0 = some none) :
    (Instr.mapUpdate T (.map (some W.heap.size)) (.int .u8 k) v).run P (W.alloc (.map es c)) = .ok () (W.alloc (.map (es.push { key := .int .u8 k, val := v, born := c }) (c + 1))) := by
  rw [run_put hT hK (W.alloc (.map es c)) W.heap.size es c k v (MapKept.heap_alloc W _).1 hf]
  have : (W.alloc (.map es c)).heap.setIfInBounds W.heap.size (.map (es.push { key := .int .u8 k, val := v, born := c }) (c + 1)) = (W.alloc (.map (es.push { key := .int .u8 k, val := v, born := c }) (c + 1))).heap := by
    show (W.heap.push _).setIfInBounds W.heap.size _ = W.heap.push _
    apply Array.toList_inj.1
    simp [Array.toList_setIfInBounds, List.set_append]
  rw [this]
  rfl
theorem run_look_none {P : Program} {T K V : TypeId} {z : Value} (hT : P.underlying T = some (.map K V)) (hK : P.underlying K = some (.int .u8)) (hz : ∀ w, (zeroValue V).run P w = .ok z w) (W : World) (r : Nat) (es : Array MapEntry) (c : Nat) (k : Int)
    (hr : W.heap[r]? = some (.map es c)) (hf : Instr.findNow (.int .u8) (.int .u8 k) es.toList 0 = some none) :
    (Instr.lookup T (.map (some r)) (.int .u8 k) true).run P W = .ok (.tuple #[z, .bool false]) W := by
  have hk : MapKept.IsKey (.int .u8) (.int .u8 k) := by simp [MapKept.IsKey]
  simp [Instr.lookup, run_underlying hT, MapKept.run_getObj_map hr, MapKept.run_checkKey hK hk, MapKept.run_findKey hK hf, hz, Result.andThen]
theorem run_look_some {P : Program} {T K V : TypeId} (hT : P.underlying T = some (.map K V)) (hK : P.underlying K = some (.int .u8)) (W : World) (r : Nat) (es : Array MapEntry) (c : Nat) (k : Int) (i : Nat) (v : Value)
    (hr : W.heap[r]? = some (.map es c)) (hf : Instr.findNow (.int .u8) (.int .u8 k) es.toList 0 = some (some (i, v))) :
    (Instr.lookup T (.map (some r)) (.int .u8 k) true).run P W = .ok (.tuple #[v, .bool true]) W := by
  have hk : MapKept.IsKey (.int .u8) (.int .u8 k) := by simp [MapKept.IsKey]
  simp [Instr.lookup, run_underlying hT, MapKept.run_getObj_map hr, MapKept.run_checkKey hK hk, MapKept.run_findKey hK hf, Result.andThen]

def nm (k v : Int) (b : Nat) : MapEntry := { key := .int .u8 k, val := .int .u8 v, born := b }
def nmAll : Array MapEntry := #[nm 110 10 0, nm 116 9 1, nm 114 13 2, nm 115 32 3]
def nmGot (b : Nat) : Value := match namedB b with
  | some c => .tuple #[.int .u8 c, .bool true]
  | none => .tuple #[.int .u8 0, .bool false]
theorem nm_look {W : World} {r : Nat} (hr : W.heap[r]? = some (.map nmAll 4)) (b : Nat) :
    (Instr.lookup 98 (.map (some r)) (.int .u8 b) true).run Tryd.prog W = .ok (nmGot b) W := by
  have lks := fun (i : Nat) (v : Value) => run_look_some Tryd.underlying98 Tryd.underlying5 W r nmAll 4 (b : Int) i v hr
  have lkn := run_look_none (z := .int .u8 0) Tryd.underlying98 Tryd.underlying5 (fun w => by kernel_rfl) W r nmAll 4 (b : Int) hr
  unfold nmGot namedB
  by_cases h1 : b = 110
  · subst h1; exact lks 0 _ rfl
  · by_cases h2 : b = 116
    · subst h2; exact lks 1 _ rfl
    · by_cases h3 : b = 114
      · subst h3; exact lks 2 _ rfl
      · by_cases h4 : b = 115
        · subst h4; exact lks 3 _ rfl
        · have e1 : ((b : Int) == 110) = false := by rw [beq_eq_false_iff_ne]; omega
          have e2 : ((b : Int) == 116) = false := by rw [beq_eq_false_iff_ne]; omega
          have e3 : ((b : Int) == 114) = false := by rw [beq_eq_false_iff_ne]; omega
          have e4 : ((b : Int) == 115) = false := by rw [beq_eq_false_iff_ne]; omega
          rw [lkn (by simp [nmAll, nm, Instr.findNow, Instr.sameNow, e1, e2, e3, e4])]
          simp [h1, h2, h3, h4]
theorem digit_ok {s : ByteArray} {p d : Nat} {w : World} (hs : s.size ≤ 1000) (hb : w.heap[d]? = some (rdObj s p)) {b q : Nat} (h : digitB s p = .ok (b, q)) :
    Calls Tryd.prog 61 #[.pointer (some ⟨d, 0, none⟩)] w fun e w' => e = .returned (.int .u8 b) ∧ w'.heap[d]? = some (rdObj s q) ∧ Fr (at1 d) w w' := by
  have := digit_any s p d w hs hb
  rw [h] at this
  exact this
theorem digit_err {s : ByteArray} {p d : Nat} {w : World} (hs : s.size ≤ 1000) (hb : w.heap[d]? = some (rdObj s p)) {n : Int} (h : digitB s p = .error n) :
    Calls Tryd.prog 61 #[.pointer (some ⟨d, 0, none⟩)] w fun e w' => e = .panicked (wrongP n) ∧ Fr (at1 d) w w' := by
  have := digit_any s p d w hs hb
  rw [h] at this
  exact this
theorem nextB_lt {s : ByteArray} {p b q : Nat} (h : nextB s p = .ok (b, q)) : b < 256 ∧ q = p + 1 ∧ p < s.size ∧ b = byteAt s p := by
  simp only [nextB] at h
  split at h
  · simp at h; exact ⟨by rw [← h.1]; exact byteAt_lt _ _, h.2.symm, by assumption, h.1.symm⟩
  · simp at h
theorem digitB_lt {s : ByteArray} {p b q : Nat} (h : digitB s p = .ok (b, q)) : b < 16 ∧ q = p + 1 := by
  simp only [digitB] at h
  split at h
  · simp at h
  · rename_i hn
    split at h
    · simp at h
    · rename_i hd
      simp at h
      exact ⟨by rw [← h.1]; exact digitV_lt hd, by rw [← h.2]; exact (nextB_lt hn).2.1⟩

theorem or_digits (hi lo : Nat) (h : hi < 16) (l : lo < 16) : bits BinOp.or IntKind.u8 ((hi : Int) * 16) (lo : Int) = (hi : Int) * 16 + lo := by
  have : ∀ a b : Fin 16, bits BinOp.or IntKind.u8 ((a.val : Int) * 16) (b.val : Int) = (a.val : Int) * 16 + b.val := by decide +kernel
  exact this ⟨hi, h⟩ ⟨lo, l⟩
set_option maxRecDepth 100000 in
set_option maxHeartbeats 1000000 in
theorem char_any (s : ByteArray) (p d : Nat) (w : World) (hs : s.size ≤ 1000) (hb : w.heap[d]? = some (rdObj s p)) :
    Calls Tryd.prog 48 #[.pointer (some ⟨d, 0, none⟩)] w (GotN d s w (charB s p)) := by
  have m0 := @run_makeMap Tryd.prog
  have m1 : ∀ W : World, (Instr.mapUpdate 98 (.map (some W.heap.size)) (.int .u8 110) (.int .u8 10)).run Tryd.prog (W.alloc (.map #[] 0)) = .ok () (W.alloc (.map #[nm 110 10 0] 1)) := fun W => run_put_new Tryd.underlying98 Tryd.underlying5 W _ _ _ _ rfl
  have m2 : ∀ W : World, (Instr.mapUpdate 98 (.map (some W.heap.size)) (.int .u8 116) (.int .u8 9)).run Tryd.prog (W.alloc (.map #[nm 110 10 0] 1)) = .ok () (W.alloc (.map #[nm 110 10 0, nm 116 9 1] 2)) := fun W => run_put_new Tryd.underlying98 Tryd.underlying5 W _ _ _ _ rfl
  have m3 : ∀ W : World, (Instr.mapUpdate 98 (.map (some W.heap.size)) (.int .u8 114) (.int .u8 13)).run Tryd.prog (W.alloc (.map #[nm 110 10 0, nm 116 9 1] 2)) = .ok () (W.alloc (.map #[nm 110 10 0, nm 116 9 1, nm 114 13 2] 3)) := fun W => run_put_new Tryd.underlying98 Tryd.underlying5 W _ _ _ _ rfl
  have m4 : ∀ W : World, (Instr.mapUpdate 98 (.map (some W.heap.size)) (.int .u8 115) (.int .u8 32)).run Tryd.prog (W.alloc (.map #[nm 110 10 0, nm 116 9 1, nm 114 13 2] 3)) = .ok () (W.alloc (.map nmAll 4)) := fun W => run_put_new Tryd.underlying98 Tryd.underlying5 W _ _ _ _ rfl
  have hdlt := lt_of_block hb
  have F0 := Lib.hid ((Fr.refl none_ w).alloc (.map nmAll 4))
  have HB0 := Lib.hid (F0.out.at_ hb (fun h => h))
  have HM0 := Lib.hid (MapKept.heap_alloc w (.map nmAll 4)).1
  have HNE := Lib.hid (show ¬ at1 d w.heap.size by simp only [at1]; omega)
  clear hb
  cases hn : nextB s p with
  | error n =>
    have hm : charB s p = .error n := by simp [charB, hn]
    rw [hm]
    have HN := Lib.hid hn
    clear hn hm
    go_enter Tryd.func48, Tryd.ntmps48
    go_wp2_with fail
    refine (next_err hs HB0.out HN.out).mono ?_
    rintro e w1 ⟨rfl, F1⟩
    have HF1 := Lib.hid (F0.out.none.tr F1)
    clear F1
    go_wp2_with fail
    exact ⟨rfl, rfl, HF1.out⟩
  | ok x =>
    obtain ⟨b, q⟩ := x
    have hbl := (nextB_lt hn).1
    have HN := Lib.hid hn
    cases hnm : namedB b with
    | some c =>
      have hm : charB s p = .ok (c, q) := by simp [charB, hn, hnm]
      rw [hm]
      clear hm hn
      have HNM := Lib.hid hnm
      clear hnm
      go_enter Tryd.func48, Tryd.ntmps48
      go_wp2_with fail
      refine (next_ok hs HB0.out HN.out).mono ?_
      rintro e w1 ⟨rfl, hb1, F1⟩
      have lk := nm_look (F1.at_ HM0.out HNE.out) b
      unfold nmGot at lk
      rw [HNM.out] at lk
      simp only at lk
      have HF1 := Lib.hid (F0.out.none.tr F1)
      have HB1 := Lib.hid hb1
      clear F1 hb1
      go_wp2_with fail
      go_ret
      exact ⟨rfl, HB1.out, HF1.out⟩
    | none =>
      have HNM := Lib.hid hnm
      by_cases h120 : b = 120
      · have hbe : ((b : Int) == 120) = true := by rw [beq_iff_eq]; omega
        cases h1 : digitB s q with
        | error n =>
          have hm : charB s p = .error n := by simp only [charB, hn, hnm]; rw [if_pos h120]; simp only [h1]
          rw [hm]
          have H1 := Lib.hid h1
          clear hm hn hnm h1 h120
          go_enter Tryd.func48, Tryd.ntmps48
          go_wp2_with fail
          refine (next_ok hs HB0.out HN.out).mono ?_
          rintro e w1 ⟨rfl, hb1, F1⟩
          have lk := nm_look (F1.at_ HM0.out HNE.out) b
          unfold nmGot at lk
          rw [HNM.out] at lk
          simp only at lk
          have HF1 := Lib.hid (F0.out.none.tr F1)
          have HB1 := Lib.hid hb1
          clear F1 hb1
          go_wp2_with fail
          refine (digit_err hs HB1.out H1.out).mono ?_
          rintro e w2 ⟨rfl, F2⟩
          have HF2 := Lib.hid (HF1.out.tr F2)
          clear F2
          go_wp2_with fail
          exact ⟨rfl, rfl, HF2.out⟩
        | ok x1 =>
          obtain ⟨hi, q1⟩ := x1
          have hil := (digitB_lt h1).1
          have H1 := Lib.hid h1
          cases h2 : digitB s q1 with
          | error n =>
            have hm : charB s p = .error n := by simp only [charB, hn, hnm]; rw [if_pos h120]; simp only [h1, h2]
            rw [hm]
            have H2 := Lib.hid h2
            clear hm hn hnm h1 h2 h120
            go_enter Tryd.func48, Tryd.ntmps48
            go_wp2_with fail
            refine (next_ok hs HB0.out HN.out).mono ?_
            rintro e w1 ⟨rfl, hb1, F1⟩
            have lk := nm_look (F1.at_ HM0.out HNE.out) b
            unfold nmGot at lk
            rw [HNM.out] at lk
            simp only at lk
            have HF1 := Lib.hid (F0.out.none.tr F1)
            have HB1 := Lib.hid hb1
            clear F1 hb1
            go_wp2_with fail
            refine (digit_ok hs HB1.out H1.out).mono ?_
            rintro e w2 ⟨rfl, hb2, F2⟩
            have HF2 := Lib.hid (HF1.out.tr F2)
            have HB2 := Lib.hid hb2
            clear F2 hb2
            go_wp2_with fail
            refine (digit_err hs HB2.out H2.out).mono ?_
            rintro e w3 ⟨rfl, F3⟩
            have HF3 := Lib.hid (HF2.out.tr F3)
            clear F3
            go_wp2_with fail
            exact ⟨rfl, rfl, HF3.out⟩
          | ok x2 =>
            obtain ⟨lo, q2⟩ := x2
            have hll := (digitB_lt h2).1
            have hm : charB s p = .ok (hi * 16 + lo, q2) := by simp only [charB, hn, hnm]; rw [if_pos h120]; simp only [h1, h2]
            rw [hm]
            have H2 := Lib.hid h2
            clear hm hn hnm h1 h2 h120
            go_enter Tryd.func48, Tryd.ntmps48
            go_wp2_with fail
            refine (next_ok hs HB0.out HN.out).mono ?_
            rintro e w1 ⟨rfl, hb1, F1⟩
            have lk := nm_look (F1.at_ HM0.out HNE.out) b
            unfold nmGot at lk
            rw [HNM.out] at lk
            simp only at lk
            have HF1 := Lib.hid (F0.out.none.tr F1)
            have HB1 := Lib.hid hb1
            clear F1 hb1
            go_wp2_with fail
            refine (digit_ok hs HB1.out H1.out).mono ?_
            rintro e w2 ⟨rfl, hb2, F2⟩
            have HF2 := Lib.hid (HF1.out.tr F2)
            have HB2 := Lib.hid hb2
            clear F2 hb2
            go_wp2_with fail
            refine (digit_ok hs HB2.out H2.out).mono ?_
            rintro e w3 ⟨rfl, hb3, F3⟩
            have HF3 := Lib.hid (HF2.out.tr F3)
            have HB3 := Lib.hid hb3
            clear F3 hb3
            go_wp2_with fail
            go_ret
            have ho := or_digits hi lo hil hll
            exact ⟨by simp [ho], HB3.out, HF3.out⟩
      · have hne : ((b : Int) == 120) = false := by rw [beq_eq_false_iff_ne]; omega
        cases hw : wordB b with
        | true =>
          have hm : charB s p = .error 5 := by simp [charB, hn, hnm, h120, hw]
          rw [hm]
          have HW := Lib.hid hw
          clear hm hn hnm hw h120
          go_enter Tryd.func48, Tryd.ntmps48
          go_wp2_with fail
          refine (next_ok hs HB0.out HN.out).mono ?_
          rintro e w1 ⟨rfl, hb1, F1⟩
          have lk := nm_look (F1.at_ HM0.out HNE.out) b
          unfold nmGot at lk
          rw [HNM.out] at lk
          simp only at lk
          have HF1 := Lib.hid (F0.out.none.tr F1)
          clear F1 hb1
          go_wp2_with fail
          refine (word_any b hbl _).mono ?_
          rintro e w2 ⟨rfl, rfl⟩
          rw [HW.out]
          go_wp2_with fail
          refine (fail_any _ _).mono ?_
          rintro e w2 ⟨rfl, rfl⟩
          go_wp2_with fail
          exact ⟨rfl, rfl, HF1.out⟩
        | false =>
          have hm : charB s p = .ok (b, q) := by simp [charB, hn, hnm, h120, hw]
          rw [hm]
          have HW := Lib.hid hw
          clear hm hn hnm hw h120
          go_enter Tryd.func48, Tryd.ntmps48
          go_wp2_with fail
          refine (next_ok hs HB0.out HN.out).mono ?_
          rintro e w1 ⟨rfl, hb1, F1⟩
          have lk := nm_look (F1.at_ HM0.out HNE.out) b
          unfold nmGot at lk
          rw [HNM.out] at lk
          simp only at lk
          have HF1 := Lib.hid (F0.out.none.tr F1)
          have HB1 := Lib.hid hb1
          clear F1 hb1
          go_wp2_with fail
          refine (word_any b hbl _).mono ?_
          rintro e w2 ⟨rfl, rfl⟩
          rw [HW.out]
          go_wp2_with fail
          go_ret
          exact ⟨rfl, HB1.out, HF1.out⟩
end Go.Proofs.YtgpmbkgedhcbjaaDoor
