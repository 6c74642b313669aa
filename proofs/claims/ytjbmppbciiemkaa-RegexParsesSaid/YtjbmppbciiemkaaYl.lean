/-
  The reference of layer 3: a way.
-/
import Derived.Test.YtjbmppbciiemkaaYk
import Derived.Test.YtjbmppbciiemkaaPk
namespace Go.Proofs.Ytjbmppbciiemkaa set_option linter.unusedVariables false set_option linter.unusedSimpArgs false
open Go.RowKit

theorem wlit0 {α : Type} {x0 : α} {l : List α} : (x0 :: l).toArray[0]? = some x0 := rfl
theorem wlit1 {α : Type} {x0 x1 : α} {l : List α} : (x0 :: x1 :: l).toArray[1]? = some x1 := rfl
theorem wlit2 {α : Type} {x0 x1 x2 : α} {l : List α} : (x0 :: x1 :: x2 :: l).toArray[2]? = some x2 := rfl
theorem wlit3 {α : Type} {x0 x1 x2 x3 : α} {l : List α} : (x0 :: x1 :: x2 :: x3 :: l).toArray[3]? = some x3 := rfl
theorem wlit4 {α : Type} {x0 x1 x2 x3 x4 : α} {l : List α} : (x0 :: x1 :: x2 :: x3 :: x4 :: l).toArray[4]? = some x4 := rfl
theorem wlit5 {α : Type} {x0 x1 x2 x3 x4 x5 : α} {l : List α} : (x0 :: x1 :: x2 :: x3 :: x4 :: x5 :: l).toArray[5]? = some x5 := rfl
theorem wlit6 {α : Type} {x0 x1 x2 x3 x4 x5 x6 : α} {l : List α} : (x0 :: x1 :: x2 :: x3 :: x4 :: x5 :: x6 :: l).toArray[6]? = some x6 := rfl
theorem wlit7 {α : Type} {x0 x1 x2 x3 x4 x5 x6 x7 : α} {l : List α} : (x0 :: x1 :: x2 :: x3 :: x4 :: x5 :: x6 :: x7 :: l).toArray[7]? = some x7 := rfl
theorem wlit8 {α : Type} {x0 x1 x2 x3 x4 x5 x6 x7 x8 : α} {l : List α} : (x0 :: x1 :: x2 :: x3 :: x4 :: x5 :: x6 :: x7 :: x8 :: l).toArray[8]? = some x8 := rfl
theorem wlit9 {α : Type} {x0 x1 x2 x3 x4 x5 x6 x7 x8 x9 : α} {l : List α} : (x0 :: x1 :: x2 :: x3 :: x4 :: x5 :: x6 :: x7 :: x8 :: x9 :: l).toArray[9]? = some x9 := rfl
theorem wlit10 {α : Type} {x0 x1 x2 x3 x4 x5 x6 x7 x8 x9 x10 : α} {l : List α} : (x0 :: x1 :: x2 :: x3 :: x4 :: x5 :: x6 :: x7 :: x8 :: x9 :: x10 :: l).toArray[10]? = some x10 := rfl
theorem wlit11 {α : Type} {x0 x1 x2 x3 x4 x5 x6 x7 x8 x9 x10 x11 : α} {l : List α} : (x0 :: x1 :: x2 :: x3 :: x4 :: x5 :: x6 :: x7 :: x8 :: x9 :: x10 :: x11 :: l).toArray[11]? = some x11 := rfl
theorem wlit12 {α : Type} {x0 x1 x2 x3 x4 x5 x6 x7 x8 x9 x10 x11 x12 : α} {l : List α} : (x0 :: x1 :: x2 :: x3 :: x4 :: x5 :: x6 :: x7 :: x8 :: x9 :: x10 :: x11 :: x12 :: l).toArray[12]? = some x12 := rfl
theorem wlit13 {α : Type} {x0 x1 x2 x3 x4 x5 x6 x7 x8 x9 x10 x11 x12 x13 : α} {l : List α} : (x0 :: x1 :: x2 :: x3 :: x4 :: x5 :: x6 :: x7 :: x8 :: x9 :: x10 :: x11 :: x12 :: x13 :: l).toArray[13]? = some x13 := rfl
theorem wlit14 {α : Type} {x0 x1 x2 x3 x4 x5 x6 x7 x8 x9 x10 x11 x12 x13 x14 : α} {l : List α} : (x0 :: x1 :: x2 :: x3 :: x4 :: x5 :: x6 :: x7 :: x8 :: x9 :: x10 :: x11 :: x12 :: x13 :: x14 :: l).toArray[14]? = some x14 := rfl
theorem wlit15 {α : Type} {x0 x1 x2 x3 x4 x5 x6 x7 x8 x9 x10 x11 x12 x13 x14 x15 : α} {l : List α} : (x0 :: x1 :: x2 :: x3 :: x4 :: x5 :: x6 :: x7 :: x8 :: x9 :: x10 :: x11 :: x12 :: x13 :: x14 :: x15 :: l).toArray[15]? = some x15 := rfl
theorem wlit16 {α : Type} {x0 x1 x2 x3 x4 x5 x6 x7 x8 x9 x10 x11 x12 x13 x14 x15 x16 : α} {l : List α} : (x0 :: x1 :: x2 :: x3 :: x4 :: x5 :: x6 :: x7 :: x8 :: x9 :: x10 :: x11 :: x12 :: x13 :: x14 :: x15 :: x16 :: l).toArray[16]? = some x16 := rfl
theorem wlit17 {α : Type} {x0 x1 x2 x3 x4 x5 x6 x7 x8 x9 x10 x11 x12 x13 x14 x15 x16 x17 : α} {l : List α} : (x0 :: x1 :: x2 :: x3 :: x4 :: x5 :: x6 :: x7 :: x8 :: x9 :: x10 :: x11 :: x12 :: x13 :: x14 :: x15 :: x16 :: x17 :: l).toArray[17]? = some x17 := rfl
theorem wlit18 {α : Type} {x0 x1 x2 x3 x4 x5 x6 x7 x8 x9 x10 x11 x12 x13 x14 x15 x16 x17 x18 : α} {l : List α} : (x0 :: x1 :: x2 :: x3 :: x4 :: x5 :: x6 :: x7 :: x8 :: x9 :: x10 :: x11 :: x12 :: x13 :: x14 :: x15 :: x16 :: x17 :: x18 :: l).toArray[18]? = some x18 := rfl
theorem wlit19 {α : Type} {x0 x1 x2 x3 x4 x5 x6 x7 x8 x9 x10 x11 x12 x13 x14 x15 x16 x17 x18 x19 : α} {l : List α} : (x0 :: x1 :: x2 :: x3 :: x4 :: x5 :: x6 :: x7 :: x8 :: x9 :: x10 :: x11 :: x12 :: x13 :: x14 :: x15 :: x16 :: x17 :: x18 :: x19 :: l).toArray[19]? = some x19 := rfl
theorem wlit20 {α : Type} {x0 x1 x2 x3 x4 x5 x6 x7 x8 x9 x10 x11 x12 x13 x14 x15 x16 x17 x18 x19 x20 : α} {l : List α} : (x0 :: x1 :: x2 :: x3 :: x4 :: x5 :: x6 :: x7 :: x8 :: x9 :: x10 :: x11 :: x12 :: x13 :: x14 :: x15 :: x16 :: x17 :: x18 :: x19 :: x20 :: l).toArray[20]? = some x20 := rfl
theorem wlit21 {α : Type} {x0 x1 x2 x3 x4 x5 x6 x7 x8 x9 x10 x11 x12 x13 x14 x15 x16 x17 x18 x19 x20 x21 : α} {l : List α} : (x0 :: x1 :: x2 :: x3 :: x4 :: x5 :: x6 :: x7 :: x8 :: x9 :: x10 :: x11 :: x12 :: x13 :: x14 :: x15 :: x16 :: x17 :: x18 :: x19 :: x20 :: x21 :: l).toArray[21]? = some x21 := rfl
theorem wlit22 {α : Type} {x0 x1 x2 x3 x4 x5 x6 x7 x8 x9 x10 x11 x12 x13 x14 x15 x16 x17 x18 x19 x20 x21 x22 : α} {l : List α} : (x0 :: x1 :: x2 :: x3 :: x4 :: x5 :: x6 :: x7 :: x8 :: x9 :: x10 :: x11 :: x12 :: x13 :: x14 :: x15 :: x16 :: x17 :: x18 :: x19 :: x20 :: x21 :: x22 :: l).toArray[22]? = some x22 := rfl
theorem wlit23 {α : Type} {x0 x1 x2 x3 x4 x5 x6 x7 x8 x9 x10 x11 x12 x13 x14 x15 x16 x17 x18 x19 x20 x21 x22 x23 : α} {l : List α} : (x0 :: x1 :: x2 :: x3 :: x4 :: x5 :: x6 :: x7 :: x8 :: x9 :: x10 :: x11 :: x12 :: x13 :: x14 :: x15 :: x16 :: x17 :: x18 :: x19 :: x20 :: x21 :: x22 :: x23 :: l).toArray[23]? = some x23 := rfl
theorem wlit24 {α : Type} {x0 x1 x2 x3 x4 x5 x6 x7 x8 x9 x10 x11 x12 x13 x14 x15 x16 x17 x18 x19 x20 x21 x22 x23 x24 : α} {l : List α} : (x0 :: x1 :: x2 :: x3 :: x4 :: x5 :: x6 :: x7 :: x8 :: x9 :: x10 :: x11 :: x12 :: x13 :: x14 :: x15 :: x16 :: x17 :: x18 :: x19 :: x20 :: x21 :: x22 :: x23 :: x24 :: l).toArray[24]? = some x24 := rfl
theorem wlit25 {α : Type} {x0 x1 x2 x3 x4 x5 x6 x7 x8 x9 x10 x11 x12 x13 x14 x15 x16 x17 x18 x19 x20 x21 x22 x23 x24 x25 : α} {l : List α} : (x0 :: x1 :: x2 :: x3 :: x4 :: x5 :: x6 :: x7 :: x8 :: x9 :: x10 :: x11 :: x12 :: x13 :: x14 :: x15 :: x16 :: x17 :: x18 :: x19 :: x20 :: x21 :: x22 :: x23 :: x24 :: x25 :: l).toArray[25]? = some x25 := rfl
theorem wlit26 {α : Type} {x0 x1 x2 x3 x4 x5 x6 x7 x8 x9 x10 x11 x12 x13 x14 x15 x16 x17 x18 x19 x20 x21 x22 x23 x24 x25 x26 : α} {l : List α} : (x0 :: x1 :: x2 :: x3 :: x4 :: x5 :: x6 :: x7 :: x8 :: x9 :: x10 :: x11 :: x12 :: x13 :: x14 :: x15 :: x16 :: x17 :: x18 :: x19 :: x20 :: x21 :: x22 :: x23 :: x24 :: x25 :: x26 :: l).toArray[26]? = some x26 := rfl

/-- What stands while pieces are read. -/
structure WO (s : ByteArray) (d : Nat) (w : World) (l : List Rx) (lv : Value) (q : Nat) (bd mn : Bool) (wr : World) : Prop where
  b : wr.heap[d]? = some (rrObj s q bd mn)
  z : wr.heap[w.heap.size]? = some (rxO 0 0 0 0 0 none 0 0)
  lo : RxOwn (w.heap.size + 1) (fun i => w.heap.size + 1 ≤ i) wr lv l
  f : Fr (at1 d) w wr
  o : d < w.heap.size
theorem WO.move {s : ByteArray} {d : Nat} {w : World} {l : List Rx} {lv : Value} {q : Nat} {bd mn : Bool} {wr wz : World} (h : WO s d w l lv q bd mn wr) (hf : Fr none_ wr wz) : WO s d w l lv q bd mn wz :=
  ⟨hf.at_ h.b (fun h => h), hf.at_ h.z (fun h => h), h.lo.move hf (fun _ _ _ h => h) (fun _ _ _ h => h), h.f.tr hf.none, h.o⟩
/-- What a way comes to where it ends. -/
def EndW (s : ByteArray) (k : Nat) (l : List Rx) (q : Nat) (m : Got Rx) (bd mn : Bool) : Prop := (bd = false ∧ mn = false ∧ m = .ok (ofR 2 l, q)) ∨ (bd = true ∧ q ≤ s.size + (k + 1) ∧ ∃ n, m = .error n ∧ mn = (n == 4))
theorem EndW.fin {s : ByteArray} {k d : Nat} {l : List Rx} {q : Nat} {m : Got Rx} {bd mn : Bool} {w w' : World} {v : Value} (h : EndW s k l q m bd mn) (hv : RxV (fun i => w.heap.size ≤ i) w' v (ofR 2 l)) (hb : w'.heap[d]? = some (rrObj s q bd mn)) (hf : Fr (at1 d) w w') :
    RGotR (k + 1) d s w m (.returned v) w' := by
  rcases h with ⟨rfl, rfl, rfl⟩ | ⟨rfl, hq, n, rfl, rfl⟩
  · exact ⟨_, rfl, hv, hb, hf⟩
  · exact ⟨_, _, q, rfl, hv, hq, hb, hf⟩
def StW (s : ByteArray) (k kk : Nat) (l : List Rx) (q : Nat) (m : Got Rx) (bd mn : Bool) : Prop := (bd = false ∧ mn = false ∧ kk ≤ k ∧ l.length ≤ q ∧ q ≤ s.size ∧ wayB s kk l q = some m) ∨ (bd = true ∧ l.length ≤ s.size + 1 ∧ q ≤ s.size + (k + 1) ∧ ∃ n, m = .error n ∧ mn = (n == 4))
/-- What a way comes to behind a piece that is read up to a place. -/
def AftW (s : ByteArray) (go : Nat) (l : List Rx) (mb : Option (Got Rx)) (m : Got Rx) : Prop := ∃ x, mb = some x ∧ (match x with | .error e => some (.error e) | .ok (r2, q2) => wayB s go (l ++ [r2]) q2) = some m
theorem AftW.fit {s : ByteArray} {go g q : Nat} {l : List Rx} {RN : Rx} {m : Got Rx} (h : AftW s go l (match fitR RN with | .error e => some (.error e) | .ok r' => behindB s g r' q) m) : (RN.size ≤ 500 → AftW s go l (behindB s g RN q) m) ∧ (500 < RN.size → m = .error 4) := by
  constructor
  · intro h5
    rw [fitR, if_neg (by omega)] at h
    exact h
  · intro h5
    rw [fitR, if_pos h5] at h
    obtain ⟨x, hx, h2⟩ := h
    simp only [Option.some.injEq] at hx
    subst hx
    simpa using h2.symm
def StI (s : ByteArray) (k go kk : Nat) (l : List Rx) (r : Rx) (q : Nat) (m : Got Rx) (bd mn : Bool) : Prop := (bd = false ∧ mn = false ∧ kk ≤ go ∧ l.length < q ∧ q ≤ s.size ∧ r.size ≤ 500 ∧ AftW s go l (behindB s kk r q) m) ∨ (bd = true ∧ q ≤ s.size + (k + 1) ∧ ∃ n, m = .error n ∧ mn = (n == 4))
set_option maxRecDepth 100000 in
set_option maxHeartbeats 8000000 in
theorem refway_step (s : ByteArray) (hs : s.size ≤ 1000) (k : Nat) (hk : k ≤ 10000) (hatom : ∀ j, j < k → RAtomC s j) : RWayC s k := by
  intro p d w m hp hb hm
  obtain ⟨i0, hi, hz0, hz1, hz2⟩ := info_parts rx_info
  have HO0 := Lib.hid (show WO s d w [] (.slice none 0 0) p false false (w.alloc (.cells #[.int .i64 0, .int .u64 0, .int .u64 0, .int .u64 0, .int .u64 0, .slice none 0 0] 28)) from
    ⟨((Fr.refl none_ w).alloc _).at_ hb (fun h => h), alloc_new w _, RxOwn.nil _ _ _, (Fr.refl _ w).alloc _, lt_of_block hb⟩)
  have HA := Lib.hid hatom
  have HM := Lib.hid hm
  clear hb hatom hm
  go_enter Try.func30, Try.ntmps30
  go_wp2_with fail
  go_loopg [3, 4, 5] k (fun kk v x4 x5 wr => ∃ l q bd mn, Aside (WO s d w l v q bd mn wr) ∧ Aside (StW s k kk l q m bd mn))
  case atStart => exact ⟨[], p, false, false, HO0.out, .inl ⟨rfl, rfl, Nat.le_refl _, by simp, hp, HM.out⟩⟩
  case round =>
    obtain ⟨l, q, bd, mn, hwo, hst⟩ := hrel
    have HO := Lib.hid hwo.out
    have HST := Lib.hid hst.out
    clear hwo hst
    obtain ⟨la, lcap, hlv, _, _⟩ := HO.out.lo.rows
    subst hlv
    have HG0 := Lib.hid (HO.out.move ((Fr.refl none_ _).drew))
    have hq0 : (0 : Int) ≤ (q : Int) := by omega
    cases bd with
    | true =>
      have HME := Lib.hid (show EndW s k l q m true mn from .inr (by
        rcases HST.out with h | h
        · simp at h
        · exact ⟨rfl, h.2.2.1, h.2.2.2⟩))
      go_wp2_with fail
      refine wp_region_held_drew (S := (fun w' => w'.cell? ⟨d, 0, none⟩ = some (.string s) ∧ w'.cell? ⟨d, 1, none⟩ = some (.int .i64 (q : Int)) ∧ w'.cell? ⟨d, 2, none⟩ = some (.bool true))) (by kernel_rfl) ⟨cell_of_block HG0.out.b rfl, cell_of_block HG0.out.b rfl, cell_of_block HG0.out.b rfl⟩ (fun hHeld => ?_)
      refine wpAnyH_take (i := 0) (v := ?_) wlit0 (by kernel_rfl) (by kernel_rfl) (by kernel_rfl) (fun _ _ _ h => h) (Or.inl ⟨by rfl, ?_⟩) (by assumption) ?_
      rotate_left
      · (intro w hSw; (try dsimp only at hSw); go_simp) <;> with_reducible rfl
      try simp only [Act.put, List.setIfInBounds_toArray, List.set_cons_zero, List.set_cons_succ]
      refine wpAnyH_take (i := 1) (v := ?_) wlit1 (by kernel_rfl) (by kernel_rfl) (by kernel_rfl) (fun _ _ _ h => h) (Or.inl ⟨by rfl, ?_⟩) (by assumption) ?_
      rotate_left
      · (intro w hSw; (try dsimp only at hSw); go_simp) <;> with_reducible rfl
      try simp only [Act.put, List.setIfInBounds_toArray, List.set_cons_zero, List.set_cons_succ]
      refine wpAnyH_take (i := 2) (v := ?_) wlit2 (by kernel_rfl) (by kernel_rfl) (by kernel_rfl) (fun _ _ _ h => h) (Or.inl ⟨by rfl, ?_⟩) (by assumption) ?_
      rotate_left
      · (intro w hSw; (try dsimp only at hSw); go_simp) <;> with_reducible rfl
      try simp only [Act.put, List.setIfInBounds_toArray, List.set_cons_zero, List.set_cons_succ]
      refine wpAnyH_take (i := 3) (v := ?_) wlit3 (by kernel_rfl) (by kernel_rfl) (by kernel_rfl) (fun _ _ _ h => h) (Or.inl ⟨by rfl, ?_⟩) (by assumption) ?_
      rotate_left
      · (intro w hSw; (try dsimp only at hSw); go_simp) <;> with_reducible rfl
      try simp only [Act.put, List.setIfInBounds_toArray, List.set_cons_zero, List.set_cons_succ]
      refine wpAnyH_take (i := 4) (v := ?_) wlit4 (by kernel_rfl) (by kernel_rfl) (by kernel_rfl) (fun _ _ _ h => h) (Or.inl ⟨by rfl, ?_⟩) (by assumption) ?_
      rotate_left
      · (intro w hSw; (try dsimp only at hSw); go_simp) <;> with_reducible rfl
      try simp only [Act.put, List.setIfInBounds_toArray, List.set_cons_zero, List.set_cons_succ]
      refine wpAnyH_take (i := 5) (v := ?_) wlit5 (by kernel_rfl) (by kernel_rfl) (by kernel_rfl) (fun _ _ _ h => h) (Or.inl ⟨by rfl, ?_⟩) (by assumption) ?_
      rotate_left
      · (intro w hSw; (try dsimp only at hSw); go_simp) <;> with_reducible rfl
      try simp only [Act.put, List.setIfInBounds_toArray, List.set_cons_zero, List.set_cons_succ]
      refine wpAnyH_take (i := 6) wlit6 (by kernel_rfl) (by kernel_rfl) (by kernel_rfl) (fun _ _ _ h => h) (Or.inr ⟨by rfl, rfl⟩) (by assumption) ?_
      try simp only [Act.put, List.setIfInBounds_toArray, List.set_cons_zero, List.set_cons_succ]
      refine wpAnyH_take (i := 7) wlit7 (by kernel_rfl) (by kernel_rfl) (by kernel_rfl) (fun _ _ _ h => h) (Or.inr ⟨by rfl, rfl⟩) (by assumption) ?_
      try simp only [Act.put, List.setIfInBounds_toArray, List.set_cons_zero, List.set_cons_succ]
      refine wpAnyH_take (i := 8) wlit8 (by kernel_rfl) (by kernel_rfl) (by kernel_rfl) (fun _ _ _ h => h) (Or.inr ⟨by rfl, rfl⟩) (by assumption) ?_
      try simp only [Act.put, List.setIfInBounds_toArray, List.set_cons_zero, List.set_cons_succ]
      refine wpAnyH_take (i := 9) wlit9 (by kernel_rfl) (by kernel_rfl) (by kernel_rfl) (fun _ _ _ h => h) (Or.inr ⟨by rfl, rfl⟩) (by assumption) ?_
      try simp only [Act.put, List.setIfInBounds_toArray, List.set_cons_zero, List.set_cons_succ]
      refine wpAnyH_take (i := 10) wlit10 (by kernel_rfl) (by kernel_rfl) (by kernel_rfl) (fun _ _ _ h => h) (Or.inr ⟨by rfl, rfl⟩) (by assumption) ?_
      try simp only [Act.put, List.setIfInBounds_toArray, List.set_cons_zero, List.set_cons_succ]
      refine wpAnyH_take (i := 11) wlit11 (by kernel_rfl) (by kernel_rfl) (by kernel_rfl) (fun _ _ _ h => h) (Or.inr ⟨by rfl, rfl⟩) (by assumption) ?_
      try simp only [Act.put, List.setIfInBounds_toArray, List.set_cons_zero, List.set_cons_succ]
      refine wpAnyH_take (i := 12) wlit12 (by kernel_rfl) (by kernel_rfl) (by kernel_rfl) (fun _ _ _ h => h) (Or.inr ⟨by rfl, rfl⟩) (by assumption) ?_
      try simp only [Act.put, List.setIfInBounds_toArray, List.set_cons_zero, List.set_cons_succ]
      refine wpAnyH_take (i := 13) wlit13 (by kernel_rfl) (by kernel_rfl) (by kernel_rfl) (fun _ _ _ h => h) (Or.inr ⟨by rfl, rfl⟩) (by assumption) ?_
      try simp only [Act.put, List.setIfInBounds_toArray, List.set_cons_zero, List.set_cons_succ]
      refine wpAnyH_take (i := 14) wlit14 (by kernel_rfl) (by kernel_rfl) (by kernel_rfl) (fun _ _ _ h => h) (Or.inr ⟨by rfl, rfl⟩) (by assumption) ?_
      try simp only [Act.put, List.setIfInBounds_toArray, List.set_cons_zero, List.set_cons_succ]
      refine wpAnyH_take (i := 15) wlit15 (by kernel_rfl) (by kernel_rfl) (by kernel_rfl) (fun _ _ _ h => h) (Or.inr ⟨by rfl, rfl⟩) (by assumption) ?_
      try simp only [Act.put, List.setIfInBounds_toArray, List.set_cons_zero, List.set_cons_succ]
      refine wpAnyH_take (i := 16) (v := ?_) wlit16 (by kernel_rfl) (by kernel_rfl) (by kernel_rfl) (fun _ _ _ h => h) (Or.inl ⟨by rfl, ?_⟩) (by assumption) ?_
      rotate_left
      · (intro w hSw; (try dsimp only at hSw); go_simp) <;> with_reducible rfl
      try simp only [Act.put, List.setIfInBounds_toArray, List.set_cons_zero, List.set_cons_succ]
      refine wpAnyH_take (i := 17) (v := ?_) wlit17 (by kernel_rfl) (by kernel_rfl) (by kernel_rfl) (fun _ _ _ h => h) (Or.inl ⟨by rfl, ?_⟩) (by assumption) ?_
      rotate_left
      · (intro w hSw; (try dsimp only at hSw); go_simp) <;> with_reducible rfl
      try simp only [Act.put, List.setIfInBounds_toArray, List.set_cons_zero, List.set_cons_succ]
      refine wpAnyH_take (i := 18) wlit18 (by kernel_rfl) (by kernel_rfl) (by kernel_rfl) (fun _ _ _ h => h) (Or.inr ⟨by rfl, rfl⟩) (by assumption) ?_
      try simp only [Act.put, List.setIfInBounds_toArray, List.set_cons_zero, List.set_cons_succ]
      refine wpAnyH_take (i := 19) wlit19 (by kernel_rfl) (by kernel_rfl) (by kernel_rfl) (fun _ _ _ h => h) (Or.inr ⟨by rfl, rfl⟩) (by assumption) ?_
      try simp only [Act.put, List.setIfInBounds_toArray, List.set_cons_zero, List.set_cons_succ]
      refine wpAnyH_take (i := 20) wlit20 (by kernel_rfl) (by kernel_rfl) (by kernel_rfl) (fun _ _ _ h => h) (Or.inr ⟨by rfl, rfl⟩) (by assumption) ?_
      try simp only [Act.put, List.setIfInBounds_toArray, List.set_cons_zero, List.set_cons_succ]
      refine wpAnyH_take (i := 21) (v := ?_) wlit21 (by kernel_rfl) (by kernel_rfl) (by kernel_rfl) (fun _ _ _ h => h) (Or.inl ⟨by rfl, ?_⟩) (by assumption) ?_
      rotate_left
      · (intro w hSw; (try dsimp only at hSw); go_simp) <;> with_reducible rfl
      try simp only [Act.put, List.setIfInBounds_toArray, List.set_cons_zero, List.set_cons_succ]
      refine wpAnyH_take (i := 22) (v := ?_) wlit22 (by kernel_rfl) (by kernel_rfl) (by kernel_rfl) (fun _ _ _ h => h) (Or.inl ⟨by rfl, ?_⟩) (by assumption) ?_
      rotate_left
      · (intro w hSw; (try dsimp only at hSw); go_simp) <;> with_reducible rfl
      try simp only [Act.put, List.setIfInBounds_toArray, List.set_cons_zero, List.set_cons_succ]
      refine wpAnyH_take (i := 23) wlit23 (by kernel_rfl) (by kernel_rfl) (by kernel_rfl) (fun _ _ _ h => h) (Or.inr ⟨by rfl, rfl⟩) (by assumption) ?_
      try simp only [Act.put, List.setIfInBounds_toArray, List.set_cons_zero, List.set_cons_succ]
      refine wpAnyH_take (i := 24) wlit24 (by kernel_rfl) (by kernel_rfl) (by kernel_rfl) (fun _ _ _ h => h) (Or.inr ⟨by rfl, rfl⟩) (by assumption) ?_
      try simp only [Act.put, List.setIfInBounds_toArray, List.set_cons_zero, List.set_cons_succ]
      refine wpAnyH_take (i := 25) wlit25 (by kernel_rfl) (by kernel_rfl) (by kernel_rfl) (fun _ _ _ h => h) (Or.inr ⟨by rfl, rfl⟩) (by assumption) ?_
      try simp only [Act.put, List.setIfInBounds_toArray, List.set_cons_zero, List.set_cons_succ]
      refine wpAnyH_take (i := 26) (v := ?_) wlit26 (by kernel_rfl) (by kernel_rfl) (by kernel_rfl) (fun _ _ _ h => h) (Or.inl ⟨by rfl, ?_⟩) (by assumption) ?_
      rotate_left
      · (intro w hSw; (try dsimp only at hSw); go_simp) <;> with_reducible rfl
      try simp only [Act.put, List.setIfInBounds_toArray, List.set_cons_zero, List.set_cons_succ]
      refine wpAnyH_done (by kernel_rfl) ?_ _
      generalize wr.drew = wx at *
      obtain ⟨r0, r1, r2, r3, r4, r5⟩ := six HG0.out.z
      have zf : ∀ o, wx.frozen? ⟨w.heap.size, o, none⟩ = false := fun o => free_of_block HG0.out.z
      have hne : ¬ at1 w.heap.size d := by have := HG0.out.o; simp only [at1]; omega
      obtain ⟨la', lcap', hlv, hlc, hll⟩ := HG0.out.lo.rows
      simp only [Value.slice.injEq, true_and] at hlv
      obtain ⟨rfl, rfl⟩ := hlv
      have HLL := Lib.hid hll
      clear hll
      rcases l with _ | ⟨⟨c, x0, x1, x2, x3, ks⟩, _ | ⟨⟨c2, y0, y1, y2, y3, ks2⟩, l⟩⟩
      · have e0 : (((([] : List Rx).length : Nat) : Int) == 0) = true := rfl
        go_wp2_with fail
        refine bodyPost_ret (results_six rfl rfl (set_six HG0.out.z _ _ _ _ _ _)) rfl ?_
        have fx := fr_six (S := at1 w.heap.size) (r := w.heap.size) (Fr.refl _ wx) (.inl rfl) (.int .i64 0) (.int .u64 ((0 : Nat) : Int)) (.int .u64 ((0 : Nat) : Int)) (.int .u64 ((0 : Nat) : Int)) (.int .u64 ((0 : Nat) : Int)) (.slice none 0 0)
        exact HME.out.fin (RxV.zero_ _ _) (fx.at_ HG0.out.b hne) (fr_six HG0.out.f (.inr (Nat.le_refl _)) _ _ _ _ _ _)
      · obtain ⟨ad, a', cap', rfl, hok, c0, c1, c2, c3, c4, c5, hc', hl'⟩ := HLL.out.elem (i := 0) rfl
        have ha0 : ad.add (0 * 6) = ad := by simp [Addr.add]
        rw [ha0] at c0 c1 c2 c3 c4 c5
        clear ha0
        have HL' := Lib.hid hl'
        clear hl'
        have e0 : (((([Rx.mk c x0 x1 x2 x3 ks] : List Rx).length : Nat) : Int) == 0) = false := rfl
        have e1 : (((([Rx.mk c x0 x1 x2 x3 ks] : List Rx).length : Nat) : Int) == 1) = true := rfl
        go_wp2_with fail
        refine bodyPost_ret (results_six rfl rfl (set_six HG0.out.z _ _ _ _ _ _)) rfl ?_
        have fx := fr_six (S := at1 w.heap.size) (r := w.heap.size) (Fr.refl _ wx) (.inl rfl) (.int .i64 c) (.int .u64 (x0 : Int)) (.int .u64 (x1 : Int)) (.int .u64 (x2 : Int)) (.int .u64 (x3 : Int)) (.slice a' ks.length cap')
        refine HME.out.fin ?_ (fx.at_ HG0.out.b hne) (fr_six HG0.out.f (.inr (Nat.le_refl _)) _ _ _ _ _ _)
        exact ((RxV.mk_ hc' HL'.out).move fx (fun i hi _ => by simp only [at1]; omega)).mono (fun i hi => by omega)
      · have e0 : ((((Rx.mk c x0 x1 x2 x3 ks :: Rx.mk c2 y0 y1 y2 y3 ks2 :: l : List Rx).length : Nat) : Int) == 0) = false := by rw [beq_eq_false_iff_ne]; simp; omega
        have e1 : ((((Rx.mk c x0 x1 x2 x3 ks :: Rx.mk c2 y0 y1 y2 y3 ks2 :: l : List Rx).length : Nat) : Int) == 1) = false := by rw [beq_eq_false_iff_ne]; simp; omega
        have HLN := Lib.hid (show (ofR 2 (Rx.mk c x0 x1 x2 x3 ks :: Rx.mk c2 y0 y1 y2 y3 ks2 :: l)) = .mk 2 0 0 0 0 (Rx.mk c x0 x1 x2 x3 ks :: Rx.mk c2 y0 y1 y2 y3 ks2 :: l) from rfl)
        generalize (Rx.mk c x0 x1 x2 x3 ks :: Rx.mk c2 y0 y1 y2 y3 ks2 :: l) = L at *
        go_wp2_with fail
        refine bodyPost_ret (results_six rfl rfl (set_six HG0.out.z _ _ _ _ _ _)) rfl ?_
        have fx := fr_six (S := at1 w.heap.size) (r := w.heap.size) (Fr.refl _ wx) (.inl rfl) (.int .i64 2) (.int .u64 ((0 : Nat) : Int)) (.int .u64 ((0 : Nat) : Int)) (.int .u64 ((0 : Nat) : Int)) (.int .u64 ((0 : Nat) : Int)) (.slice la L.length lcap)
        refine HME.out.fin ?_ (fx.at_ HG0.out.b hne) (fr_six HG0.out.f (.inr (Nat.le_refl _)) _ _ _ _ _ _)
        rw [HLN.out]
        exact ((RxV.mk_ (k := 2) (b0 := 0) (b1 := 0) (b2 := 0) (b3 := 0) hlc HLL.out).move fx (fun i hi _ => by simp only [at1]; omega)).mono (fun i hi => by omega)
    | false =>
      obtain ⟨rfl, hgk, hlq, hqs, hway⟩ : mn = false ∧ gk ≤ k ∧ l.length ≤ q ∧ q ≤ s.size ∧ wayB s gk l q = some m := by
        rcases HST.out with h | h
        · exact h.2
        · simp at h
      clear HST
      cases gk with
      | zero => simp [wayB] at hway
      | succ go =>
        rw [wayB] at hway
        by_cases hlt : q < s.size
        case neg =>
          rw [if_pos (.inl hlt)] at hway
          have HME := Lib.hid (show EndW s k l q m false false from .inl ⟨rfl, rfl, by simpa using hway.symm⟩)
          have hge : decide ((q : Int) < (s.size : Int)) = false := by simp; omega
          have hgn : decide (q < s.size) = false := by simp; omega
          clear hway
          go_wp2_with fail
          refine wp_region_held_drew (S := (fun w' => w'.cell? ⟨d, 0, none⟩ = some (.string s) ∧ w'.cell? ⟨d, 1, none⟩ = some (.int .i64 (q : Int)) ∧ w'.cell? ⟨d, 2, none⟩ = some (.bool false))) (by kernel_rfl) ⟨cell_of_block HG0.out.b rfl, cell_of_block HG0.out.b rfl, cell_of_block HG0.out.b rfl⟩ (fun hHeld => ?_)
          refine wpAnyH_take (i := 0) (v := ?_) wlit0 (by kernel_rfl) (by kernel_rfl) (by kernel_rfl) (fun _ _ _ h => h) (Or.inl ⟨by rfl, ?_⟩) (by assumption) ?_
          rotate_left
          · (intro w hSw; (try dsimp only at hSw); go_simp) <;> with_reducible rfl
          try simp only [Act.put, List.setIfInBounds_toArray, List.set_cons_zero, List.set_cons_succ]
          refine wpAnyH_take (i := 1) (v := ?_) wlit1 (by kernel_rfl) (by kernel_rfl) (by kernel_rfl) (fun _ _ _ h => h) (Or.inl ⟨by rfl, ?_⟩) (by assumption) ?_
          rotate_left
          · (intro w hSw; (try dsimp only at hSw); go_simp) <;> with_reducible rfl
          try simp only [Act.put, List.setIfInBounds_toArray, List.set_cons_zero, List.set_cons_succ]
          refine wpAnyH_take (i := 2) (v := ?_) wlit2 (by kernel_rfl) (by kernel_rfl) (by kernel_rfl) (fun _ _ _ h => h) (Or.inl ⟨by rfl, ?_⟩) (by assumption) ?_
          rotate_left
          · (intro w hSw; (try dsimp only at hSw); go_simp) <;> with_reducible rfl
          try simp only [Act.put, List.setIfInBounds_toArray, List.set_cons_zero, List.set_cons_succ]
          refine wpAnyH_take (i := 3) (v := ?_) wlit3 (by kernel_rfl) (by kernel_rfl) (by kernel_rfl) (fun _ _ _ h => h) (Or.inl ⟨by rfl, ?_⟩) (by assumption) ?_
          rotate_left
          · (intro w hSw; (try dsimp only at hSw); go_simp) <;> with_reducible rfl
          try simp only [Act.put, List.setIfInBounds_toArray, List.set_cons_zero, List.set_cons_succ]
          refine wpAnyH_take (i := 4) (v := ?_) wlit4 (by kernel_rfl) (by kernel_rfl) (by kernel_rfl) (fun _ _ _ h => h) (Or.inl ⟨by rfl, ?_⟩) (by assumption) ?_
          rotate_left
          · (intro w hSw; (try dsimp only at hSw); go_simp) <;> with_reducible rfl
          try simp only [Act.put, List.setIfInBounds_toArray, List.set_cons_zero, List.set_cons_succ]
          refine wpAnyH_take (i := 5) (v := ?_) wlit5 (by kernel_rfl) (by kernel_rfl) (by kernel_rfl) (fun _ _ _ h => h) (Or.inl ⟨by rfl, ?_⟩) (by assumption) ?_
          rotate_left
          · (intro w hSw; (try dsimp only at hSw); go_simp) <;> with_reducible rfl
          try simp only [Act.put, List.setIfInBounds_toArray, List.set_cons_zero, List.set_cons_succ]
          refine wpAnyH_take (i := 6) (v := ?_) wlit6 (by kernel_rfl) (by kernel_rfl) (by kernel_rfl) (fun _ _ _ h => h) (Or.inl ⟨by rfl, ?_⟩) (by assumption) ?_
          rotate_left
          · (intro w hSw; (try dsimp only at hSw); go_simp) <;> with_reducible rfl
          try simp only [Act.put, List.setIfInBounds_toArray, List.set_cons_zero, List.set_cons_succ]
          refine wpAnyH_take (i := 7) (v := ?_) wlit7 (by kernel_rfl) (by kernel_rfl) (by kernel_rfl) (fun _ _ _ h => h) (Or.inl ⟨by rfl, ?_⟩) (by assumption) ?_
          rotate_left
          · (intro w hSw; (try dsimp only at hSw); go_simp) <;> with_reducible rfl
          try simp only [Act.put, List.setIfInBounds_toArray, List.set_cons_zero, List.set_cons_succ]
          refine wpAnyH_take (i := 8) (v := ?_) wlit8 (by kernel_rfl) (by kernel_rfl) (by kernel_rfl) (fun _ _ _ h => h) (Or.inl ⟨by rfl, ?_⟩) (by assumption) ?_
          rotate_left
          · (intro w hSw; (try dsimp only at hSw); go_simp) <;> with_reducible rfl
          try simp only [Act.put, List.setIfInBounds_toArray, List.set_cons_zero, List.set_cons_succ]
          refine wpAnyH_take (i := 9) (v := ?_) wlit9 (by kernel_rfl) (by kernel_rfl) (by kernel_rfl) (fun _ _ _ h => h) (Or.inl ⟨by rfl, ?_⟩) (by assumption) ?_
          rotate_left
          · (intro w hSw; (try dsimp only at hSw); go_simp) <;> with_reducible rfl
          try simp only [Act.put, List.setIfInBounds_toArray, List.set_cons_zero, List.set_cons_succ]
          refine wpAnyH_take (i := 10) (v := ?_) wlit10 (by kernel_rfl) (by kernel_rfl) (by kernel_rfl) (fun _ _ _ h => h) (Or.inl ⟨by rfl, ?_⟩) (by assumption) ?_
          rotate_left
          · (intro w hSw; (try dsimp only at hSw); go_simp) <;> with_reducible rfl
          try simp only [Act.put, List.setIfInBounds_toArray, List.set_cons_zero, List.set_cons_succ]
          refine wpAnyH_take (i := 11) (v := ?_) wlit11 (by kernel_rfl) (by kernel_rfl) (by kernel_rfl) (fun _ _ _ h => h) (Or.inl ⟨by rfl, ?_⟩) (by assumption) ?_
          rotate_left
          · (intro w hSw; (try dsimp only at hSw); go_simp) <;> with_reducible rfl
          try simp only [Act.put, List.setIfInBounds_toArray, List.set_cons_zero, List.set_cons_succ]
          refine wpAnyH_take (i := 12) (v := ?_) wlit12 (by kernel_rfl) (by kernel_rfl) (by kernel_rfl) (fun _ _ _ h => h) (Or.inl ⟨by rfl, ?_⟩) (by assumption) ?_
          rotate_left
          · (intro w hSw; (try dsimp only at hSw); go_simp) <;> with_reducible rfl
          try simp only [Act.put, List.setIfInBounds_toArray, List.set_cons_zero, List.set_cons_succ]
          refine wpAnyH_take (i := 13) (v := ?_) wlit13 (by kernel_rfl) (by kernel_rfl) (by kernel_rfl) (fun _ _ _ h => h) (Or.inl ⟨by rfl, ?_⟩) (by assumption) ?_
          rotate_left
          · (intro w hSw; (try dsimp only at hSw); go_simp) <;> with_reducible rfl
          try simp only [Act.put, List.setIfInBounds_toArray, List.set_cons_zero, List.set_cons_succ]
          refine wpAnyH_take (i := 14) (v := ?_) wlit14 (by kernel_rfl) (by kernel_rfl) (by kernel_rfl) (fun _ _ _ h => h) (Or.inl ⟨by rfl, ?_⟩) (by assumption) ?_
          rotate_left
          · (intro w hSw; (try dsimp only at hSw); go_simp) <;> with_reducible rfl
          try simp only [Act.put, List.setIfInBounds_toArray, List.set_cons_zero, List.set_cons_succ]
          refine wpAnyH_take (i := 15) (v := ?_) wlit15 (by kernel_rfl) (by kernel_rfl) (by kernel_rfl) (fun _ _ _ h => h) (Or.inl ⟨by rfl, ?_⟩) (by assumption) ?_
          rotate_left
          · (intro w hSw; (try dsimp only at hSw); go_simp) <;> with_reducible rfl
          try simp only [Act.put, List.setIfInBounds_toArray, List.set_cons_zero, List.set_cons_succ]
          refine wpAnyH_take (i := 16) (v := ?_) wlit16 (by kernel_rfl) (by kernel_rfl) (by kernel_rfl) (fun _ _ _ h => h) (Or.inl ⟨by rfl, ?_⟩) (by assumption) ?_
          rotate_left
          · (intro w hSw; (try dsimp only at hSw); go_simp) <;> with_reducible rfl
          try simp only [Act.put, List.setIfInBounds_toArray, List.set_cons_zero, List.set_cons_succ]
          refine wpAnyH_take (i := 17) (v := ?_) wlit17 (by kernel_rfl) (by kernel_rfl) (by kernel_rfl) (fun _ _ _ h => h) (Or.inl ⟨by rfl, ?_⟩) (by assumption) ?_
          rotate_left
          · (intro w hSw; (try dsimp only at hSw); go_simp) <;> with_reducible rfl
          try simp only [Act.put, List.setIfInBounds_toArray, List.set_cons_zero, List.set_cons_succ]
          refine wpAnyH_take (i := 18) wlit18 (by kernel_rfl) (by kernel_rfl) (by kernel_rfl) (fun _ _ _ h => h) (Or.inr ⟨by rfl, rfl⟩) (by assumption) ?_
          try simp only [Act.put, List.setIfInBounds_toArray, List.set_cons_zero, List.set_cons_succ]
          refine wpAnyH_take (i := 19) wlit19 (by kernel_rfl) (by kernel_rfl) (by kernel_rfl) (fun _ _ _ h => h) (Or.inr ⟨by rfl, rfl⟩) (by assumption) ?_
          try simp only [Act.put, List.setIfInBounds_toArray, List.set_cons_zero, List.set_cons_succ]
          refine wpAnyH_take (i := 20) wlit20 (by kernel_rfl) (by kernel_rfl) (by kernel_rfl) (fun _ _ _ h => h) (Or.inr ⟨by rfl, rfl⟩) (by assumption) ?_
          try simp only [Act.put, List.setIfInBounds_toArray, List.set_cons_zero, List.set_cons_succ]
          refine wpAnyH_take (i := 21) (v := ?_) wlit21 (by kernel_rfl) (by kernel_rfl) (by kernel_rfl) (fun _ _ _ h => h) (Or.inl ⟨by rfl, ?_⟩) (by assumption) ?_
          rotate_left
          · (intro w hSw; (try dsimp only at hSw); go_simp) <;> with_reducible rfl
          try simp only [Act.put, List.setIfInBounds_toArray, List.set_cons_zero, List.set_cons_succ]
          refine wpAnyH_take (i := 22) (v := ?_) wlit22 (by kernel_rfl) (by kernel_rfl) (by kernel_rfl) (fun _ _ _ h => h) (Or.inl ⟨by rfl, ?_⟩) (by assumption) ?_
          rotate_left
          · (intro w hSw; (try dsimp only at hSw); go_simp) <;> with_reducible rfl
          try simp only [Act.put, List.setIfInBounds_toArray, List.set_cons_zero, List.set_cons_succ]
          refine wpAnyH_take (i := 23) wlit23 (by kernel_rfl) (by kernel_rfl) (by kernel_rfl) (fun _ _ _ h => h) (Or.inr ⟨by rfl, rfl⟩) (by assumption) ?_
          try simp only [Act.put, List.setIfInBounds_toArray, List.set_cons_zero, List.set_cons_succ]
          refine wpAnyH_take (i := 24) wlit24 (by kernel_rfl) (by kernel_rfl) (by kernel_rfl) (fun _ _ _ h => h) (Or.inr ⟨by rfl, rfl⟩) (by assumption) ?_
          try simp only [Act.put, List.setIfInBounds_toArray, List.set_cons_zero, List.set_cons_succ]
          refine wpAnyH_take (i := 25) wlit25 (by kernel_rfl) (by kernel_rfl) (by kernel_rfl) (fun _ _ _ h => h) (Or.inr ⟨by rfl, rfl⟩) (by assumption) ?_
          try simp only [Act.put, List.setIfInBounds_toArray, List.set_cons_zero, List.set_cons_succ]
          refine wpAnyH_take (i := 26) (v := ?_) wlit26 (by kernel_rfl) (by kernel_rfl) (by kernel_rfl) (fun _ _ _ h => h) (Or.inl ⟨by rfl, ?_⟩) (by assumption) ?_
          rotate_left
          · (intro w hSw; (try dsimp only at hSw); go_simp) <;> with_reducible rfl
          try simp only [Act.put, List.setIfInBounds_toArray, List.set_cons_zero, List.set_cons_succ]
          refine wpAnyH_done (by kernel_rfl) ?_ _
          generalize wr.drew = wx at *
          obtain ⟨r0, r1, r2, r3, r4, r5⟩ := six HG0.out.z
          have zf : ∀ o, wx.frozen? ⟨w.heap.size, o, none⟩ = false := fun o => free_of_block HG0.out.z
          have hne : ¬ at1 w.heap.size d := by have := HG0.out.o; simp only [at1]; omega
          obtain ⟨la', lcap', hlv, hlc, hll⟩ := HG0.out.lo.rows
          simp only [Value.slice.injEq, true_and] at hlv
          obtain ⟨rfl, rfl⟩ := hlv
          have HLL := Lib.hid hll
          clear hll
          rcases l with _ | ⟨⟨c, x0, x1, x2, x3, ks⟩, _ | ⟨⟨c2, y0, y1, y2, y3, ks2⟩, l⟩⟩
          · have e0 : (((([] : List Rx).length : Nat) : Int) == 0) = true := rfl
            go_wp2_with fail
            refine bodyPost_ret (results_six rfl rfl (set_six HG0.out.z _ _ _ _ _ _)) rfl ?_
            have fx := fr_six (S := at1 w.heap.size) (r := w.heap.size) (Fr.refl _ wx) (.inl rfl) (.int .i64 0) (.int .u64 ((0 : Nat) : Int)) (.int .u64 ((0 : Nat) : Int)) (.int .u64 ((0 : Nat) : Int)) (.int .u64 ((0 : Nat) : Int)) (.slice none 0 0)
            exact HME.out.fin (RxV.zero_ _ _) (fx.at_ HG0.out.b hne) (fr_six HG0.out.f (.inr (Nat.le_refl _)) _ _ _ _ _ _)
          · obtain ⟨ad, a', cap', rfl, hok, c0, c1, c2, c3, c4, c5, hc', hl'⟩ := HLL.out.elem (i := 0) rfl
            have ha0 : ad.add (0 * 6) = ad := by simp [Addr.add]
            rw [ha0] at c0 c1 c2 c3 c4 c5
            clear ha0
            have HL' := Lib.hid hl'
            clear hl'
            have e0 : (((([Rx.mk c x0 x1 x2 x3 ks] : List Rx).length : Nat) : Int) == 0) = false := rfl
            have e1 : (((([Rx.mk c x0 x1 x2 x3 ks] : List Rx).length : Nat) : Int) == 1) = true := rfl
            go_wp2_with fail
            refine bodyPost_ret (results_six rfl rfl (set_six HG0.out.z _ _ _ _ _ _)) rfl ?_
            have fx := fr_six (S := at1 w.heap.size) (r := w.heap.size) (Fr.refl _ wx) (.inl rfl) (.int .i64 c) (.int .u64 (x0 : Int)) (.int .u64 (x1 : Int)) (.int .u64 (x2 : Int)) (.int .u64 (x3 : Int)) (.slice a' ks.length cap')
            refine HME.out.fin ?_ (fx.at_ HG0.out.b hne) (fr_six HG0.out.f (.inr (Nat.le_refl _)) _ _ _ _ _ _)
            exact ((RxV.mk_ hc' HL'.out).move fx (fun i hi _ => by simp only [at1]; omega)).mono (fun i hi => by omega)
          · have e0 : ((((Rx.mk c x0 x1 x2 x3 ks :: Rx.mk c2 y0 y1 y2 y3 ks2 :: l : List Rx).length : Nat) : Int) == 0) = false := by rw [beq_eq_false_iff_ne]; simp; omega
            have e1 : ((((Rx.mk c x0 x1 x2 x3 ks :: Rx.mk c2 y0 y1 y2 y3 ks2 :: l : List Rx).length : Nat) : Int) == 1) = false := by rw [beq_eq_false_iff_ne]; simp; omega
            have HLN := Lib.hid (show (ofR 2 (Rx.mk c x0 x1 x2 x3 ks :: Rx.mk c2 y0 y1 y2 y3 ks2 :: l)) = .mk 2 0 0 0 0 (Rx.mk c x0 x1 x2 x3 ks :: Rx.mk c2 y0 y1 y2 y3 ks2 :: l) from rfl)
            generalize (Rx.mk c x0 x1 x2 x3 ks :: Rx.mk c2 y0 y1 y2 y3 ks2 :: l) = L at *
            go_wp2_with fail
            refine bodyPost_ret (results_six rfl rfl (set_six HG0.out.z _ _ _ _ _ _)) rfl ?_
            have fx := fr_six (S := at1 w.heap.size) (r := w.heap.size) (Fr.refl _ wx) (.inl rfl) (.int .i64 2) (.int .u64 ((0 : Nat) : Int)) (.int .u64 ((0 : Nat) : Int)) (.int .u64 ((0 : Nat) : Int)) (.int .u64 ((0 : Nat) : Int)) (.slice la L.length lcap)
            refine HME.out.fin ?_ (fx.at_ HG0.out.b hne) (fr_six HG0.out.f (.inr (Nat.le_refl _)) _ _ _ _ _ _)
            rw [HLN.out]
            exact ((RxV.mk_ (k := 2) (b0 := 0) (b1 := 0) (b2 := 0) (b3 := 0) hlc HLL.out).move fx (fun i hi _ => by simp only [at1]; omega)).mono (fun i hi => by omega)
        have hge : decide ((q : Int) < (s.size : Int)) = true := by simp; omega
        have hgn : decide (q < s.size) = true := by simp; omega
        have hib : ∀ c, isB s q c = decide (byteAt s q = c) := fun c => by simp [isB, hlt]
        by_cases h124 : byteAt s q = 124
        case pos =>
          rw [if_pos (.inr (.inl h124))] at hway
          have HME := Lib.hid (show EndW s k l q m false false from .inl ⟨rfl, rfl, by simpa using hway.symm⟩)
          have E124 := Lib.hid (show isB s q 124 = true by rw [hib]; exact decide_eq_true h124)
          clear hway
          go_wp2_with fail
          refine wp_region_held_drew (S := (fun w' => w'.cell? ⟨d, 0, none⟩ = some (.string s) ∧ w'.cell? ⟨d, 1, none⟩ = some (.int .i64 (q : Int)) ∧ w'.cell? ⟨d, 2, none⟩ = some (.bool false))) (by kernel_rfl) ⟨cell_of_block HG0.out.b rfl, cell_of_block HG0.out.b rfl, cell_of_block HG0.out.b rfl⟩ (fun hHeld => ?_)
          refine wpAnyH_take (i := 0) (v := ?_) wlit0 (by kernel_rfl) (by kernel_rfl) (by kernel_rfl) (fun _ _ _ h => h) (Or.inl ⟨by rfl, ?_⟩) (by assumption) ?_
          rotate_left
          · (intro w hSw; (try dsimp only at hSw); go_simp) <;> with_reducible rfl
          try simp only [Act.put, List.setIfInBounds_toArray, List.set_cons_zero, List.set_cons_succ]
          refine wpAnyH_take (i := 1) (v := ?_) wlit1 (by kernel_rfl) (by kernel_rfl) (by kernel_rfl) (fun _ _ _ h => h) (Or.inl ⟨by rfl, ?_⟩) (by assumption) ?_
          rotate_left
          · (intro w hSw; (try dsimp only at hSw); go_simp) <;> with_reducible rfl
          try simp only [Act.put, List.setIfInBounds_toArray, List.set_cons_zero, List.set_cons_succ]
          refine wpAnyH_take (i := 2) (v := ?_) wlit2 (by kernel_rfl) (by kernel_rfl) (by kernel_rfl) (fun _ _ _ h => h) (Or.inl ⟨by rfl, ?_⟩) (by assumption) ?_
          rotate_left
          · (intro w hSw; (try dsimp only at hSw); go_simp) <;> with_reducible rfl
          try simp only [Act.put, List.setIfInBounds_toArray, List.set_cons_zero, List.set_cons_succ]
          refine wpAnyH_take (i := 3) (v := ?_) wlit3 (by kernel_rfl) (by kernel_rfl) (by kernel_rfl) (fun _ _ _ h => h) (Or.inl ⟨by rfl, ?_⟩) (by assumption) ?_
          rotate_left
          · (intro w hSw; (try dsimp only at hSw); go_simp) <;> with_reducible rfl
          try simp only [Act.put, List.setIfInBounds_toArray, List.set_cons_zero, List.set_cons_succ]
          refine wpAnyH_take (i := 4) (v := ?_) wlit4 (by kernel_rfl) (by kernel_rfl) (by kernel_rfl) (fun _ _ _ h => h) (Or.inl ⟨by rfl, ?_⟩) (by assumption) ?_
          rotate_left
          · (intro w hSw; (try dsimp only at hSw); go_simp) <;> with_reducible rfl
          try simp only [Act.put, List.setIfInBounds_toArray, List.set_cons_zero, List.set_cons_succ]
          refine wpAnyH_take (i := 5) (v := ?_) wlit5 (by kernel_rfl) (by kernel_rfl) (by kernel_rfl) (fun _ _ _ h => h) (Or.inl ⟨by rfl, ?_⟩) (by assumption) ?_
          rotate_left
          · (intro w hSw; (try dsimp only at hSw); go_simp) <;> with_reducible rfl
          try simp only [Act.put, List.setIfInBounds_toArray, List.set_cons_zero, List.set_cons_succ]
          refine wpAnyH_take (i := 6) (v := ?_) wlit6 (by kernel_rfl) (by kernel_rfl) (by kernel_rfl) (fun _ _ _ h => h) (Or.inl ⟨by rfl, ?_⟩) (by assumption) ?_
          rotate_left
          · (intro w hSw; (try dsimp only at hSw); go_simp) <;> with_reducible rfl
          try simp only [Act.put, List.setIfInBounds_toArray, List.set_cons_zero, List.set_cons_succ]
          refine wpAnyH_take (i := 7) (v := ?_) wlit7 (by kernel_rfl) (by kernel_rfl) (by kernel_rfl) (fun _ _ _ h => h) (Or.inl ⟨by rfl, ?_⟩) (by assumption) ?_
          rotate_left
          · (intro w hSw; (try dsimp only at hSw); go_simp) <;> with_reducible rfl
          try simp only [Act.put, List.setIfInBounds_toArray, List.set_cons_zero, List.set_cons_succ]
          refine wpAnyH_take (i := 8) (v := ?_) wlit8 (by kernel_rfl) (by kernel_rfl) (by kernel_rfl) (fun _ _ _ h => h) (Or.inl ⟨by rfl, ?_⟩) (by assumption) ?_
          rotate_left
          · (intro w hSw; (try dsimp only at hSw); go_simp) <;> with_reducible rfl
          try simp only [Act.put, List.setIfInBounds_toArray, List.set_cons_zero, List.set_cons_succ]
          refine wpAnyH_take (i := 9) (v := ?_) wlit9 (by kernel_rfl) (by kernel_rfl) (by kernel_rfl) (fun _ _ _ h => h) (Or.inl ⟨by rfl, ?_⟩) (by assumption) ?_
          rotate_left
          · (intro w hSw; (try dsimp only at hSw); go_simp) <;> with_reducible rfl
          try simp only [Act.put, List.setIfInBounds_toArray, List.set_cons_zero, List.set_cons_succ]
          refine wpAnyH_take (i := 10) (v := ?_) wlit10 (by kernel_rfl) (by kernel_rfl) (by kernel_rfl) (fun _ _ _ h => h) (Or.inl ⟨by rfl, ?_⟩) (by assumption) ?_
          rotate_left
          · (intro w hSw; (try dsimp only at hSw); go_simp) <;> with_reducible rfl
          try simp only [Act.put, List.setIfInBounds_toArray, List.set_cons_zero, List.set_cons_succ]
          refine wpAnyH_take (i := 11) (v := ?_) wlit11 (by kernel_rfl) (by kernel_rfl) (by kernel_rfl) (fun _ _ _ h => h) (Or.inl ⟨by rfl, ?_⟩) (by assumption) ?_
          rotate_left
          · (intro w hSw; (try dsimp only at hSw); go_simp) <;> with_reducible rfl
          try simp only [Act.put, List.setIfInBounds_toArray, List.set_cons_zero, List.set_cons_succ]
          refine wpAnyH_take (i := 12) (v := ?_) wlit12 (by kernel_rfl) (by kernel_rfl) (by kernel_rfl) (fun _ _ _ h => h) (Or.inl ⟨by rfl, ?_⟩) (by assumption) ?_
          rotate_left
          · (intro w hSw; (try dsimp only at hSw); go_simp) <;> with_reducible rfl
          try simp only [Act.put, List.setIfInBounds_toArray, List.set_cons_zero, List.set_cons_succ]
          refine wpAnyH_take (i := 13) (v := ?_) wlit13 (by kernel_rfl) (by kernel_rfl) (by kernel_rfl) (fun _ _ _ h => h) (Or.inl ⟨by rfl, ?_⟩) (by assumption) ?_
          rotate_left
          · (intro w hSw; (try dsimp only at hSw); go_simp) <;> with_reducible rfl
          try simp only [Act.put, List.setIfInBounds_toArray, List.set_cons_zero, List.set_cons_succ]
          refine wpAnyH_take (i := 14) (v := ?_) wlit14 (by kernel_rfl) (by kernel_rfl) (by kernel_rfl) (fun _ _ _ h => h) (Or.inl ⟨by rfl, ?_⟩) (by assumption) ?_
          rotate_left
          · (intro w hSw; (try dsimp only at hSw); go_simp) <;> with_reducible rfl
          try simp only [Act.put, List.setIfInBounds_toArray, List.set_cons_zero, List.set_cons_succ]
          refine wpAnyH_take (i := 15) (v := ?_) wlit15 (by kernel_rfl) (by kernel_rfl) (by kernel_rfl) (fun _ _ _ h => h) (Or.inl ⟨by rfl, ?_⟩) (by assumption) ?_
          rotate_left
          · (intro w hSw; (try dsimp only at hSw); go_simp) <;> with_reducible rfl
          try simp only [Act.put, List.setIfInBounds_toArray, List.set_cons_zero, List.set_cons_succ]
          refine wpAnyH_take (i := 16) (v := ?_) wlit16 (by kernel_rfl) (by kernel_rfl) (by kernel_rfl) (fun _ _ _ h => h) (Or.inl ⟨by rfl, ?_⟩) (by assumption) ?_
          rotate_left
          · (intro w hSw; (try dsimp only at hSw); go_simp) <;> with_reducible rfl
          try simp only [Act.put, List.setIfInBounds_toArray, List.set_cons_zero, List.set_cons_succ]
          refine wpAnyH_take (i := 17) (v := ?_) wlit17 (by kernel_rfl) (by kernel_rfl) (by kernel_rfl) (fun _ _ _ h => h) (Or.inl ⟨by rfl, ?_⟩) (by assumption) ?_
          rotate_left
          · (intro w hSw; (try dsimp only at hSw); go_simp) <;> with_reducible rfl
          try simp only [Act.put, List.setIfInBounds_toArray, List.set_cons_zero, List.set_cons_succ]
          refine wpAnyH_take (i := 18) (v := ?_) wlit18 (by kernel_rfl) (by kernel_rfl) (by kernel_rfl) (fun _ _ _ h => h) (Or.inl ⟨by rfl, ?_⟩) (by assumption) ?_
          rotate_left
          · (intro w hSw; (try dsimp only at hSw); go_simp) <;> with_reducible rfl
          try simp only [Act.put, List.setIfInBounds_toArray, List.set_cons_zero, List.set_cons_succ]
          refine wpAnyH_ready (rs := [19]) (by kernel_rfl) (by simp) ?_
          refine AllReadyH.cons wlit19 (fun K hK => ?_) AllReadyH.nil
          go_simp
          go_at_call 31
          refine (ris_any s q d 124 false false _ hs HG0.out.b).mono ?_
          rintro e wx0 ⟨rfl, Fx⟩
          have HG1 := Lib.hid (HG0.out.move Fx)
          clear Fx
          rw [E124.out]
          refine hK.out _ _ ⟨cell_of_block HG1.out.b rfl, cell_of_block HG1.out.b rfl, cell_of_block HG1.out.b rfl⟩ (fun hHeld => ?_)
          clear hK K
          try simp only [Act.put, List.setIfInBounds_toArray, List.set_cons_zero, List.set_cons_succ]
          refine wpAnyH_take (i := 20) (v := ?_) wlit20 (by kernel_rfl) (by kernel_rfl) (by kernel_rfl) (fun _ _ _ h => h) (Or.inl ⟨by rfl, ?_⟩) (by assumption) ?_
          rotate_left
          · (intro w hSw; (try dsimp only at hSw); go_simp) <;> with_reducible rfl
          try simp only [Act.put, List.setIfInBounds_toArray, List.set_cons_zero, List.set_cons_succ]
          refine wpAnyH_take (i := 21) (v := ?_) wlit21 (by kernel_rfl) (by kernel_rfl) (by kernel_rfl) (fun _ _ _ h => h) (Or.inl ⟨by rfl, ?_⟩) (by assumption) ?_
          rotate_left
          · (intro w hSw; (try dsimp only at hSw); go_simp) <;> with_reducible rfl
          try simp only [Act.put, List.setIfInBounds_toArray, List.set_cons_zero, List.set_cons_succ]
          refine wpAnyH_take (i := 22) (v := ?_) wlit22 (by kernel_rfl) (by kernel_rfl) (by kernel_rfl) (fun _ _ _ h => h) (Or.inl ⟨by rfl, ?_⟩) (by assumption) ?_
          rotate_left
          · (intro w hSw; (try dsimp only at hSw); go_simp) <;> with_reducible rfl
          try simp only [Act.put, List.setIfInBounds_toArray, List.set_cons_zero, List.set_cons_succ]
          refine wpAnyH_take (i := 23) wlit23 (by kernel_rfl) (by kernel_rfl) (by kernel_rfl) (fun _ _ _ h => h) (Or.inr ⟨by rfl, rfl⟩) (by assumption) ?_
          try simp only [Act.put, List.setIfInBounds_toArray, List.set_cons_zero, List.set_cons_succ]
          refine wpAnyH_take (i := 24) wlit24 (by kernel_rfl) (by kernel_rfl) (by kernel_rfl) (fun _ _ _ h => h) (Or.inr ⟨by rfl, rfl⟩) (by assumption) ?_
          try simp only [Act.put, List.setIfInBounds_toArray, List.set_cons_zero, List.set_cons_succ]
          refine wpAnyH_take (i := 25) wlit25 (by kernel_rfl) (by kernel_rfl) (by kernel_rfl) (fun _ _ _ h => h) (Or.inr ⟨by rfl, rfl⟩) (by assumption) ?_
          try simp only [Act.put, List.setIfInBounds_toArray, List.set_cons_zero, List.set_cons_succ]
          refine wpAnyH_take (i := 26) (v := ?_) wlit26 (by kernel_rfl) (by kernel_rfl) (by kernel_rfl) (fun _ _ _ h => h) (Or.inl ⟨by rfl, ?_⟩) (by assumption) ?_
          rotate_left
          · (intro w hSw; (try dsimp only at hSw); go_simp) <;> with_reducible rfl
          try simp only [Act.put, List.setIfInBounds_toArray, List.set_cons_zero, List.set_cons_succ]
          refine wpAnyH_done (by kernel_rfl) ?_ _
          generalize wx0 = wx at *
          obtain ⟨r0, r1, r2, r3, r4, r5⟩ := six HG1.out.z
          have zf : ∀ o, wx.frozen? ⟨w.heap.size, o, none⟩ = false := fun o => free_of_block HG1.out.z
          have hne : ¬ at1 w.heap.size d := by have := HG1.out.o; simp only [at1]; omega
          obtain ⟨la', lcap', hlv, hlc, hll⟩ := HG1.out.lo.rows
          simp only [Value.slice.injEq, true_and] at hlv
          obtain ⟨rfl, rfl⟩ := hlv
          have HLL := Lib.hid hll
          clear hll
          rcases l with _ | ⟨⟨c, x0, x1, x2, x3, ks⟩, _ | ⟨⟨c2, y0, y1, y2, y3, ks2⟩, l⟩⟩
          · have e0 : (((([] : List Rx).length : Nat) : Int) == 0) = true := rfl
            go_wp2_with fail
            refine bodyPost_ret (results_six rfl rfl (set_six HG1.out.z _ _ _ _ _ _)) rfl ?_
            have fx := fr_six (S := at1 w.heap.size) (r := w.heap.size) (Fr.refl _ wx) (.inl rfl) (.int .i64 0) (.int .u64 ((0 : Nat) : Int)) (.int .u64 ((0 : Nat) : Int)) (.int .u64 ((0 : Nat) : Int)) (.int .u64 ((0 : Nat) : Int)) (.slice none 0 0)
            exact HME.out.fin (RxV.zero_ _ _) (fx.at_ HG1.out.b hne) (fr_six HG1.out.f (.inr (Nat.le_refl _)) _ _ _ _ _ _)
          · obtain ⟨ad, a', cap', rfl, hok, c0, c1, c2, c3, c4, c5, hc', hl'⟩ := HLL.out.elem (i := 0) rfl
            have ha0 : ad.add (0 * 6) = ad := by simp [Addr.add]
            rw [ha0] at c0 c1 c2 c3 c4 c5
            clear ha0
            have HL' := Lib.hid hl'
            clear hl'
            have e0 : (((([Rx.mk c x0 x1 x2 x3 ks] : List Rx).length : Nat) : Int) == 0) = false := rfl
            have e1 : (((([Rx.mk c x0 x1 x2 x3 ks] : List Rx).length : Nat) : Int) == 1) = true := rfl
            go_wp2_with fail
            refine bodyPost_ret (results_six rfl rfl (set_six HG1.out.z _ _ _ _ _ _)) rfl ?_
            have fx := fr_six (S := at1 w.heap.size) (r := w.heap.size) (Fr.refl _ wx) (.inl rfl) (.int .i64 c) (.int .u64 (x0 : Int)) (.int .u64 (x1 : Int)) (.int .u64 (x2 : Int)) (.int .u64 (x3 : Int)) (.slice a' ks.length cap')
            refine HME.out.fin ?_ (fx.at_ HG1.out.b hne) (fr_six HG1.out.f (.inr (Nat.le_refl _)) _ _ _ _ _ _)
            exact ((RxV.mk_ hc' HL'.out).move fx (fun i hi _ => by simp only [at1]; omega)).mono (fun i hi => by omega)
          · have e0 : ((((Rx.mk c x0 x1 x2 x3 ks :: Rx.mk c2 y0 y1 y2 y3 ks2 :: l : List Rx).length : Nat) : Int) == 0) = false := by rw [beq_eq_false_iff_ne]; simp; omega
            have e1 : ((((Rx.mk c x0 x1 x2 x3 ks :: Rx.mk c2 y0 y1 y2 y3 ks2 :: l : List Rx).length : Nat) : Int) == 1) = false := by rw [beq_eq_false_iff_ne]; simp; omega
            have HLN := Lib.hid (show (ofR 2 (Rx.mk c x0 x1 x2 x3 ks :: Rx.mk c2 y0 y1 y2 y3 ks2 :: l)) = .mk 2 0 0 0 0 (Rx.mk c x0 x1 x2 x3 ks :: Rx.mk c2 y0 y1 y2 y3 ks2 :: l) from rfl)
            generalize (Rx.mk c x0 x1 x2 x3 ks :: Rx.mk c2 y0 y1 y2 y3 ks2 :: l) = L at *
            go_wp2_with fail
            refine bodyPost_ret (results_six rfl rfl (set_six HG1.out.z _ _ _ _ _ _)) rfl ?_
            have fx := fr_six (S := at1 w.heap.size) (r := w.heap.size) (Fr.refl _ wx) (.inl rfl) (.int .i64 2) (.int .u64 ((0 : Nat) : Int)) (.int .u64 ((0 : Nat) : Int)) (.int .u64 ((0 : Nat) : Int)) (.int .u64 ((0 : Nat) : Int)) (.slice la L.length lcap)
            refine HME.out.fin ?_ (fx.at_ HG1.out.b hne) (fr_six HG1.out.f (.inr (Nat.le_refl _)) _ _ _ _ _ _)
            rw [HLN.out]
            exact ((RxV.mk_ (k := 2) (b0 := 0) (b1 := 0) (b2 := 0) (b3 := 0) hlc HLL.out).move fx (fun i hi _ => by simp only [at1]; omega)).mono (fun i hi => by omega)
        have E124 := Lib.hid (show isB s q 124 = false by rw [hib]; exact decide_eq_false h124)
        by_cases h41 : byteAt s q = 41
        case pos =>
          rw [if_pos (.inr (.inr h41))] at hway
          have HME := Lib.hid (show EndW s k l q m false false from .inl ⟨rfl, rfl, by simpa using hway.symm⟩)
          have E41 := Lib.hid (show isB s q 41 = true by rw [hib]; exact decide_eq_true h41)
          clear hway
          go_wp2_with fail
          refine wp_region_held_drew (S := (fun w' => w'.cell? ⟨d, 0, none⟩ = some (.string s) ∧ w'.cell? ⟨d, 1, none⟩ = some (.int .i64 (q : Int)) ∧ w'.cell? ⟨d, 2, none⟩ = some (.bool false))) (by kernel_rfl) ⟨cell_of_block HG0.out.b rfl, cell_of_block HG0.out.b rfl, cell_of_block HG0.out.b rfl⟩ (fun hHeld => ?_)
          refine wpAnyH_take (i := 0) (v := ?_) wlit0 (by kernel_rfl) (by kernel_rfl) (by kernel_rfl) (fun _ _ _ h => h) (Or.inl ⟨by rfl, ?_⟩) (by assumption) ?_
          rotate_left
          · (intro w hSw; (try dsimp only at hSw); go_simp) <;> with_reducible rfl
          try simp only [Act.put, List.setIfInBounds_toArray, List.set_cons_zero, List.set_cons_succ]
          refine wpAnyH_take (i := 1) (v := ?_) wlit1 (by kernel_rfl) (by kernel_rfl) (by kernel_rfl) (fun _ _ _ h => h) (Or.inl ⟨by rfl, ?_⟩) (by assumption) ?_
          rotate_left
          · (intro w hSw; (try dsimp only at hSw); go_simp) <;> with_reducible rfl
          try simp only [Act.put, List.setIfInBounds_toArray, List.set_cons_zero, List.set_cons_succ]
          refine wpAnyH_take (i := 2) (v := ?_) wlit2 (by kernel_rfl) (by kernel_rfl) (by kernel_rfl) (fun _ _ _ h => h) (Or.inl ⟨by rfl, ?_⟩) (by assumption) ?_
          rotate_left
          · (intro w hSw; (try dsimp only at hSw); go_simp) <;> with_reducible rfl
          try simp only [Act.put, List.setIfInBounds_toArray, List.set_cons_zero, List.set_cons_succ]
          refine wpAnyH_take (i := 3) (v := ?_) wlit3 (by kernel_rfl) (by kernel_rfl) (by kernel_rfl) (fun _ _ _ h => h) (Or.inl ⟨by rfl, ?_⟩) (by assumption) ?_
          rotate_left
          · (intro w hSw; (try dsimp only at hSw); go_simp) <;> with_reducible rfl
          try simp only [Act.put, List.setIfInBounds_toArray, List.set_cons_zero, List.set_cons_succ]
          refine wpAnyH_take (i := 4) (v := ?_) wlit4 (by kernel_rfl) (by kernel_rfl) (by kernel_rfl) (fun _ _ _ h => h) (Or.inl ⟨by rfl, ?_⟩) (by assumption) ?_
          rotate_left
          · (intro w hSw; (try dsimp only at hSw); go_simp) <;> with_reducible rfl
          try simp only [Act.put, List.setIfInBounds_toArray, List.set_cons_zero, List.set_cons_succ]
          refine wpAnyH_take (i := 5) (v := ?_) wlit5 (by kernel_rfl) (by kernel_rfl) (by kernel_rfl) (fun _ _ _ h => h) (Or.inl ⟨by rfl, ?_⟩) (by assumption) ?_
          rotate_left
          · (intro w hSw; (try dsimp only at hSw); go_simp) <;> with_reducible rfl
          try simp only [Act.put, List.setIfInBounds_toArray, List.set_cons_zero, List.set_cons_succ]
          refine wpAnyH_take (i := 6) (v := ?_) wlit6 (by kernel_rfl) (by kernel_rfl) (by kernel_rfl) (fun _ _ _ h => h) (Or.inl ⟨by rfl, ?_⟩) (by assumption) ?_
          rotate_left
          · (intro w hSw; (try dsimp only at hSw); go_simp) <;> with_reducible rfl
          try simp only [Act.put, List.setIfInBounds_toArray, List.set_cons_zero, List.set_cons_succ]
          refine wpAnyH_take (i := 7) (v := ?_) wlit7 (by kernel_rfl) (by kernel_rfl) (by kernel_rfl) (fun _ _ _ h => h) (Or.inl ⟨by rfl, ?_⟩) (by assumption) ?_
          rotate_left
          · (intro w hSw; (try dsimp only at hSw); go_simp) <;> with_reducible rfl
          try simp only [Act.put, List.setIfInBounds_toArray, List.set_cons_zero, List.set_cons_succ]
          refine wpAnyH_take (i := 8) (v := ?_) wlit8 (by kernel_rfl) (by kernel_rfl) (by kernel_rfl) (fun _ _ _ h => h) (Or.inl ⟨by rfl, ?_⟩) (by assumption) ?_
          rotate_left
          · (intro w hSw; (try dsimp only at hSw); go_simp) <;> with_reducible rfl
          try simp only [Act.put, List.setIfInBounds_toArray, List.set_cons_zero, List.set_cons_succ]
          refine wpAnyH_take (i := 9) (v := ?_) wlit9 (by kernel_rfl) (by kernel_rfl) (by kernel_rfl) (fun _ _ _ h => h) (Or.inl ⟨by rfl, ?_⟩) (by assumption) ?_
          rotate_left
          · (intro w hSw; (try dsimp only at hSw); go_simp) <;> with_reducible rfl
          try simp only [Act.put, List.setIfInBounds_toArray, List.set_cons_zero, List.set_cons_succ]
          refine wpAnyH_take (i := 10) (v := ?_) wlit10 (by kernel_rfl) (by kernel_rfl) (by kernel_rfl) (fun _ _ _ h => h) (Or.inl ⟨by rfl, ?_⟩) (by assumption) ?_
          rotate_left
          · (intro w hSw; (try dsimp only at hSw); go_simp) <;> with_reducible rfl
          try simp only [Act.put, List.setIfInBounds_toArray, List.set_cons_zero, List.set_cons_succ]
          refine wpAnyH_take (i := 11) (v := ?_) wlit11 (by kernel_rfl) (by kernel_rfl) (by kernel_rfl) (fun _ _ _ h => h) (Or.inl ⟨by rfl, ?_⟩) (by assumption) ?_
          rotate_left
          · (intro w hSw; (try dsimp only at hSw); go_simp) <;> with_reducible rfl
          try simp only [Act.put, List.setIfInBounds_toArray, List.set_cons_zero, List.set_cons_succ]
          refine wpAnyH_take (i := 12) (v := ?_) wlit12 (by kernel_rfl) (by kernel_rfl) (by kernel_rfl) (fun _ _ _ h => h) (Or.inl ⟨by rfl, ?_⟩) (by assumption) ?_
          rotate_left
          · (intro w hSw; (try dsimp only at hSw); go_simp) <;> with_reducible rfl
          try simp only [Act.put, List.setIfInBounds_toArray, List.set_cons_zero, List.set_cons_succ]
          refine wpAnyH_take (i := 13) (v := ?_) wlit13 (by kernel_rfl) (by kernel_rfl) (by kernel_rfl) (fun _ _ _ h => h) (Or.inl ⟨by rfl, ?_⟩) (by assumption) ?_
          rotate_left
          · (intro w hSw; (try dsimp only at hSw); go_simp) <;> with_reducible rfl
          try simp only [Act.put, List.setIfInBounds_toArray, List.set_cons_zero, List.set_cons_succ]
          refine wpAnyH_take (i := 14) (v := ?_) wlit14 (by kernel_rfl) (by kernel_rfl) (by kernel_rfl) (fun _ _ _ h => h) (Or.inl ⟨by rfl, ?_⟩) (by assumption) ?_
          rotate_left
          · (intro w hSw; (try dsimp only at hSw); go_simp) <;> with_reducible rfl
          try simp only [Act.put, List.setIfInBounds_toArray, List.set_cons_zero, List.set_cons_succ]
          refine wpAnyH_take (i := 15) (v := ?_) wlit15 (by kernel_rfl) (by kernel_rfl) (by kernel_rfl) (fun _ _ _ h => h) (Or.inl ⟨by rfl, ?_⟩) (by assumption) ?_
          rotate_left
          · (intro w hSw; (try dsimp only at hSw); go_simp) <;> with_reducible rfl
          try simp only [Act.put, List.setIfInBounds_toArray, List.set_cons_zero, List.set_cons_succ]
          refine wpAnyH_take (i := 16) (v := ?_) wlit16 (by kernel_rfl) (by kernel_rfl) (by kernel_rfl) (fun _ _ _ h => h) (Or.inl ⟨by rfl, ?_⟩) (by assumption) ?_
          rotate_left
          · (intro w hSw; (try dsimp only at hSw); go_simp) <;> with_reducible rfl
          try simp only [Act.put, List.setIfInBounds_toArray, List.set_cons_zero, List.set_cons_succ]
          refine wpAnyH_take (i := 17) (v := ?_) wlit17 (by kernel_rfl) (by kernel_rfl) (by kernel_rfl) (fun _ _ _ h => h) (Or.inl ⟨by rfl, ?_⟩) (by assumption) ?_
          rotate_left
          · (intro w hSw; (try dsimp only at hSw); go_simp) <;> with_reducible rfl
          try simp only [Act.put, List.setIfInBounds_toArray, List.set_cons_zero, List.set_cons_succ]
          refine wpAnyH_take (i := 18) (v := ?_) wlit18 (by kernel_rfl) (by kernel_rfl) (by kernel_rfl) (fun _ _ _ h => h) (Or.inl ⟨by rfl, ?_⟩) (by assumption) ?_
          rotate_left
          · (intro w hSw; (try dsimp only at hSw); go_simp) <;> with_reducible rfl
          try simp only [Act.put, List.setIfInBounds_toArray, List.set_cons_zero, List.set_cons_succ]
          refine wpAnyH_ready (rs := [19]) (by kernel_rfl) (by simp) ?_
          refine AllReadyH.cons wlit19 (fun K hK => ?_) AllReadyH.nil
          go_simp
          go_at_call 31
          refine (ris_any s q d 124 false false _ hs HG0.out.b).mono ?_
          rintro e wx0 ⟨rfl, Fx⟩
          have HG1 := Lib.hid (HG0.out.move Fx)
          clear Fx
          rw [E124.out]
          refine hK.out _ _ ⟨cell_of_block HG1.out.b rfl, cell_of_block HG1.out.b rfl, cell_of_block HG1.out.b rfl⟩ (fun hHeld => ?_)
          clear hK K
          try simp only [Act.put, List.setIfInBounds_toArray, List.set_cons_zero, List.set_cons_succ]
          refine wpAnyH_take (i := 20) (v := ?_) wlit20 (by kernel_rfl) (by kernel_rfl) (by kernel_rfl) (fun _ _ _ h => h) (Or.inl ⟨by rfl, ?_⟩) (by assumption) ?_
          rotate_left
          · (intro w hSw; (try dsimp only at hSw); go_simp) <;> with_reducible rfl
          try simp only [Act.put, List.setIfInBounds_toArray, List.set_cons_zero, List.set_cons_succ]
          refine wpAnyH_take (i := 21) (v := ?_) wlit21 (by kernel_rfl) (by kernel_rfl) (by kernel_rfl) (fun _ _ _ h => h) (Or.inl ⟨by rfl, ?_⟩) (by assumption) ?_
          rotate_left
          · (intro w hSw; (try dsimp only at hSw); go_simp) <;> with_reducible rfl
          try simp only [Act.put, List.setIfInBounds_toArray, List.set_cons_zero, List.set_cons_succ]
          refine wpAnyH_take (i := 22) (v := ?_) wlit22 (by kernel_rfl) (by kernel_rfl) (by kernel_rfl) (fun _ _ _ h => h) (Or.inl ⟨by rfl, ?_⟩) (by assumption) ?_
          rotate_left
          · (intro w hSw; (try dsimp only at hSw); go_simp) <;> with_reducible rfl
          try simp only [Act.put, List.setIfInBounds_toArray, List.set_cons_zero, List.set_cons_succ]
          refine wpAnyH_take (i := 23) (v := ?_) wlit23 (by kernel_rfl) (by kernel_rfl) (by kernel_rfl) (fun _ _ _ h => h) (Or.inl ⟨by rfl, ?_⟩) (by assumption) ?_
          rotate_left
          · (intro w hSw; (try dsimp only at hSw); go_simp) <;> with_reducible rfl
          try simp only [Act.put, List.setIfInBounds_toArray, List.set_cons_zero, List.set_cons_succ]
          refine wpAnyH_ready (rs := [24]) (by kernel_rfl) (by simp) ?_
          refine AllReadyH.cons wlit24 (fun K hK => ?_) AllReadyH.nil
          go_simp
          go_at_call 31
          refine (ris_any s q d 41 false false _ hs HG1.out.b).mono ?_
          rintro e wx1 ⟨rfl, Fx⟩
          have HG2 := Lib.hid (HG1.out.move Fx)
          clear Fx
          rw [E41.out]
          refine hK.out _ _ ⟨cell_of_block HG2.out.b rfl, cell_of_block HG2.out.b rfl, cell_of_block HG2.out.b rfl⟩ (fun hHeld => ?_)
          clear hK K
          try simp only [Act.put, List.setIfInBounds_toArray, List.set_cons_zero, List.set_cons_succ]
          refine wpAnyH_take (i := 25) (v := ?_) wlit25 (by kernel_rfl) (by kernel_rfl) (by kernel_rfl) (fun _ _ _ h => h) (Or.inl ⟨by rfl, ?_⟩) (by assumption) ?_
          rotate_left
          · (intro w hSw; (try dsimp only at hSw); go_simp) <;> with_reducible rfl
          try simp only [Act.put, List.setIfInBounds_toArray, List.set_cons_zero, List.set_cons_succ]
          refine wpAnyH_take (i := 26) (v := ?_) wlit26 (by kernel_rfl) (by kernel_rfl) (by kernel_rfl) (fun _ _ _ h => h) (Or.inl ⟨by rfl, ?_⟩) (by assumption) ?_
          rotate_left
          · (intro w hSw; (try dsimp only at hSw); go_simp) <;> with_reducible rfl
          try simp only [Act.put, List.setIfInBounds_toArray, List.set_cons_zero, List.set_cons_succ]
          refine wpAnyH_done (by kernel_rfl) ?_ _
          generalize wx1 = wx at *
          obtain ⟨r0, r1, r2, r3, r4, r5⟩ := six HG2.out.z
          have zf : ∀ o, wx.frozen? ⟨w.heap.size, o, none⟩ = false := fun o => free_of_block HG2.out.z
          have hne : ¬ at1 w.heap.size d := by have := HG2.out.o; simp only [at1]; omega
          obtain ⟨la', lcap', hlv, hlc, hll⟩ := HG2.out.lo.rows
          simp only [Value.slice.injEq, true_and] at hlv
          obtain ⟨rfl, rfl⟩ := hlv
          have HLL := Lib.hid hll
          clear hll
          rcases l with _ | ⟨⟨c, x0, x1, x2, x3, ks⟩, _ | ⟨⟨c2, y0, y1, y2, y3, ks2⟩, l⟩⟩
          · have e0 : (((([] : List Rx).length : Nat) : Int) == 0) = true := rfl
            go_wp2_with fail
            refine bodyPost_ret (results_six rfl rfl (set_six HG2.out.z _ _ _ _ _ _)) rfl ?_
            have fx := fr_six (S := at1 w.heap.size) (r := w.heap.size) (Fr.refl _ wx) (.inl rfl) (.int .i64 0) (.int .u64 ((0 : Nat) : Int)) (.int .u64 ((0 : Nat) : Int)) (.int .u64 ((0 : Nat) : Int)) (.int .u64 ((0 : Nat) : Int)) (.slice none 0 0)
            exact HME.out.fin (RxV.zero_ _ _) (fx.at_ HG2.out.b hne) (fr_six HG2.out.f (.inr (Nat.le_refl _)) _ _ _ _ _ _)
          · obtain ⟨ad, a', cap', rfl, hok, c0, c1, c2, c3, c4, c5, hc', hl'⟩ := HLL.out.elem (i := 0) rfl
            have ha0 : ad.add (0 * 6) = ad := by simp [Addr.add]
            rw [ha0] at c0 c1 c2 c3 c4 c5
            clear ha0
            have HL' := Lib.hid hl'
            clear hl'
            have e0 : (((([Rx.mk c x0 x1 x2 x3 ks] : List Rx).length : Nat) : Int) == 0) = false := rfl
            have e1 : (((([Rx.mk c x0 x1 x2 x3 ks] : List Rx).length : Nat) : Int) == 1) = true := rfl
            go_wp2_with fail
            refine bodyPost_ret (results_six rfl rfl (set_six HG2.out.z _ _ _ _ _ _)) rfl ?_
            have fx := fr_six (S := at1 w.heap.size) (r := w.heap.size) (Fr.refl _ wx) (.inl rfl) (.int .i64 c) (.int .u64 (x0 : Int)) (.int .u64 (x1 : Int)) (.int .u64 (x2 : Int)) (.int .u64 (x3 : Int)) (.slice a' ks.length cap')
            refine HME.out.fin ?_ (fx.at_ HG2.out.b hne) (fr_six HG2.out.f (.inr (Nat.le_refl _)) _ _ _ _ _ _)
            exact ((RxV.mk_ hc' HL'.out).move fx (fun i hi _ => by simp only [at1]; omega)).mono (fun i hi => by omega)
          · have e0 : ((((Rx.mk c x0 x1 x2 x3 ks :: Rx.mk c2 y0 y1 y2 y3 ks2 :: l : List Rx).length : Nat) : Int) == 0) = false := by rw [beq_eq_false_iff_ne]; simp; omega
            have e1 : ((((Rx.mk c x0 x1 x2 x3 ks :: Rx.mk c2 y0 y1 y2 y3 ks2 :: l : List Rx).length : Nat) : Int) == 1) = false := by rw [beq_eq_false_iff_ne]; simp; omega
            have HLN := Lib.hid (show (ofR 2 (Rx.mk c x0 x1 x2 x3 ks :: Rx.mk c2 y0 y1 y2 y3 ks2 :: l)) = .mk 2 0 0 0 0 (Rx.mk c x0 x1 x2 x3 ks :: Rx.mk c2 y0 y1 y2 y3 ks2 :: l) from rfl)
            generalize (Rx.mk c x0 x1 x2 x3 ks :: Rx.mk c2 y0 y1 y2 y3 ks2 :: l) = L at *
            go_wp2_with fail
            refine bodyPost_ret (results_six rfl rfl (set_six HG2.out.z _ _ _ _ _ _)) rfl ?_
            have fx := fr_six (S := at1 w.heap.size) (r := w.heap.size) (Fr.refl _ wx) (.inl rfl) (.int .i64 2) (.int .u64 ((0 : Nat) : Int)) (.int .u64 ((0 : Nat) : Int)) (.int .u64 ((0 : Nat) : Int)) (.int .u64 ((0 : Nat) : Int)) (.slice la L.length lcap)
            refine HME.out.fin ?_ (fx.at_ HG2.out.b hne) (fr_six HG2.out.f (.inr (Nat.le_refl _)) _ _ _ _ _ _)
            rw [HLN.out]
            exact ((RxV.mk_ (k := 2) (b0 := 0) (b1 := 0) (b2 := 0) (b3 := 0) hlc HLL.out).move fx (fun i hi _ => by simp only [at1]; omega)).mono (fun i hi => by omega)
        have E41 := Lib.hid (show isB s q 41 = false by rw [hib]; exact decide_eq_false h41)
        rw [if_neg (by rintro (h | h | h); exact h hlt; exact h124 h; exact h41 h)] at hway
        go_wp2_with fail
        refine wp_region_held_drew (S := (fun w' => w'.cell? ⟨d, 0, none⟩ = some (.string s) ∧ w'.cell? ⟨d, 1, none⟩ = some (.int .i64 (q : Int)) ∧ w'.cell? ⟨d, 2, none⟩ = some (.bool false))) (by kernel_rfl) ⟨cell_of_block HG0.out.b rfl, cell_of_block HG0.out.b rfl, cell_of_block HG0.out.b rfl⟩ (fun hHeld => ?_)
        refine wpAnyH_take (i := 0) (v := ?_) wlit0 (by kernel_rfl) (by kernel_rfl) (by kernel_rfl) (fun _ _ _ h => h) (Or.inl ⟨by rfl, ?_⟩) (by assumption) ?_
        rotate_left
        · (intro w hSw; (try dsimp only at hSw); go_simp) <;> with_reducible rfl
        try simp only [Act.put, List.setIfInBounds_toArray, List.set_cons_zero, List.set_cons_succ]
        refine wpAnyH_take (i := 1) (v := ?_) wlit1 (by kernel_rfl) (by kernel_rfl) (by kernel_rfl) (fun _ _ _ h => h) (Or.inl ⟨by rfl, ?_⟩) (by assumption) ?_
        rotate_left
        · (intro w hSw; (try dsimp only at hSw); go_simp) <;> with_reducible rfl
        try simp only [Act.put, List.setIfInBounds_toArray, List.set_cons_zero, List.set_cons_succ]
        refine wpAnyH_take (i := 2) (v := ?_) wlit2 (by kernel_rfl) (by kernel_rfl) (by kernel_rfl) (fun _ _ _ h => h) (Or.inl ⟨by rfl, ?_⟩) (by assumption) ?_
        rotate_left
        · (intro w hSw; (try dsimp only at hSw); go_simp) <;> with_reducible rfl
        try simp only [Act.put, List.setIfInBounds_toArray, List.set_cons_zero, List.set_cons_succ]
        refine wpAnyH_take (i := 3) (v := ?_) wlit3 (by kernel_rfl) (by kernel_rfl) (by kernel_rfl) (fun _ _ _ h => h) (Or.inl ⟨by rfl, ?_⟩) (by assumption) ?_
        rotate_left
        · (intro w hSw; (try dsimp only at hSw); go_simp) <;> with_reducible rfl
        try simp only [Act.put, List.setIfInBounds_toArray, List.set_cons_zero, List.set_cons_succ]
        refine wpAnyH_take (i := 4) (v := ?_) wlit4 (by kernel_rfl) (by kernel_rfl) (by kernel_rfl) (fun _ _ _ h => h) (Or.inl ⟨by rfl, ?_⟩) (by assumption) ?_
        rotate_left
        · (intro w hSw; (try dsimp only at hSw); go_simp) <;> with_reducible rfl
        try simp only [Act.put, List.setIfInBounds_toArray, List.set_cons_zero, List.set_cons_succ]
        refine wpAnyH_take (i := 5) (v := ?_) wlit5 (by kernel_rfl) (by kernel_rfl) (by kernel_rfl) (fun _ _ _ h => h) (Or.inl ⟨by rfl, ?_⟩) (by assumption) ?_
        rotate_left
        · (intro w hSw; (try dsimp only at hSw); go_simp) <;> with_reducible rfl
        try simp only [Act.put, List.setIfInBounds_toArray, List.set_cons_zero, List.set_cons_succ]
        refine wpAnyH_take (i := 6) (v := ?_) wlit6 (by kernel_rfl) (by kernel_rfl) (by kernel_rfl) (fun _ _ _ h => h) (Or.inl ⟨by rfl, ?_⟩) (by assumption) ?_
        rotate_left
        · (intro w hSw; (try dsimp only at hSw); go_simp) <;> with_reducible rfl
        try simp only [Act.put, List.setIfInBounds_toArray, List.set_cons_zero, List.set_cons_succ]
        refine wpAnyH_take (i := 7) (v := ?_) wlit7 (by kernel_rfl) (by kernel_rfl) (by kernel_rfl) (fun _ _ _ h => h) (Or.inl ⟨by rfl, ?_⟩) (by assumption) ?_
        rotate_left
        · (intro w hSw; (try dsimp only at hSw); go_simp) <;> with_reducible rfl
        try simp only [Act.put, List.setIfInBounds_toArray, List.set_cons_zero, List.set_cons_succ]
        refine wpAnyH_take (i := 8) (v := ?_) wlit8 (by kernel_rfl) (by kernel_rfl) (by kernel_rfl) (fun _ _ _ h => h) (Or.inl ⟨by rfl, ?_⟩) (by assumption) ?_
        rotate_left
        · (intro w hSw; (try dsimp only at hSw); go_simp) <;> with_reducible rfl
        try simp only [Act.put, List.setIfInBounds_toArray, List.set_cons_zero, List.set_cons_succ]
        refine wpAnyH_take (i := 9) (v := ?_) wlit9 (by kernel_rfl) (by kernel_rfl) (by kernel_rfl) (fun _ _ _ h => h) (Or.inl ⟨by rfl, ?_⟩) (by assumption) ?_
        rotate_left
        · (intro w hSw; (try dsimp only at hSw); go_simp) <;> with_reducible rfl
        try simp only [Act.put, List.setIfInBounds_toArray, List.set_cons_zero, List.set_cons_succ]
        refine wpAnyH_take (i := 10) (v := ?_) wlit10 (by kernel_rfl) (by kernel_rfl) (by kernel_rfl) (fun _ _ _ h => h) (Or.inl ⟨by rfl, ?_⟩) (by assumption) ?_
        rotate_left
        · (intro w hSw; (try dsimp only at hSw); go_simp) <;> with_reducible rfl
        try simp only [Act.put, List.setIfInBounds_toArray, List.set_cons_zero, List.set_cons_succ]
        refine wpAnyH_take (i := 11) (v := ?_) wlit11 (by kernel_rfl) (by kernel_rfl) (by kernel_rfl) (fun _ _ _ h => h) (Or.inl ⟨by rfl, ?_⟩) (by assumption) ?_
        rotate_left
        · (intro w hSw; (try dsimp only at hSw); go_simp) <;> with_reducible rfl
        try simp only [Act.put, List.setIfInBounds_toArray, List.set_cons_zero, List.set_cons_succ]
        refine wpAnyH_take (i := 12) (v := ?_) wlit12 (by kernel_rfl) (by kernel_rfl) (by kernel_rfl) (fun _ _ _ h => h) (Or.inl ⟨by rfl, ?_⟩) (by assumption) ?_
        rotate_left
        · (intro w hSw; (try dsimp only at hSw); go_simp) <;> with_reducible rfl
        try simp only [Act.put, List.setIfInBounds_toArray, List.set_cons_zero, List.set_cons_succ]
        refine wpAnyH_take (i := 13) (v := ?_) wlit13 (by kernel_rfl) (by kernel_rfl) (by kernel_rfl) (fun _ _ _ h => h) (Or.inl ⟨by rfl, ?_⟩) (by assumption) ?_
        rotate_left
        · (intro w hSw; (try dsimp only at hSw); go_simp) <;> with_reducible rfl
        try simp only [Act.put, List.setIfInBounds_toArray, List.set_cons_zero, List.set_cons_succ]
        refine wpAnyH_take (i := 14) (v := ?_) wlit14 (by kernel_rfl) (by kernel_rfl) (by kernel_rfl) (fun _ _ _ h => h) (Or.inl ⟨by rfl, ?_⟩) (by assumption) ?_
        rotate_left
        · (intro w hSw; (try dsimp only at hSw); go_simp) <;> with_reducible rfl
        try simp only [Act.put, List.setIfInBounds_toArray, List.set_cons_zero, List.set_cons_succ]
        refine wpAnyH_take (i := 15) (v := ?_) wlit15 (by kernel_rfl) (by kernel_rfl) (by kernel_rfl) (fun _ _ _ h => h) (Or.inl ⟨by rfl, ?_⟩) (by assumption) ?_
        rotate_left
        · (intro w hSw; (try dsimp only at hSw); go_simp) <;> with_reducible rfl
        try simp only [Act.put, List.setIfInBounds_toArray, List.set_cons_zero, List.set_cons_succ]
        refine wpAnyH_take (i := 16) (v := ?_) wlit16 (by kernel_rfl) (by kernel_rfl) (by kernel_rfl) (fun _ _ _ h => h) (Or.inl ⟨by rfl, ?_⟩) (by assumption) ?_
        rotate_left
        · (intro w hSw; (try dsimp only at hSw); go_simp) <;> with_reducible rfl
        try simp only [Act.put, List.setIfInBounds_toArray, List.set_cons_zero, List.set_cons_succ]
        refine wpAnyH_take (i := 17) (v := ?_) wlit17 (by kernel_rfl) (by kernel_rfl) (by kernel_rfl) (fun _ _ _ h => h) (Or.inl ⟨by rfl, ?_⟩) (by assumption) ?_
        rotate_left
        · (intro w hSw; (try dsimp only at hSw); go_simp) <;> with_reducible rfl
        try simp only [Act.put, List.setIfInBounds_toArray, List.set_cons_zero, List.set_cons_succ]
        refine wpAnyH_take (i := 18) (v := ?_) wlit18 (by kernel_rfl) (by kernel_rfl) (by kernel_rfl) (fun _ _ _ h => h) (Or.inl ⟨by rfl, ?_⟩) (by assumption) ?_
        rotate_left
        · (intro w hSw; (try dsimp only at hSw); go_simp) <;> with_reducible rfl
        try simp only [Act.put, List.setIfInBounds_toArray, List.set_cons_zero, List.set_cons_succ]
        refine wpAnyH_ready (rs := [19]) (by kernel_rfl) (by simp) ?_
        refine AllReadyH.cons wlit19 (fun K hK => ?_) AllReadyH.nil
        go_simp
        go_at_call 31
        refine (ris_any s q d 124 false false _ hs HG0.out.b).mono ?_
        rintro e wx0 ⟨rfl, Fx⟩
        have HG1 := Lib.hid (HG0.out.move Fx)
        clear Fx
        rw [E124.out]
        refine hK.out _ _ ⟨cell_of_block HG1.out.b rfl, cell_of_block HG1.out.b rfl, cell_of_block HG1.out.b rfl⟩ (fun hHeld => ?_)
        clear hK K
        try simp only [Act.put, List.setIfInBounds_toArray, List.set_cons_zero, List.set_cons_succ]
        refine wpAnyH_take (i := 20) (v := ?_) wlit20 (by kernel_rfl) (by kernel_rfl) (by kernel_rfl) (fun _ _ _ h => h) (Or.inl ⟨by rfl, ?_⟩) (by assumption) ?_
        rotate_left
        · (intro w hSw; (try dsimp only at hSw); go_simp) <;> with_reducible rfl
        try simp only [Act.put, List.setIfInBounds_toArray, List.set_cons_zero, List.set_cons_succ]
        refine wpAnyH_take (i := 21) (v := ?_) wlit21 (by kernel_rfl) (by kernel_rfl) (by kernel_rfl) (fun _ _ _ h => h) (Or.inl ⟨by rfl, ?_⟩) (by assumption) ?_
        rotate_left
        · (intro w hSw; (try dsimp only at hSw); go_simp) <;> with_reducible rfl
        try simp only [Act.put, List.setIfInBounds_toArray, List.set_cons_zero, List.set_cons_succ]
        refine wpAnyH_take (i := 22) (v := ?_) wlit22 (by kernel_rfl) (by kernel_rfl) (by kernel_rfl) (fun _ _ _ h => h) (Or.inl ⟨by rfl, ?_⟩) (by assumption) ?_
        rotate_left
        · (intro w hSw; (try dsimp only at hSw); go_simp) <;> with_reducible rfl
        try simp only [Act.put, List.setIfInBounds_toArray, List.set_cons_zero, List.set_cons_succ]
        refine wpAnyH_take (i := 23) (v := ?_) wlit23 (by kernel_rfl) (by kernel_rfl) (by kernel_rfl) (fun _ _ _ h => h) (Or.inl ⟨by rfl, ?_⟩) (by assumption) ?_
        rotate_left
        · (intro w hSw; (try dsimp only at hSw); go_simp) <;> with_reducible rfl
        try simp only [Act.put, List.setIfInBounds_toArray, List.set_cons_zero, List.set_cons_succ]
        refine wpAnyH_ready (rs := [24]) (by kernel_rfl) (by simp) ?_
        refine AllReadyH.cons wlit24 (fun K hK => ?_) AllReadyH.nil
        go_simp
        go_at_call 31
        refine (ris_any s q d 41 false false _ hs HG1.out.b).mono ?_
        rintro e wx1 ⟨rfl, Fx⟩
        have HG2 := Lib.hid (HG1.out.move Fx)
        clear Fx
        rw [E41.out]
        refine hK.out _ _ ⟨cell_of_block HG2.out.b rfl, cell_of_block HG2.out.b rfl, cell_of_block HG2.out.b rfl⟩ (fun hHeld => ?_)
        clear hK K
        try simp only [Act.put, List.setIfInBounds_toArray, List.set_cons_zero, List.set_cons_succ]
        refine wpAnyH_take (i := 25) (v := ?_) wlit25 (by kernel_rfl) (by kernel_rfl) (by kernel_rfl) (fun _ _ _ h => h) (Or.inl ⟨by rfl, ?_⟩) (by assumption) ?_
        rotate_left
        · (intro w hSw; (try dsimp only at hSw); go_simp) <;> with_reducible rfl
        try simp only [Act.put, List.setIfInBounds_toArray, List.set_cons_zero, List.set_cons_succ]
        refine wpAnyH_take (i := 26) (v := ?_) wlit26 (by kernel_rfl) (by kernel_rfl) (by kernel_rfl) (fun _ _ _ h => h) (Or.inl ⟨by rfl, ?_⟩) (by assumption) ?_
        rotate_left
        · (intro w hSw; (try dsimp only at hSw); go_simp) <;> with_reducible rfl
        try simp only [Act.put, List.setIfInBounds_toArray, List.set_cons_zero, List.set_cons_succ]
        refine wpAnyH_done (by kernel_rfl) ?_ _
        generalize wx1 = wx at *
        cases hat : atomB s go q with
        | none => rw [hat] at hway; simp at hway
        | some ma =>
          rw [hat] at hway
          have HAT := Lib.hid hat
          have HWAY := Lib.hid hway
          clear hat hway
          go_wp2_with fail
          refine (HA.out go (by omega) q d _ ma hlt E124.out E41.out HG2.out.b HAT.out).mono ?_
          intro e wb hg
          have hres : ∃ (v : Value) (r : Rx) (q1 : Nat) (bd1 mn1 : Bool), e = .returned v ∧ RxV (fun i => wx.heap.size ≤ i) wb v r ∧ wb.heap[d]? = some (rrObj s q1 bd1 mn1) ∧ Fr (at1 d) wx wb ∧ ((bd1 = false ∧ mn1 = false ∧ q < q1 ∧ q1 ≤ s.size ∧ r.size < 1000000000 ∧ ma = .ok (r, q1)) ∨ (bd1 = true ∧ q1 ≤ s.size + (k + 1) ∧ ∃ n, m = .error n ∧ mn1 = (n == 4))) := by
            have hw := HWAY.out
            cases ma with
            | ok x =>
              obtain ⟨v, h1, h2, h3, h4⟩ := hg
              have := (all_at hs go).2.2.2 q x.2 x.1 (by omega) HAT.out
              exact ⟨v, x.1, x.2, _, _, h1, h2, h3, h4, .inl ⟨rfl, rfl, by omega, by omega, by omega, rfl⟩⟩
            | error n =>
              obtain ⟨v, r, q1, h1, h2, h3, h4, h5⟩ := hg
              exact ⟨v, r, q1, _, _, h1, h2, h4, h5, .inr ⟨rfl, by omega, n, by simpa using hw.symm, rfl⟩⟩
          obtain ⟨v, ⟨c, x0, x1, x2, x3, xids⟩, q1, bd1, mn1, rfl, hv, hb2, F2, hst⟩ := hres
          obtain ⟨va, vcap, rfl, hvc, hvl⟩ := (hv.bound).open_
          have hszx := lt_of_block HG2.out.z
          have hdx := HG2.out.o
          have hlo := HG2.out.lo.bnd
          have hbs := F2.size
          have HI := Lib.hid (show WI s d w wx.heap.size l (.slice la l.length lcap) wb.heap.size q1 bd1 mn1 c x0 x1 x2 x3 xids va vcap (wb.alloc (.cells #[.int .i64 c, .int .u64 (x0 : Int), .int .u64 (x1 : Int), .int .u64 (x2 : Int), .int .u64 (x3 : Int), .slice va xids.length vcap] 28)) from by
            have FA := (Fr.refl none_ wb).alloc (.cells #[.int .i64 c, .int .u64 (x0 : Int), .int .u64 (x1 : Int), .int .u64 (x2 : Int), .int .u64 (x3 : Int), .slice va xids.length vcap] 28)
            refine ⟨FA.at_ hb2 (fun h => h), FA.at_ (F2.at_ HG2.out.z (by simp only [at1]; omega)) (fun h => h), ?_, hlo.2, alloc_new wb _, ?_, hvc, (HG2.out.f.tr F2).tr FA.none, ⟨hdx, hszx, hbs, by simp; omega⟩⟩
            · exact (hlo.1.moveO F2 (fun i hi _ => by simp only [at1]; omega) (fun i hi => by
                have h1 : w.heap.size + 1 ≤ i := by
                  obtain ⟨c0, h1, _⟩ := hlo.1
                  exact (h1.lt i hi).1
                simp only [at1]; omega)).move FA (fun _ _ _ h => h) (fun _ _ _ h => h)
            · exact RxL.mono (fun i hi => ⟨hi.1, by omega⟩) xids va 0 (RxL.move (fun i _ hlt => FA.block i hlt (fun h => h)) xids va 0 hvl))
          have HS1 := Lib.hid hst
          obtain ⟨c0, c1, c2, c3, c4, c5⟩ := six (alloc_new wb (.cells #[.int .i64 c, .int .u64 (x0 : Int), .int .u64 (x1 : Int), .int .u64 (x2 : Int), .int .u64 (x3 : Int), .slice va xids.length vcap] 28))
          clear hg hv hvl hb2 F2 hst hlo hbs
          go_wp2_with fail
          clear c0 c1 c2 c3 c4 c5
          obtain ⟨B0, hB0⟩ : ∃ x, wx.heap.size = x := ⟨_, rfl⟩
          obtain ⟨n4, hn4⟩ : ∃ x, wb.heap.size = x := ⟨_, rfl⟩
          obtain ⟨wc, hwc⟩ : ∃ x, wb.alloc (.cells #[.int .i64 c, .int .u64 (x0 : Int), .int .u64 (x1 : Int), .int .u64 (x2 : Int), .int .u64 (x3 : Int), .slice va xids.length vcap] 28) = x := ⟨_, rfl⟩
          rw [hB0, hn4, hwc] at HI
          rw [hn4, hwc]
          clear hB0 hn4 hwc hszx
          refine (rfits_all s q1 d bd1 mn1 (.mk c x0 x1 x2 x3 xids) _ _ _ HI.out.b (RxV.mk_ HI.out.rc HI.out.rl) (fun h => by
            rcases HS1.out with h2 | h2
            · omega
            · rw [h] at h2; simp at h2)).mono ?_
          rintro e wf ⟨bd2, mn2, rfl, hb2, F2, hst2⟩
          have HI2 := Lib.hid (HI.out.call hb2 F2)
          have HSI := Lib.hid (show StI s k go go l (.mk c x0 x1 x2 x3 xids) q1 m bd2 mn2 from by
            have hw := HWAY.out
            rcases HS1.out with ⟨rfl, rfl, g1, g2, g3, rfl⟩ | ⟨rfl, g1, n, g2, rfl⟩
            · rcases hst2 with ⟨rfl, rfl, h5⟩ | ⟨_, h5, rfl, rfl⟩
              · have hf : fitR (.mk c x0 x1 x2 x3 xids) = .ok (.mk c x0 x1 x2 x3 xids) := by rw [fitR, if_neg (by have := h5 rfl; omega)]
                simp only [hf] at hw
                refine .inl ⟨rfl, rfl, Nat.le_refl _, by omega, g2, h5 rfl, ?_⟩
                cases hbe : behindB s go (.mk c x0 x1 x2 x3 xids) q1 with
                | none => rw [hbe] at hw; simp at hw
                | some x =>
                  rw [hbe] at hw
                  refine ⟨x, rfl, ?_⟩
                  cases x with
                  | error e => simpa using hw
                  | ok y => simpa using hw
              · have hf : fitR (.mk c x0 x1 x2 x3 xids) = .error 4 := by rw [fitR, if_pos h5]
                simp only [hf] at hw
                exact .inr ⟨rfl, by omega, 4, by simpa using hw.symm, rfl⟩
            · rcases hst2 with ⟨rfl, rfl, _⟩ | ⟨h, _⟩
              · exact .inr ⟨rfl, g1, n, g2, rfl⟩
              · simp at h)
          clear hb2 F2 hst2 HS1 HWAY HI
          go_wp2_with fail
          have HLQ := Lib.hid hlq
          have HQS := Lib.hid hqs
          clear hlq
          go_loopg [5] go (fun kk x5 wr => ∃ c x0 x1 x2 x3 xids va vcap q bd mn, Aside (WI s d w B0 l (.slice la l.length lcap) n4 q bd mn c x0 x1 x2 x3 xids va vcap wr) ∧ Aside (StI s k go kk l (.mk c x0 x1 x2 x3 xids) q m bd mn))
          case atStart => exact ⟨c, x0, x1, x2, x3, xids, va, vcap, q1, bd2, mn2, HI2.out, HSI.out⟩
          case round =>
            clear HI2 HSI
            obtain ⟨c, x0, x1, x2, x3, xids, va, vcap, q, bd, mn, hwi, hst⟩ := hrel
            have HI := Lib.hid hwi.out
            have HST := Lib.hid hst.out
            clear hwi hst
            cases bd with
            | true =>
              have HZZ := Lib.hid (show q ≤ s.size + (k + 1) ∧ ∃ n, m = .error n ∧ mn = (n == 4) from by
                rcases HST.out with h | h
                · simp at h
                · exact h.2)
              have HXT := Lib.hid (show ∀ (v : Value) (wz : World), WO s d w (l ++ [.mk c x0 x1 x2 x3 xids]) v q true mn wz → ∃ l q bd mn, Aside (WO s d w l v q bd mn wz) ∧ Aside (StW s k go l q m bd mn) from fun v wz h =>
                ⟨_, q, true, mn, h, .inr ⟨rfl, by have := HLQ.out; have := HQS.out; simp; omega, HZZ.out.1, HZZ.out.2⟩⟩)
              obtain ⟨y1, yb, yf⟩ := HI.out.get
              have hrb := HI.out.rb
              obtain ⟨c0, c1, c2, c3, c4, c5⟩ := six hrb
              obtain ⟨cells, hrow, hels⟩ := HI.out.lo
              have HROW := Lib.hid hrow
              have HELS := Lib.hid hels
              have hll : l.length ≤ 1001 := by have := HLQ.out; have := HQS.out; omega
              clear hrb hrow hels
              go_wp2_with (at_builtin; refine wpList_append_lies _ rfl (.tmp 81) (.tmp 83) 26 rfl (w.heap.size + 1) 28 i0 _ 6 64 Try.underlying26 hi hz0 hz1 hz2 rfl (by decide) _ l.length cells rfl (HROW.out.alloc _) ⟨wr.heap.size, 0, none⟩ 1 1 [.int .i64 c, .int .u64 (x0 : Int), .int .u64 (x1 : Int), .int .u64 (x2 : Int), .int .u64 (x3 : Int), .slice va xids.length vcap] rfl rfl (getElem_block (alloc_new _ _)) ?c1 (by decide) ?c2 ?c3 ?c4 (wr.heap.size + 1) (by simp) ?_)
              case c1 => simp [Value.oneCell']
              case c2 => unfold maxLen; omega
              case c3 => omega
              case c4 => have := lt_of_block HI.out.z; simp; omega
              intro g gcap w1 hown1 hgrow hat hlt1
              have ho := HI.out.o
              have hwn := lt_of_block HI.out.z
              have FA := (Fr.refl none_ wr).alloc (.cells #[.int .i64 c, .int .u64 (x0 : Int), .int .u64 (x1 : Int), .int .u64 (x2 : Int), .int .u64 (x3 : Int), .slice va xids.length vcap] 28)
              have hub : ∀ i, (Value.slice la l.length lcap).ownBlock = some i → w.heap.size + 1 ≤ i ∧ i < B0 := fun i hi => ⟨(HROW.out.lt i hi).1, HI.out.ob i hi⟩
              have FG : Fr (fun i => w.heap.size + 1 ≤ i) _ w1 := (Fr.refl _ _).grown hgrow (fun i hi => .inl (hub i hi).1)
              have RL := RxL.mono (ok' := fun i => w.heap.size + 1 ≤ i ∧ some i ≠ (Value.slice la l.length lcap).ownBlock) (fun i hi => ⟨by omega, fun e => by have := (hub i e.symm).2; omega⟩) xids va 0 (RxL.move (w' := wr.alloc (.cells #[.int .i64 c, .int .u64 (x0 : Int), .int .u64 (x1 : Int), .int .u64 (x2 : Int), .int .u64 (x3 : Int), .slice va xids.length vcap] 28)) (fun i _ hlt => Below.heap_alloc _ _ _ hlt) xids va 0 HI.out.rl)
              have OWN2 := RxOwn.snoc (B := w.heap.size + 1) (ok := fun i => w.heap.size + 1 ≤ i) (w := wr.alloc (.cells #[.int .i64 c, .int .u64 (x0 : Int), .int .u64 (x1 : Int), .int .u64 (x2 : Int), .int .u64 (x3 : Int), .slice va xids.length vcap] 28)) (HROW.out.alloc _) (fun j r hj => by
                obtain ⟨cs, g1, g2, g3⟩ := HELS.out j r hj
                exact ⟨cs, g1, g2, RxC.mono (fun i hi => ⟨hi.1.1, hi.2⟩) r cs (RxC.move (fun i _ hlt => Below.heap_alloc _ _ _ hlt) r cs g3)⟩) rfl (RxC.cells (k := c) (b0 := x0) (b1 := x1) (b2 := x2) (b3 := x3) HI.out.rc RL) hown1 hgrow (by simpa using hat)
              have HOW := Lib.hid (HXT.out _ w1 ⟨FG.at_ (FA.at_ HI.out.b (fun h => h)) (by omega), FG.at_ (FA.at_ HI.out.z (fun h => h)) (by omega), OWN2, (HI.out.f.tr FA.none).trans FG (fun i hi hs' => by omega), ho.1⟩)
              clear FA FG RL OWN2 hgrow hown1 hat hub hwn hlt1 ho c0 c1 c2 c3 c4 c5
              go_wp2_with fail
              go_roundg go
              case measure => omega
              case rel => exact HOW.out
            | false =>
              obtain ⟨rfl, hgg, hlq2, hq2, hr5, haft⟩ : mn = false ∧ gk ≤ go ∧ l.length < q ∧ q ≤ s.size ∧ (Rx.mk c x0 x1 x2 x3 xids).size ≤ 500 ∧ AftW s go l (behindB s gk (.mk c x0 x1 x2 x3 xids) q) m := by
                rcases HST.out with h | h
                · exact h.2
                · simp at h
              clear HST
              cases gk with
              | zero => obtain ⟨x, hx, _⟩ := haft; simp [behindB] at hx
              | succ g =>
                rw [behindB] at haft
                obtain ⟨q3, hq3⟩ : ∃ x, q + 1 = x := ⟨_, rfl⟩
                have hc3 : (q : Int) + 1 = (q3 : Int) := by omega
                rw [hq3] at haft
                obtain ⟨y1, yb, yf⟩ := HI.out.get
                cases h42 : isB s q 42 with
                | true =>
                  have E42 := Lib.hid h42
                  rw [h42, if_pos rfl] at haft
                  have HAF := Lib.hid haft
                  clear h42 haft
                  go_wp2_with fail
                  clear y1 yb yf
                  refine (ris_any s q d 42 false false _ hs HI.out.b).mono ?_
                  rintro e wi1 ⟨rfl, Fi⟩
                  have HI1 := Lib.hid (HI.out.move Fi)
                  clear Fi
                  rw [E42.out]
                  obtain ⟨c0, c1, c2, c3, c4, c5⟩ := six HI1.out.rb
                  have hgb : B0 ≤ wi1.heap.size := HI1.out.o.2.2.2
                  have hgn : n4 < wi1.heap.size := lt_of_block HI1.out.rb
                  go_wp2_with fail
                  clear c0 c1 c2 c3 c4 c5
                  have FB := ((Fr.refl none_ wi1).alloc (.cells #[.int .i64 c, .int .u64 (x0 : Int), .int .u64 (x1 : Int), .int .u64 (x2 : Int), .int .u64 (x3 : Int), .slice va xids.length vcap] 28)).alloc (.cells #[.int .i64 4, .int .u64 0, .int .u64 0, .int .u64 0, .int .u64 0, .slice (some ⟨wi1.heap.size, 0, none⟩) 1 1] 28)
                  have HIy := Lib.hid (HI1.out.move FB)
                  have G1 := Lib.hid (((Fr.refl none_ (wi1.alloc (.cells #[.int .i64 c, .int .u64 (x0 : Int), .int .u64 (x1 : Int), .int .u64 (x2 : Int), .int .u64 (x3 : Int), .slice va xids.length vcap] 28))).alloc (.cells #[.int .i64 4, .int .u64 0, .int .u64 0, .int .u64 0, .int .u64 0, .slice (some ⟨wi1.heap.size, 0, none⟩) 1 1] 28)).at_ (alloc_new wi1 (.cells #[.int .i64 c, .int .u64 (x0 : Int), .int .u64 (x1 : Int), .int .u64 (x2 : Int), .int .u64 (x3 : Int), .slice va xids.length vcap] 28)) (fun h => h))
                  have G2 := Lib.hid (alloc_new (wi1.alloc (.cells #[.int .i64 c, .int .u64 (x0 : Int), .int .u64 (x1 : Int), .int .u64 (x2 : Int), .int .u64 (x3 : Int), .slice va xids.length vcap] 28)) (.cells #[.int .i64 4, .int .u64 0, .int .u64 0, .int .u64 0, .int .u64 0, .slice (some ⟨wi1.heap.size, 0, none⟩) 1 1] 28))
                  have hs2 : (wi1.alloc (.cells #[.int .i64 c, .int .u64 (x0 : Int), .int .u64 (x1 : Int), .int .u64 (x2 : Int), .int .u64 (x3 : Int), .slice va xids.length vcap] 28)).heap.size = wi1.heap.size + 1 := by simp
                  rw [hs2] at G2
                  obtain ⟨wy, hwy⟩ : ∃ x, (wi1.alloc (.cells #[.int .i64 c, .int .u64 (x0 : Int), .int .u64 (x1 : Int), .int .u64 (x2 : Int), .int .u64 (x3 : Int), .slice va xids.length vcap] 28)).alloc (.cells #[.int .i64 4, .int .u64 0, .int .u64 0, .int .u64 0, .int .u64 0, .slice (some ⟨wi1.heap.size, 0, none⟩) 1 1] 28) = x := ⟨_, rfl⟩
                  rw [hwy] at HIy G1 G2 ⊢
                  obtain ⟨g1, hg1⟩ : ∃ x, wi1.heap.size = x := ⟨_, rfl⟩
                  rw [hg1] at G1 G2 hgb hgn ⊢
                  clear FB hs2 hwy hg1
                  refine (ris_any s q d 42 false false _ hs HIy.out.b).mono ?_
                  rintro e wi2 ⟨rfl, Fi⟩
                  have HI2 := Lib.hid (HIy.out.move Fi)
                  replace G1 := Lib.hid (Fi.at_ G1.out (fun h => h))
                  replace G2 := Lib.hid (Fi.at_ G2.out (fun h => h))
                  clear Fi
                  rw [E42.out]
                  have hkl : RxL (fun i => B0 ≤ i ∧ i ≠ n4) wi2 (some ⟨g1, 0, none⟩) 0 [(Rx.mk c x0 x1 x2 x3 xids)] := RxL.one G1.out ⟨hgb, by omega⟩ HI2.out.rc HI2.out.rl
                  have HP := HI2.out.put6 (k' := 4) (ks' := [(Rx.mk c x0 x1 x2 x3 xids)]) (a' := (some ⟨g1, 0, none⟩)) (cap' := 1) (n := 1) (z := 0) rfl rfl (Nat.le_refl 1) hkl
                  have HQ := Lib.hid (HP.step q3)
                  obtain ⟨p1, pb, pf⟩ := HP.get
                  obtain ⟨k0, k1, k2, k3, k4, k5⟩ := HQ.out.six6 (n := 1) (z := 0) rfl rfl
                  obtain ⟨c0, c1, c2, c3, c4, c5⟩ := six HI2.out.rb
                  obtain ⟨e0, e1, e2, e3, e4, e5⟩ := six G2.out
                  have zf : ∀ o, wi2.frozen? ⟨n4, o, none⟩ = false := fun o => free_of_block HI2.out.rb
                  go_wp2_with fail
                  clear p1 pb pf k0 k1 k2 k3 k4 k5 c0 c1 c2 c3 c4 c5 e0 e1 e2 e3 e4 e5 zf HP hkl
                  obtain ⟨wq, hwq⟩ : ∃ x, (((((((wi2.setCell ⟨n4, 0, none⟩ (.int .i64 4)).setCell ⟨n4, 1, none⟩ (.int .u64 0)).setCell ⟨n4, 2, none⟩ (.int .u64 0)).setCell ⟨n4, 3, none⟩ (.int .u64 0)).setCell ⟨n4, 4, none⟩ (.int .u64 0)).setCell ⟨n4, 5, none⟩ (.slice (some ⟨g1, 0, none⟩) 1 1)).setCell ⟨d, 1, none⟩ (.int .i64 (q3 : Int))) = x := ⟨_, rfl⟩
                  rw [hwq] at HQ ⊢
                  obtain ⟨ag, hag⟩ : ∃ x : Option Addr, (some ⟨g1, 0, none⟩) = x := ⟨_, rfl⟩
                  rw [hag] at HQ ⊢
                  clear hwq hag
                  have hszn : (Rx.mk 4 0 0 0 0 [(Rx.mk c x0 x1 x2 x3 xids)]).size < 4611686018427387904 := by
                    simp only [Rx.size, Rx.sizes, starR, Rx.zero] at hr5 ⊢
                    omega
                  refine (rfits_all s q3 d false false (.mk 4 0 0 0 0 [(Rx.mk c x0 x1 x2 x3 xids)]) _ _ _ HQ.out.b (HQ.out.val6 (n := 1) (z := 0) rfl rfl) (fun _ => hszn)).mono ?_
                  rintro e wf ⟨bd', mn', rfl, hb', F', hst'⟩
                  have HQf := Lib.hid (HQ.out.call hb' F')
                  have HSX := Lib.hid (show StI s k go g l (.mk 4 0 0 0 0 [(Rx.mk c x0 x1 x2 x3 xids)]) q3 m bd' mn' from by
                    have hql := isB_at E42.out
                    rcases hst' with ⟨rfl, rfl, h5⟩ | ⟨_, h5, rfl, rfl⟩
                    · exact .inl ⟨rfl, rfl, by omega, by omega, by omega, h5 rfl, (AftW.fit HAF.out).1 (h5 rfl)⟩
                    · exact .inr ⟨rfl, by omega, 4, (AftW.fit HAF.out).2 h5, rfl⟩)
                  clear hb' F' hst' HQ
                  go_wp2_with fail
                  go_roundg g
                  case measure => omega
                  case rel => exact ⟨4, 0, 0, 0, 0, [(Rx.mk c x0 x1 x2 x3 xids)], ag, 1, q3, bd', mn', HQf.out, HSX.out⟩
                | false =>
                  have E42 := Lib.hid h42
                  rw [h42, if_neg (by decide)] at haft
                  clear h42
                  cases h43 : isB s q 43 with
                  | true =>
                    have E43 := Lib.hid h43
                    rw [h43, if_pos rfl] at haft
                    have HAF := Lib.hid haft
                    clear h43 haft
                    go_wp2_with fail
                    clear y1 yb yf
                    refine (ris_any s q d 42 false false _ hs HI.out.b).mono ?_
                    rintro e wi3 ⟨rfl, Fi⟩
                    have HI3 := Lib.hid (HI.out.move Fi)
                    clear Fi
                    rw [E42.out]
                    go_wp2_with fail
                    refine (ris_any s q d 43 false false _ hs HI3.out.b).mono ?_
                    rintro e wi4 ⟨rfl, Fi⟩
                    have HI4 := Lib.hid (HI3.out.move Fi)
                    clear Fi
                    rw [E43.out]
                    obtain ⟨c0, c1, c2, c3, c4, c5⟩ := six HI4.out.rb
                    have hgb : B0 ≤ wi4.heap.size := HI4.out.o.2.2.2
                    have hgn : n4 < wi4.heap.size := lt_of_block HI4.out.rb
                    go_wp2_with fail
                    clear c0 c1 c2 c3 c4 c5
                    have FB := ((Fr.refl none_ wi4).alloc (.cells #[.int .i64 c, .int .u64 (x0 : Int), .int .u64 (x1 : Int), .int .u64 (x2 : Int), .int .u64 (x3 : Int), .slice va xids.length vcap] 28)).alloc (.cells #[.int .i64 4, .int .u64 0, .int .u64 0, .int .u64 0, .int .u64 0, .slice (some ⟨wi4.heap.size, 0, none⟩) 1 1] 28)
                    have HIy := Lib.hid (HI4.out.move FB)
                    have G1 := Lib.hid (((Fr.refl none_ (wi4.alloc (.cells #[.int .i64 c, .int .u64 (x0 : Int), .int .u64 (x1 : Int), .int .u64 (x2 : Int), .int .u64 (x3 : Int), .slice va xids.length vcap] 28))).alloc (.cells #[.int .i64 4, .int .u64 0, .int .u64 0, .int .u64 0, .int .u64 0, .slice (some ⟨wi4.heap.size, 0, none⟩) 1 1] 28)).at_ (alloc_new wi4 (.cells #[.int .i64 c, .int .u64 (x0 : Int), .int .u64 (x1 : Int), .int .u64 (x2 : Int), .int .u64 (x3 : Int), .slice va xids.length vcap] 28)) (fun h => h))
                    have G2 := Lib.hid (alloc_new (wi4.alloc (.cells #[.int .i64 c, .int .u64 (x0 : Int), .int .u64 (x1 : Int), .int .u64 (x2 : Int), .int .u64 (x3 : Int), .slice va xids.length vcap] 28)) (.cells #[.int .i64 4, .int .u64 0, .int .u64 0, .int .u64 0, .int .u64 0, .slice (some ⟨wi4.heap.size, 0, none⟩) 1 1] 28))
                    have hs2 : (wi4.alloc (.cells #[.int .i64 c, .int .u64 (x0 : Int), .int .u64 (x1 : Int), .int .u64 (x2 : Int), .int .u64 (x3 : Int), .slice va xids.length vcap] 28)).heap.size = wi4.heap.size + 1 := by simp
                    rw [hs2] at G2
                    obtain ⟨wy, hwy⟩ : ∃ x, (wi4.alloc (.cells #[.int .i64 c, .int .u64 (x0 : Int), .int .u64 (x1 : Int), .int .u64 (x2 : Int), .int .u64 (x3 : Int), .slice va xids.length vcap] 28)).alloc (.cells #[.int .i64 4, .int .u64 0, .int .u64 0, .int .u64 0, .int .u64 0, .slice (some ⟨wi4.heap.size, 0, none⟩) 1 1] 28) = x := ⟨_, rfl⟩
                    rw [hwy] at HIy G1 G2 ⊢
                    obtain ⟨g1, hg1⟩ : ∃ x, wi4.heap.size = x := ⟨_, rfl⟩
                    rw [hg1] at G1 G2 hgb hgn ⊢
                    clear FB hs2 hwy hg1
                    refine (ris_any s q d 42 false false _ hs HIy.out.b).mono ?_
                    rintro e wi5 ⟨rfl, Fi⟩
                    have HI5 := Lib.hid (HIy.out.move Fi)
                    replace G1 := Lib.hid (Fi.at_ G1.out (fun h => h))
                    replace G2 := Lib.hid (Fi.at_ G2.out (fun h => h))
                    clear Fi
                    rw [E42.out]
                    go_wp2_with fail
                    refine (ris_any s q d 43 false false _ hs HI5.out.b).mono ?_
                    rintro e wi6 ⟨rfl, Fi⟩
                    have HI6 := Lib.hid (HI5.out.move Fi)
                    replace G1 := Lib.hid (Fi.at_ G1.out (fun h => h))
                    replace G2 := Lib.hid (Fi.at_ G2.out (fun h => h))
                    clear Fi
                    rw [E43.out]
                    have FC := (Fr.refl none_ wi6).alloc (.cells #[.int .i64 c, .int .u64 (x0 : Int), .int .u64 (x1 : Int), .int .u64 (x2 : Int), .int .u64 (x3 : Int), .slice va xids.length vcap, .int .i64 4, .int .u64 0, .int .u64 0, .int .u64 0, .int .u64 0, .slice (some ⟨g1, 0, none⟩) 1 1] 28)
                    have HIB := Lib.hid (HI6.out.move FC)
                    have hgz : B0 ≤ wi6.heap.size := HI6.out.o.2.2.2
                    have hgy : n4 < wi6.heap.size := lt_of_block HI6.out.rb
                    have hk1 : RxL (fun i => B0 ≤ i ∧ i ≠ n4) (wi6.alloc (.cells #[.int .i64 c, .int .u64 (x0 : Int), .int .u64 (x1 : Int), .int .u64 (x2 : Int), .int .u64 (x3 : Int), .slice va xids.length vcap, .int .i64 4, .int .u64 0, .int .u64 0, .int .u64 0, .int .u64 0, .slice (some ⟨g1, 0, none⟩) 1 1] 28)) (some ⟨g1, 0, none⟩) 0 [(Rx.mk c x0 x1 x2 x3 xids)] := RxL.one (FC.at_ G1.out (fun h => h)) ⟨hgb, by omega⟩ HIB.out.rc HIB.out.rl
                    have hkl : RxL (fun i => B0 ≤ i ∧ i ≠ n4) (wi6.alloc (.cells #[.int .i64 c, .int .u64 (x0 : Int), .int .u64 (x1 : Int), .int .u64 (x2 : Int), .int .u64 (x3 : Int), .slice va xids.length vcap, .int .i64 4, .int .u64 0, .int .u64 0, .int .u64 0, .int .u64 0, .slice (some ⟨g1, 0, none⟩) 1 1] 28)) (some ⟨wi6.heap.size, 0, none⟩) 0 [(Rx.mk c x0 x1 x2 x3 xids), starR (Rx.mk c x0 x1 x2 x3 xids)] := RxL.starred (z := 0) rfl (alloc_new wi6 (.cells #[.int .i64 c, .int .u64 (x0 : Int), .int .u64 (x1 : Int), .int .u64 (x2 : Int), .int .u64 (x3 : Int), .slice va xids.length vcap, .int .i64 4, .int .u64 0, .int .u64 0, .int .u64 0, .int .u64 0, .slice (some ⟨g1, 0, none⟩) 1 1] 28)) ⟨hgz, by omega⟩ HIB.out.rc HIB.out.rl hk1
                    obtain ⟨WB, hWB⟩ : ∃ x, (wi6.alloc (.cells #[.int .i64 c, .int .u64 (x0 : Int), .int .u64 (x1 : Int), .int .u64 (x2 : Int), .int .u64 (x3 : Int), .slice va xids.length vcap, .int .i64 4, .int .u64 0, .int .u64 0, .int .u64 0, .int .u64 0, .slice (some ⟨g1, 0, none⟩) 1 1] 28)) = x := ⟨_, rfl⟩
                    rw [hWB] at HIB hkl
                    clear FC
                    rw [hWB] at hk1
                    clear hk1
                    obtain ⟨b0, b1, b2, b3, b4, b5⟩ := six HIB.out.rb
                    have HP := HIB.out.put6 (k' := 2) (ks' := [(Rx.mk c x0 x1 x2 x3 xids), starR (Rx.mk c x0 x1 x2 x3 xids)]) (a' := (some ⟨wi6.heap.size, 0, none⟩)) (cap' := 2) (n := 2) (z := 0) rfl rfl (Nat.le_refl 2) hkl
                    have HQ := Lib.hid (HP.step q3)
                    obtain ⟨p1, pb, pf⟩ := HP.get
                    obtain ⟨k0, k1, k2, k3, k4, k5⟩ := HQ.out.six6 (n := 2) (z := 0) rfl rfl
                    obtain ⟨c0, c1, c2, c3, c4, c5⟩ := six HI6.out.rb
                    obtain ⟨e0, e1, e2, e3, e4, e5⟩ := six G2.out
                    have zf : ∀ o, WB.frozen? ⟨n4, o, none⟩ = false := fun o => free_of_block HIB.out.rb
                    go_wp2_with fail
                    clear p1 pb pf k0 k1 k2 k3 k4 k5 c0 c1 c2 c3 c4 c5 e0 e1 e2 e3 e4 e5 zf HP hkl hWB b0 b1 b2 b3 b4 b5
                    obtain ⟨wq, hwq⟩ : ∃ x, (((((((WB.setCell ⟨n4, 0, none⟩ (.int .i64 2)).setCell ⟨n4, 1, none⟩ (.int .u64 0)).setCell ⟨n4, 2, none⟩ (.int .u64 0)).setCell ⟨n4, 3, none⟩ (.int .u64 0)).setCell ⟨n4, 4, none⟩ (.int .u64 0)).setCell ⟨n4, 5, none⟩ (.slice (some ⟨wi6.heap.size, 0, none⟩) 2 2)).setCell ⟨d, 1, none⟩ (.int .i64 (q3 : Int))) = x := ⟨_, rfl⟩
                    rw [hwq] at HQ ⊢
                    obtain ⟨ag, hag⟩ : ∃ x : Option Addr, (some ⟨wi6.heap.size, 0, none⟩) = x := ⟨_, rfl⟩
                    rw [hag] at HQ ⊢
                    clear hwq hag
                    have hszn : (Rx.mk 2 0 0 0 0 [(Rx.mk c x0 x1 x2 x3 xids), starR (Rx.mk c x0 x1 x2 x3 xids)]).size < 4611686018427387904 := by
                      simp only [Rx.size, Rx.sizes, starR, Rx.zero] at hr5 ⊢
                      omega
                    refine (rfits_all s q3 d false false (.mk 2 0 0 0 0 [(Rx.mk c x0 x1 x2 x3 xids), starR (Rx.mk c x0 x1 x2 x3 xids)]) _ _ _ HQ.out.b (HQ.out.val6 (n := 2) (z := 0) rfl rfl) (fun _ => hszn)).mono ?_
                    rintro e wf ⟨bd', mn', rfl, hb', F', hst'⟩
                    have HQf := Lib.hid (HQ.out.call hb' F')
                    have HSX := Lib.hid (show StI s k go g l (.mk 2 0 0 0 0 [(Rx.mk c x0 x1 x2 x3 xids), starR (Rx.mk c x0 x1 x2 x3 xids)]) q3 m bd' mn' from by
                      have hql := isB_at E43.out
                      rcases hst' with ⟨rfl, rfl, h5⟩ | ⟨_, h5, rfl, rfl⟩
                      · exact .inl ⟨rfl, rfl, by omega, by omega, by omega, h5 rfl, (AftW.fit HAF.out).1 (h5 rfl)⟩
                      · exact .inr ⟨rfl, by omega, 4, (AftW.fit HAF.out).2 h5, rfl⟩)
                    clear hb' F' hst' HQ
                    go_wp2_with fail
                    go_roundg g
                    case measure => omega
                    case rel => exact ⟨2, 0, 0, 0, 0, [(Rx.mk c x0 x1 x2 x3 xids), starR (Rx.mk c x0 x1 x2 x3 xids)], ag, 2, q3, bd', mn', HQf.out, HSX.out⟩
                  | false =>
                    have E43 := Lib.hid h43
                    rw [h43, if_neg (by decide)] at haft
                    clear h43
                    cases h63 : isB s q 63 with
                    | true =>
                      have E63 := Lib.hid h63
                      rw [h63, if_pos rfl] at haft
                      have HAF := Lib.hid haft
                      clear h63 haft
                      go_wp2_with fail
                      clear y1 yb yf
                      refine (ris_any s q d 42 false false _ hs HI.out.b).mono ?_
                      rintro e wi7 ⟨rfl, Fi⟩
                      have HI7 := Lib.hid (HI.out.move Fi)
                      clear Fi
                      rw [E42.out]
                      go_wp2_with fail
                      refine (ris_any s q d 43 false false _ hs HI7.out.b).mono ?_
                      rintro e wi8 ⟨rfl, Fi⟩
                      have HI8 := Lib.hid (HI7.out.move Fi)
                      clear Fi
                      rw [E43.out]
                      go_wp2_with fail
                      refine (ris_any s q d 63 false false _ hs HI8.out.b).mono ?_
                      rintro e wi9 ⟨rfl, Fi⟩
                      have HI9 := Lib.hid (HI8.out.move Fi)
                      clear Fi
                      rw [E63.out]
                      obtain ⟨c0, c1, c2, c3, c4, c5⟩ := six HI9.out.rb
                      have hgb : B0 ≤ wi9.heap.size := HI9.out.o.2.2.2
                      have hgn : n4 < wi9.heap.size := lt_of_block HI9.out.rb
                      go_wp2_with fail
                      clear c0 c1 c2 c3 c4 c5
                      have FB := ((Fr.refl none_ wi9).alloc (.cells #[.int .i64 c, .int .u64 (x0 : Int), .int .u64 (x1 : Int), .int .u64 (x2 : Int), .int .u64 (x3 : Int), .slice va xids.length vcap] 28)).alloc (.cells #[.int .i64 4, .int .u64 0, .int .u64 0, .int .u64 0, .int .u64 0, .slice (some ⟨wi9.heap.size, 0, none⟩) 1 1] 28)
                      have HIy := Lib.hid (HI9.out.move FB)
                      have G1 := Lib.hid (((Fr.refl none_ (wi9.alloc (.cells #[.int .i64 c, .int .u64 (x0 : Int), .int .u64 (x1 : Int), .int .u64 (x2 : Int), .int .u64 (x3 : Int), .slice va xids.length vcap] 28))).alloc (.cells #[.int .i64 4, .int .u64 0, .int .u64 0, .int .u64 0, .int .u64 0, .slice (some ⟨wi9.heap.size, 0, none⟩) 1 1] 28)).at_ (alloc_new wi9 (.cells #[.int .i64 c, .int .u64 (x0 : Int), .int .u64 (x1 : Int), .int .u64 (x2 : Int), .int .u64 (x3 : Int), .slice va xids.length vcap] 28)) (fun h => h))
                      have G2 := Lib.hid (alloc_new (wi9.alloc (.cells #[.int .i64 c, .int .u64 (x0 : Int), .int .u64 (x1 : Int), .int .u64 (x2 : Int), .int .u64 (x3 : Int), .slice va xids.length vcap] 28)) (.cells #[.int .i64 4, .int .u64 0, .int .u64 0, .int .u64 0, .int .u64 0, .slice (some ⟨wi9.heap.size, 0, none⟩) 1 1] 28))
                      have hs2 : (wi9.alloc (.cells #[.int .i64 c, .int .u64 (x0 : Int), .int .u64 (x1 : Int), .int .u64 (x2 : Int), .int .u64 (x3 : Int), .slice va xids.length vcap] 28)).heap.size = wi9.heap.size + 1 := by simp
                      rw [hs2] at G2
                      obtain ⟨wy, hwy⟩ : ∃ x, (wi9.alloc (.cells #[.int .i64 c, .int .u64 (x0 : Int), .int .u64 (x1 : Int), .int .u64 (x2 : Int), .int .u64 (x3 : Int), .slice va xids.length vcap] 28)).alloc (.cells #[.int .i64 4, .int .u64 0, .int .u64 0, .int .u64 0, .int .u64 0, .slice (some ⟨wi9.heap.size, 0, none⟩) 1 1] 28) = x := ⟨_, rfl⟩
                      rw [hwy] at HIy G1 G2 ⊢
                      obtain ⟨g1, hg1⟩ : ∃ x, wi9.heap.size = x := ⟨_, rfl⟩
                      rw [hg1] at G1 G2 hgb hgn ⊢
                      clear FB hs2 hwy hg1
                      refine (ris_any s q d 42 false false _ hs HIy.out.b).mono ?_
                      rintro e wi10 ⟨rfl, Fi⟩
                      have HI10 := Lib.hid (HIy.out.move Fi)
                      replace G1 := Lib.hid (Fi.at_ G1.out (fun h => h))
                      replace G2 := Lib.hid (Fi.at_ G2.out (fun h => h))
                      clear Fi
                      rw [E42.out]
                      go_wp2_with fail
                      refine (ris_any s q d 43 false false _ hs HI10.out.b).mono ?_
                      rintro e wi11 ⟨rfl, Fi⟩
                      have HI11 := Lib.hid (HI10.out.move Fi)
                      replace G1 := Lib.hid (Fi.at_ G1.out (fun h => h))
                      replace G2 := Lib.hid (Fi.at_ G2.out (fun h => h))
                      clear Fi
                      rw [E43.out]
                      have FC := (Fr.refl none_ wi11).alloc (.cells #[.int .i64 c, .int .u64 (x0 : Int), .int .u64 (x1 : Int), .int .u64 (x2 : Int), .int .u64 (x3 : Int), .slice va xids.length vcap, .int .i64 0, .int .u64 0, .int .u64 0, .int .u64 0, .int .u64 0, .slice none 0 0] 28)
                      have HIB := Lib.hid (HI11.out.move FC)
                      have hgz : B0 ≤ wi11.heap.size := HI11.out.o.2.2.2
                      have hgy : n4 < wi11.heap.size := lt_of_block HI11.out.rb
                      have hkl : RxL (fun i => B0 ≤ i ∧ i ≠ n4) (wi11.alloc (.cells #[.int .i64 c, .int .u64 (x0 : Int), .int .u64 (x1 : Int), .int .u64 (x2 : Int), .int .u64 (x3 : Int), .slice va xids.length vcap, .int .i64 0, .int .u64 0, .int .u64 0, .int .u64 0, .int .u64 0, .slice none 0 0] 28)) (some ⟨wi11.heap.size, 0, none⟩) 0 [(Rx.mk c x0 x1 x2 x3 xids), Rx.zero] := RxL.orNone (z := 0) rfl (alloc_new wi11 (.cells #[.int .i64 c, .int .u64 (x0 : Int), .int .u64 (x1 : Int), .int .u64 (x2 : Int), .int .u64 (x3 : Int), .slice va xids.length vcap, .int .i64 0, .int .u64 0, .int .u64 0, .int .u64 0, .int .u64 0, .slice none 0 0] 28)) ⟨hgz, by omega⟩ HIB.out.rc HIB.out.rl
                      obtain ⟨WB, hWB⟩ : ∃ x, (wi11.alloc (.cells #[.int .i64 c, .int .u64 (x0 : Int), .int .u64 (x1 : Int), .int .u64 (x2 : Int), .int .u64 (x3 : Int), .slice va xids.length vcap, .int .i64 0, .int .u64 0, .int .u64 0, .int .u64 0, .int .u64 0, .slice none 0 0] 28)) = x := ⟨_, rfl⟩
                      rw [hWB] at HIB hkl
                      clear FC
                      obtain ⟨b0, b1, b2, b3, b4, b5⟩ := six HIB.out.rb
                      have HP := HIB.out.put6 (k' := 3) (ks' := [(Rx.mk c x0 x1 x2 x3 xids), Rx.zero]) (a' := (some ⟨wi11.heap.size, 0, none⟩)) (cap' := 2) (n := 2) (z := 0) rfl rfl (Nat.le_refl 2) hkl
                      have HQ := Lib.hid (HP.step q3)
                      obtain ⟨p1, pb, pf⟩ := HP.get
                      obtain ⟨k0, k1, k2, k3, k4, k5⟩ := HQ.out.six6 (n := 2) (z := 0) rfl rfl
                      obtain ⟨c0, c1, c2, c3, c4, c5⟩ := six HI11.out.rb
                      obtain ⟨e0, e1, e2, e3, e4, e5⟩ := six G2.out
                      have zf : ∀ o, WB.frozen? ⟨n4, o, none⟩ = false := fun o => free_of_block HIB.out.rb
                      go_wp2_with fail
                      clear p1 pb pf k0 k1 k2 k3 k4 k5 c0 c1 c2 c3 c4 c5 e0 e1 e2 e3 e4 e5 zf HP hkl hWB b0 b1 b2 b3 b4 b5
                      obtain ⟨wq, hwq⟩ : ∃ x, (((((((WB.setCell ⟨n4, 0, none⟩ (.int .i64 3)).setCell ⟨n4, 1, none⟩ (.int .u64 0)).setCell ⟨n4, 2, none⟩ (.int .u64 0)).setCell ⟨n4, 3, none⟩ (.int .u64 0)).setCell ⟨n4, 4, none⟩ (.int .u64 0)).setCell ⟨n4, 5, none⟩ (.slice (some ⟨wi11.heap.size, 0, none⟩) 2 2)).setCell ⟨d, 1, none⟩ (.int .i64 (q3 : Int))) = x := ⟨_, rfl⟩
                      rw [hwq] at HQ ⊢
                      obtain ⟨ag, hag⟩ : ∃ x : Option Addr, (some ⟨wi11.heap.size, 0, none⟩) = x := ⟨_, rfl⟩
                      rw [hag] at HQ ⊢
                      clear hwq hag
                      have hszn : (Rx.mk 3 0 0 0 0 [(Rx.mk c x0 x1 x2 x3 xids), Rx.zero]).size < 4611686018427387904 := by
                        simp only [Rx.size, Rx.sizes, starR, Rx.zero] at hr5 ⊢
                        omega
                      refine (rfits_all s q3 d false false (.mk 3 0 0 0 0 [(Rx.mk c x0 x1 x2 x3 xids), Rx.zero]) _ _ _ HQ.out.b (HQ.out.val6 (n := 2) (z := 0) rfl rfl) (fun _ => hszn)).mono ?_
                      rintro e wf ⟨bd', mn', rfl, hb', F', hst'⟩
                      have HQf := Lib.hid (HQ.out.call hb' F')
                      have HSX := Lib.hid (show StI s k go g l (.mk 3 0 0 0 0 [(Rx.mk c x0 x1 x2 x3 xids), Rx.zero]) q3 m bd' mn' from by
                        have hql := isB_at E63.out
                        rcases hst' with ⟨rfl, rfl, h5⟩ | ⟨_, h5, rfl, rfl⟩
                        · exact .inl ⟨rfl, rfl, by omega, by omega, by omega, h5 rfl, (AftW.fit HAF.out).1 (h5 rfl)⟩
                        · exact .inr ⟨rfl, by omega, 4, (AftW.fit HAF.out).2 h5, rfl⟩)
                      clear hb' F' hst' HQ
                      go_wp2_with fail
                      go_roundg g
                      case measure => omega
                      case rel => exact ⟨3, 0, 0, 0, 0, [(Rx.mk c x0 x1 x2 x3 xids), Rx.zero], ag, 2, q3, bd', mn', HQf.out, HSX.out⟩
                    | false =>
                      have E63 := Lib.hid h63
                      rw [h63, if_neg (by decide)] at haft
                      have HXT := Lib.hid (show ∀ (v : Value) (wz : World), WO s d w (l ++ [.mk c x0 x1 x2 x3 xids]) v q false false wz → ∃ l q bd mn, Aside (WO s d w l v q bd mn wz) ∧ Aside (StW s k go l q m bd mn) from fun v wz h =>
                        ⟨_, q, false, false, h, .inl ⟨rfl, rfl, by omega, by simp; omega, hq2, by
                          obtain ⟨x, hx, h2⟩ := haft
                          simp only [Option.some.injEq] at hx
                          subst hx
                          exact h2⟩⟩)
                      clear h63 haft
                      go_wp2_with fail
                      clear y1 yb yf
                      refine (ris_any s q d 42 false false _ hs HI.out.b).mono ?_
                      rintro e wi12 ⟨rfl, Fi⟩
                      have HI12 := Lib.hid (HI.out.move Fi)
                      clear Fi
                      rw [E42.out]
                      go_wp2_with fail
                      refine (ris_any s q d 43 false false _ hs HI12.out.b).mono ?_
                      rintro e wi13 ⟨rfl, Fi⟩
                      have HI13 := Lib.hid (HI12.out.move Fi)
                      clear Fi
                      rw [E43.out]
                      go_wp2_with fail
                      refine (ris_any s q d 63 false false _ hs HI13.out.b).mono ?_
                      rintro e wi14 ⟨rfl, Fi⟩
                      have HI14 := Lib.hid (HI13.out.move Fi)
                      clear Fi
                      rw [E63.out]
                      have hrb := HI14.out.rb
                      obtain ⟨c0, c1, c2, c3, c4, c5⟩ := six hrb
                      obtain ⟨cells, hrow, hels⟩ := HI14.out.lo
                      have HROW := Lib.hid hrow
                      have HELS := Lib.hid hels
                      have hll : l.length ≤ 1001 := by have := HLQ.out; have := HQS.out; omega
                      clear hrb hrow hels
                      go_wp2_with (at_builtin; refine wpList_append_lies _ rfl (.tmp 81) (.tmp 83) 26 rfl (w.heap.size + 1) 28 i0 _ 6 64 Try.underlying26 hi hz0 hz1 hz2 rfl (by decide) _ l.length cells rfl (HROW.out.alloc _) ⟨wi14.heap.size, 0, none⟩ 1 1 [.int .i64 c, .int .u64 (x0 : Int), .int .u64 (x1 : Int), .int .u64 (x2 : Int), .int .u64 (x3 : Int), .slice va xids.length vcap] rfl rfl (getElem_block (alloc_new _ _)) ?c1 (by decide) ?c2 ?c3 ?c4 (wi14.heap.size + 1) (by simp) ?_)
                      case c1 => simp [Value.oneCell']
                      case c2 => unfold maxLen; omega
                      case c3 => omega
                      case c4 => have := lt_of_block HI14.out.z; simp; omega
                      intro g gcap w1 hown1 hgrow hat hlt1
                      have ho := HI14.out.o
                      have hwn := lt_of_block HI14.out.z
                      have FA := (Fr.refl none_ wi14).alloc (.cells #[.int .i64 c, .int .u64 (x0 : Int), .int .u64 (x1 : Int), .int .u64 (x2 : Int), .int .u64 (x3 : Int), .slice va xids.length vcap] 28)
                      have hub : ∀ i, (Value.slice la l.length lcap).ownBlock = some i → w.heap.size + 1 ≤ i ∧ i < B0 := fun i hi => ⟨(HROW.out.lt i hi).1, HI14.out.ob i hi⟩
                      have FG : Fr (fun i => w.heap.size + 1 ≤ i) _ w1 := (Fr.refl _ _).grown hgrow (fun i hi => .inl (hub i hi).1)
                      have RL := RxL.mono (ok' := fun i => w.heap.size + 1 ≤ i ∧ some i ≠ (Value.slice la l.length lcap).ownBlock) (fun i hi => ⟨by omega, fun e => by have := (hub i e.symm).2; omega⟩) xids va 0 (RxL.move (w' := wi14.alloc (.cells #[.int .i64 c, .int .u64 (x0 : Int), .int .u64 (x1 : Int), .int .u64 (x2 : Int), .int .u64 (x3 : Int), .slice va xids.length vcap] 28)) (fun i _ hlt => Below.heap_alloc _ _ _ hlt) xids va 0 HI14.out.rl)
                      have OWN2 := RxOwn.snoc (B := w.heap.size + 1) (ok := fun i => w.heap.size + 1 ≤ i) (w := wi14.alloc (.cells #[.int .i64 c, .int .u64 (x0 : Int), .int .u64 (x1 : Int), .int .u64 (x2 : Int), .int .u64 (x3 : Int), .slice va xids.length vcap] 28)) (HROW.out.alloc _) (fun j r hj => by
                        obtain ⟨cs, g1, g2, g3⟩ := HELS.out j r hj
                        exact ⟨cs, g1, g2, RxC.mono (fun i hi => ⟨hi.1.1, hi.2⟩) r cs (RxC.move (fun i _ hlt => Below.heap_alloc _ _ _ hlt) r cs g3)⟩) rfl (RxC.cells (k := c) (b0 := x0) (b1 := x1) (b2 := x2) (b3 := x3) HI14.out.rc RL) hown1 hgrow (by simpa using hat)
                      have HOW := Lib.hid (HXT.out _ w1 ⟨FG.at_ (FA.at_ HI14.out.b (fun h => h)) (by omega), FG.at_ (FA.at_ HI14.out.z (fun h => h)) (by omega), OWN2, (HI14.out.f.tr FA.none).trans FG (fun i hi hs' => by omega), ho.1⟩)
                      clear FA FG RL OWN2 hgrow hown1 hat hub hwn hlt1 ho c0 c1 c2 c3 c4 c5
                      go_wp2_with fail
                      go_roundg go
                      case measure => omega
                      case rel => exact HOW.out
end Go.Proofs.Ytjbmppbciiemkaa
