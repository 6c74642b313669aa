/-
  The reference of layer 3: what stands while a way is read.
-/
import Derived.Test.YtjbmppbciiemkaaYj
namespace Go.Proofs.Ytjbmppbciiemkaa set_option linter.unusedVariables false set_option linter.unusedSimpArgs false
open Go.RowKit

theorem RxOwn.moveO {B : Nat} {ok S : Nat → Prop} {w w' : World} {v : Value} {l : List Rx} (h : RxOwn B ok w v l) (hf : Fr S w w') (hs : ∀ k, ok k → k < w.heap.size → ¬ S k) (hb : ∀ k, v.ownBlock = some k → ¬ S k) : RxOwn B ok w' v l := by
  obtain ⟨cells, h1, h2⟩ := h
  refine ⟨cells, ⟨h1.1, ?_⟩, fun j r hj => ?_⟩
  · rcases h1.2 with hn | ⟨g, cap, cur, rfl, hbg, hg, rest⟩
    · exact .inl hn
    · exact .inr ⟨g, cap, cur, rfl, hbg, hf.at_ hg (hb g (by simp [Value.ownBlock])), rest⟩
  · obtain ⟨cs, h3, h4, h5⟩ := h2 j r hj
    exact ⟨cs, h3, h4, RxC.move (fun k hk hlt => hf.block k hlt (hs k hk.1 hlt)) r cs h5⟩
theorem RxOwn.bnd {B : Nat} {ok : Nat → Prop} {w : World} {v : Value} {l : List Rx} (h : RxOwn B ok w v l) : RxOwn B (fun k => ok k ∧ k < w.heap.size) w v l ∧ ∀ i, v.ownBlock = some i → i < w.heap.size := by
  obtain ⟨cells, h1, h2⟩ := h
  refine ⟨⟨cells, h1, fun j r hj => ?_⟩, fun i hi => (h1.lt i hi).2⟩
  obtain ⟨cs, h3, h4, h5⟩ := h2 j r hj
  exact ⟨cs, h3, h4, RxC.mono (fun k hk => ⟨⟨hk.1.1, hk.2⟩, hk.1.2⟩) r cs (RxC.bound r cs h5)⟩
theorem RxOwn.mono {B : Nat} {ok ok' : Nat → Prop} {w : World} {v : Value} {l : List Rx} (h : RxOwn B ok w v l) (hk : ∀ k, ok k → ok' k) : RxOwn B ok' w v l := by
  obtain ⟨cells, h1, h2⟩ := h
  refine ⟨cells, h1, fun j r hj => ?_⟩
  obtain ⟨cs, h3, h4, h5⟩ := h2 j r hj
  exact ⟨cs, h3, h4, RxC.mono (fun k h => ⟨hk k h.1, h.2⟩) r cs h5⟩

/-- A regex's six cells. -/
def rxO (k : Int) (x0 x1 x2 x3 : Nat) (a : Option Addr) (n cap : Nat) : Obj := .cells #[.int .i64 k, .int .u64 x0, .int .u64 x1, .int .u64 x2, .int .u64 x3, .slice a n cap] 28 (0, 0)
/-- What stands while signs are read: the reader, the result, the row, and the piece in its block. -/
structure WI (s : ByteArray) (d : Nat) (w : World) (B0 : Nat) (l : List Rx) (lv : Value) (n4 q : Nat) (bd mn : Bool) (k : Int) (x0 x1 x2 x3 : Nat) (ks : List Rx) (a : Option Addr) (cap : Nat) (wr : World) : Prop where
  b : wr.heap[d]? = some (rrObj s q bd mn)
  z : wr.heap[w.heap.size]? = some (rxO 0 0 0 0 0 none 0 0)
  lo : RxOwn (w.heap.size + 1) (fun i => w.heap.size + 1 ≤ i ∧ i < B0) wr lv l
  ob : ∀ i, lv.ownBlock = some i → i < B0
  rb : wr.heap[n4]? = some (rxO k x0 x1 x2 x3 a ks.length cap)
  rl : RxL (fun i => B0 ≤ i ∧ i ≠ n4) wr a 0 ks
  rc : ks.length ≤ cap
  f : Fr (at1 d) w wr
  o : d < w.heap.size ∧ w.heap.size < B0 ∧ B0 ≤ n4 ∧ B0 ≤ wr.heap.size
theorem WI.call {s : ByteArray} {d : Nat} {w : World} {B0 : Nat} {l : List Rx} {lv : Value} {n4 q q' : Nat} {bd mn bd' mn' : Bool} {k : Int} {x0 x1 x2 x3 : Nat} {ks : List Rx} {a : Option Addr} {cap : Nat} {wr wz : World}
    (h : WI s d w B0 l lv n4 q bd mn k x0 x1 x2 x3 ks a cap wr) (hb : wz.heap[d]? = some (rrObj s q' bd' mn')) (hf : Fr (at1 d) wr wz) : WI s d w B0 l lv n4 q' bd' mn' k x0 x1 x2 x3 ks a cap wz := by
  obtain ⟨o1, o2, o3, o4⟩ := h.o
  exact ⟨hb, hf.at_ h.z (by simp only [at1]; omega), h.lo.moveO hf (fun k hk _ => by simp only [at1]; omega) (fun i hi => by
      have h1 : w.heap.size + 1 ≤ i := by
        obtain ⟨c, h1, _⟩ := h.lo
        exact (h1.lt i hi).1
      simp only [at1]; omega), h.ob, hf.at_ h.rb (by simp only [at1]; omega), RxL.move (fun i hi hlt => hf.block i hlt (by simp only [at1]; omega)) ks a 0 h.rl, h.rc, h.f.tr hf, ⟨o1, o2, o3, Nat.le_trans o4 hf.size⟩⟩
theorem WI.move {s : ByteArray} {d : Nat} {w : World} {B0 : Nat} {l : List Rx} {lv : Value} {n4 q : Nat} {bd mn : Bool} {k : Int} {x0 x1 x2 x3 : Nat} {ks : List Rx} {a : Option Addr} {cap : Nat} {wr wz : World}
    (h : WI s d w B0 l lv n4 q bd mn k x0 x1 x2 x3 ks a cap wr) (hf : Fr none_ wr wz) : WI s d w B0 l lv n4 q bd mn k x0 x1 x2 x3 ks a cap wz :=
  h.call (hf.at_ h.b (fun h => h)) hf.none
theorem WI.step {s : ByteArray} {d : Nat} {w : World} {B0 : Nat} {l : List Rx} {lv : Value} {n4 q : Nat} {bd mn : Bool} {k : Int} {x0 x1 x2 x3 : Nat} {ks : List Rx} {a : Option Addr} {cap : Nat} {wr : World}
    (h : WI s d w B0 l lv n4 q bd mn k x0 x1 x2 x3 ks a cap wr) (q' : Nat) : WI s d w B0 l lv n4 q' bd mn k x0 x1 x2 x3 ks a cap (wr.setCell ⟨d, 1, none⟩ (.int .i64 (q' : Int))) :=
  h.call (rr_step h.b q') (rd_set (Fr.refl _ _) 1 _)
/-- The piece is another one. -/
theorem WI.put {s : ByteArray} {d : Nat} {w : World} {B0 : Nat} {l : List Rx} {lv : Value} {n4 q : Nat} {bd mn : Bool} {k k' : Int} {x0 x1 x2 x3 : Nat} {ks ks' : List Rx} {a a' : Option Addr} {cap cap' : Nat} {wr wz : World}
    (h : WI s d w B0 l lv n4 q bd mn k x0 x1 x2 x3 ks a cap wr) (hf : Fr (at1 n4) wr wz) (hb : wz.heap[n4]? = some (rxO k' 0 0 0 0 a' ks'.length cap')) (hc : ks'.length ≤ cap') (hl : RxL (fun i => B0 ≤ i ∧ i ≠ n4) wr a' 0 ks') :
    WI s d w B0 l lv n4 q bd mn k' 0 0 0 0 ks' a' cap' wz := by
  obtain ⟨o1, o2, o3, o4⟩ := h.o
  exact ⟨hf.at_ h.b (by simp only [at1]; omega), hf.at_ h.z (by simp only [at1]; omega), h.lo.moveO hf (fun k hk _ => by simp only [at1]; omega) (fun i hi => by
      have := h.ob i hi
      simp only [at1]; omega), h.ob, hb, RxL.move (fun i hi hlt => hf.block i hlt (by simp only [at1]; omega)) ks' a' 0 hl, hc, h.f.trans hf (fun i hi hh => by simp only [at1] at hh; omega), ⟨o1, o2, o3, Nat.le_trans o4 hf.size⟩⟩
/-- The piece is another one: its six cells are written. -/
theorem WI.put6 {s : ByteArray} {d : Nat} {w : World} {B0 : Nat} {l : List Rx} {lv : Value} {n4 q : Nat} {bd mn : Bool} {k k' : Int} {x0 x1 x2 x3 : Nat} {ks ks' : List Rx} {a a' : Option Addr} {cap cap' n : Nat} {z : Int} {wr : World}
    (h : WI s d w B0 l lv n4 q bd mn k x0 x1 x2 x3 ks a cap wr) (hz : z = ((0 : Nat) : Int)) (hn : ks'.length = n) (hc : n ≤ cap') (hl : RxL (fun i => B0 ≤ i ∧ i ≠ n4) wr a' 0 ks') :
    WI s d w B0 l lv n4 q bd mn k' 0 0 0 0 ks' a' cap' ((((((wr.setCell ⟨n4, 0, none⟩ (.int .i64 k')).setCell ⟨n4, 1, none⟩ (.int .u64 z)).setCell ⟨n4, 2, none⟩ (.int .u64 z)).setCell ⟨n4, 3, none⟩ (.int .u64 z)).setCell ⟨n4, 4, none⟩ (.int .u64 z)).setCell ⟨n4, 5, none⟩ (.slice a' n cap')) := by
  subst hz hn
  have F6 := fr_six (S := at1 n4) (r := n4) (Fr.refl _ wr) (.inl rfl) (.int .i64 k') (.int .u64 ((0 : Nat) : Int)) (.int .u64 ((0 : Nat) : Int)) (.int .u64 ((0 : Nat) : Int)) (.int .u64 ((0 : Nat) : Int)) (.slice a' ks'.length cap')
  have hrb : wr.heap[n4]? = some (.cells #[.int .i64 k, .int .u64 x0, .int .u64 x1, .int .u64 x2, .int .u64 x3, .slice a ks.length cap] 28 (0, 0)) := h.rb
  have h6 := set_six hrb (.int .i64 k') (.int .u64 ((0 : Nat) : Int)) (.int .u64 ((0 : Nat) : Int)) (.int .u64 ((0 : Nat) : Int)) (.int .u64 ((0 : Nat) : Int)) (.slice a' ks'.length cap')
  generalize ((((((wr.setCell ⟨n4, 0, none⟩ (.int .i64 k')).setCell ⟨n4, 1, none⟩ (.int .u64 ((0 : Nat) : Int))).setCell ⟨n4, 2, none⟩ (.int .u64 ((0 : Nat) : Int))).setCell ⟨n4, 3, none⟩ (.int .u64 ((0 : Nat) : Int))).setCell ⟨n4, 4, none⟩ (.int .u64 ((0 : Nat) : Int))).setCell ⟨n4, 5, none⟩ (.slice a' ks'.length cap')) = wz at *
  exact h.put F6 h6 hc hl
/-- The six cells of a piece, with a zero as it is written. -/
theorem WI.six6 {s : ByteArray} {d : Nat} {w : World} {B0 : Nat} {l : List Rx} {lv : Value} {n4 q : Nat} {bd mn : Bool} {k : Int} {ks : List Rx} {a : Option Addr} {cap n : Nat} {z : Int} {wr : World}
    (h : WI s d w B0 l lv n4 q bd mn k 0 0 0 0 ks a cap wr) (hz : z = ((0 : Nat) : Int)) (hn : ks.length = n) :
    wr.cell? ⟨n4, 0, none⟩ = some (.int .i64 k) ∧ wr.cell? ⟨n4, 1, none⟩ = some (.int .u64 z) ∧ wr.cell? ⟨n4, 2, none⟩ = some (.int .u64 z) ∧ wr.cell? ⟨n4, 3, none⟩ = some (.int .u64 z) ∧ wr.cell? ⟨n4, 4, none⟩ = some (.int .u64 z) ∧ wr.cell? ⟨n4, 5, none⟩ = some (.slice a n cap) := by
  subst hz hn
  exact six h.rb
/-- The value of a piece, with a zero as it is written. -/
theorem WI.val6 {s : ByteArray} {d : Nat} {w : World} {B0 : Nat} {l : List Rx} {lv : Value} {n4 q : Nat} {bd mn : Bool} {k : Int} {ks : List Rx} {a : Option Addr} {cap n : Nat} {z : Int} {wr : World}
    (h : WI s d w B0 l lv n4 q bd mn k 0 0 0 0 ks a cap wr) (hz : z = ((0 : Nat) : Int)) (hn : ks.length = n) :
    RxV (fun i => B0 ≤ i ∧ i ≠ n4) wr (.agg #[.int .i64 k, .int .u64 z, .int .u64 z, .int .u64 z, .int .u64 z, .slice a n cap]) (.mk k 0 0 0 0 ks) := by
  subst hz hn
  exact RxV.mk_ h.rc h.rl
/-- A row of a regex and its star. -/
theorem RxL.starred {ok : Nat → Prop} {w : World} {g g1 : Nat} {t : TypeId} {c : Int} {x0 x1 x2 x3 : Nat} {ks : List Rx} {a : Option Addr} {cap : Nat} {z : Int} (hz : z = ((0 : Nat) : Int))
    (h : w.heap[g]? = some (.cells #[.int .i64 c, .int .u64 x0, .int .u64 x1, .int .u64 x2, .int .u64 x3, .slice a ks.length cap, .int .i64 4, .int .u64 z, .int .u64 z, .int .u64 z, .int .u64 z, .slice (some ⟨g1, 0, none⟩) 1 1] t (0, 0))) (hg : ok g)
    (hc : ks.length ≤ cap) (hl : RxL ok w a 0 ks) (hl2 : RxL ok w (some ⟨g1, 0, none⟩) 0 [.mk c x0 x1 x2 x3 ks]) : RxL ok w (some ⟨g, 0, none⟩) 0 [.mk c x0 x1 x2 x3 ks, starR (.mk c x0 x1 x2 x3 ks)] := by
  subst hz
  exact RxL.two (x := 4) (x0 := 0) (x1 := 0) (x2 := 0) (x3 := 0) (xids := [.mk c x0 x1 x2 x3 ks]) (xap := 1) h hg hc hl (Nat.le_refl 1) hl2
/-- A row of a regex and the empty one. -/
theorem RxL.orNone {ok : Nat → Prop} {w : World} {g : Nat} {t : TypeId} {c : Int} {x0 x1 x2 x3 : Nat} {ks : List Rx} {a : Option Addr} {cap : Nat} {z : Int} (hz : z = ((0 : Nat) : Int))
    (h : w.heap[g]? = some (.cells #[.int .i64 c, .int .u64 x0, .int .u64 x1, .int .u64 x2, .int .u64 x3, .slice a ks.length cap, .int .i64 0, .int .u64 z, .int .u64 z, .int .u64 z, .int .u64 z, .slice none 0 0] t (0, 0))) (hg : ok g)
    (hc : ks.length ≤ cap) (hl : RxL ok w a 0 ks) : RxL ok w (some ⟨g, 0, none⟩) 0 [.mk c x0 x1 x2 x3 ks, Rx.zero] := by
  subst hz
  exact RxL.two (x := 0) (x0 := 0) (x1 := 0) (x2 := 0) (x3 := 0) (xids := []) (xap := 0) (xa := none) h hg hc hl (Nat.le_refl 0) (by simp only [RxL])
theorem WI.get {s : ByteArray} {d : Nat} {w : World} {B0 : Nat} {l : List Rx} {lv : Value} {n4 q : Nat} {bd mn : Bool} {k : Int} {x0 x1 x2 x3 : Nat} {ks : List Rx} {a : Option Addr} {cap : Nat} {wr : World}
    (h : WI s d w B0 l lv n4 q bd mn k x0 x1 x2 x3 ks a cap wr) : wr.cell? ⟨d, 1, none⟩ = some (.int .i64 q) ∧ wr.cell? ⟨d, 2, none⟩ = some (.bool bd) ∧ (∀ o, wr.frozen? ⟨d, o, none⟩ = false) :=
  ⟨cell_of_block h.b rfl, cell_of_block h.b rfl, fun o => free_of_block h.b⟩
/-- fits, whether it does or not. -/
theorem rfits_all (s : ByteArray) (p d : Nat) (bd mn : Bool) (r : Rx) (v : Value) (w : World) (ok : Nat → Prop) (hb : w.heap[d]? = some (rrObj s p bd mn)) (hv : RxV ok w v r) (hsz : bd = false → r.size < 4611686018427387904) :
    Calls Try.prog 19 #[.pointer (some ⟨d, 0, none⟩), v] w fun e w' => ∃ bd' mn', e = .returned (.tuple #[]) ∧ w'.heap[d]? = some (rrObj s p bd' mn') ∧ Fr (at1 d) w w' ∧
      ((bd' = bd ∧ mn' = mn ∧ (bd = false → r.size ≤ 500)) ∨ (bd = false ∧ 500 < r.size ∧ bd' = true ∧ mn' = true)) := by
  cases bd with
  | true => exact (rfits_bad s p d mn r v w ok hb hv).mono fun e w' h => ⟨true, mn, h.1, h.2.1, h.2.2, .inl ⟨rfl, rfl, fun h => by simp at h⟩⟩
  | false =>
    by_cases h5 : r.size ≤ 500
    · exact (rfits_ok s p d mn r v w ok hb hv h5).mono fun e w' h => ⟨false, mn, h.1, h.2.1, h.2.2, .inl ⟨rfl, rfl, fun _ => h5⟩⟩
    · exact (rfits_err s p d mn r v w ok hb hv (hsz rfl) (by omega)).mono fun e w' h => ⟨true, true, h.1, h.2.1, h.2.2, .inr ⟨rfl, by omega, rfl, rfl⟩⟩
end Go.Proofs.Ytjbmppbciiemkaa
