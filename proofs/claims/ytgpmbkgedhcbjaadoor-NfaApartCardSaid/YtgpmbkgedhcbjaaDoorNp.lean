/-
  Parsed of layer 4: the regexes of texts.
-/
import Derived.Test.YtgpmbkgedhcbjaaDoorNk
namespace Go.Proofs.YtgpmbkgedhcbjaaDoor
open Go.RowKit

def okM (z : ByteArray) : Option Rx := match parseM z with | .ok r => some r | .error _ => none
def parsedM (zs : List ByteArray) : List Rx := zs.filterMap okM
theorem parsedM_snoc (zs : List ByteArray) (z : ByteArray) : parsedM (zs ++ [z]) = parsedM zs ++ (match okM z with | some r => [r] | none => []) := by
  simp only [parsedM, List.filterMap_append]
  cases h : okM z <;> simp [h]
theorem parsedM_length (zs : List ByteArray) : (parsedM zs).length ≤ zs.length := List.length_filterMap_le _ _
theorem parsedM_size (zs : List ByteArray) : ∀ r ∈ parsedM zs, r.size ≤ 500 := by
  intro r hr
  obtain ⟨z, _, hz⟩ := List.mem_filterMap.1 hr
  unfold okM at hz
  split at hz
  · rename_i r' h; cases hz; exact (parseM_size h).1
  · cases hz
theorem parsedM_sizes (zs : List ByteArray) (h : zs.length ≤ 8) : Rx.sizes (parsedM zs) ≤ 4000 := by
  have h1 := sizes_le (parsedM zs) 500 (parsedM_size zs)
  have h2 := parsedM_length zs
  have : 500 * (parsedM zs).length ≤ 500 * 8 := Nat.mul_le_mul_left _ (by omega)
  omega

set_option maxRecDepth 100000 in
set_option maxHeartbeats 4000000 in
theorem parsed_own (a : Option Addr) (len cap : Nat) (zs : List ByteArray) (w : World) (h : StrsAt w a len zs) (hf : Few zs) :
    Calls Tryd.prog 6 #[.slice a len cap] w fun e w' => ∃ v, e = .returned v ∧ RxOwn w.heap.size (fun k => w.heap.size ≤ k) w' v (parsedM zs) ∧ Fr none_ w w' := by
  obtain ⟨i0, hi, hz0, hz1, hz2⟩ := info_parts rx_info
  have hl : len ≤ 8 := by have := hf.1; rw [h.len_] at this; exact this
  have H := Lib.hid h
  have HF := Lib.hid hf
  clear h hf
  go_enter Tryd.func6, Tryd.ntmps6
  go_wp2_with fail
  go_loopw [3, 4] (fun x3 x4 wr => ∃ i : Nat, i ≤ len ∧ x4 = .int .i64 i ∧ Aside (RxOwn w.heap.size (fun k => w.heap.size ≤ k) wr x3 (parsedM (zs.take i))) ∧ Aside (Fr none_ w wr)) (fun _ x4 _ => len - (intOf x4).toNat)
  case atStart => exact ⟨0, Nat.zero_le _, rfl, RxOwn.nil _ _ _, Fr.refl _ _⟩
  case round =>
    obtain ⟨i, hi', rfl, hown', hfr'⟩ := hrel
    have HOWN := Lib.hid hown'.out
    have HFr := Lib.hid hfr'.out
    clear hown' hfr'
    by_cases hlt : i < len
    · obtain ⟨z, hz⟩ : ∃ z, zs[i]? = some z := ⟨zs[i]'(by rw [H.out.len_]; exact hlt), List.getElem?_eq_getElem _⟩
      obtain ⟨ad, rfl, hc⟩ := (H.out.move HFr.out).cell i z hz
      have hzs : z.size ≤ 40 := HF.out.2 z (List.mem_of_getElem? hz)
      have hil : (i : Int) < (len : Int) := by omega
      have HT := Lib.hid (show parsedM (zs.take (i + 1)) = parsedM (zs.take i) ++ (match okM z with | some r => [r] | none => []) by
        rw [List.take_add_one, hz]; exact parsedM_snoc _ _)
      clear hz
      cases hp : parseM z with
      | error n =>
        have hne : (n == 0) = false := by
          rcases parseM_err hp with rfl | rfl <;> rfl
        have HOK := Lib.hid (show okM z = none by unfold okM; rw [hp])
        have HP := Lib.hid hp
        clear hp
        go_wp2_with fail
        refine (parse_no z (by omega) n HP.out _).mono ?_
        rintro e w1 ⟨rfl, F1⟩
        have F2 := Lib.hid ((HFr.out.tr F1).alloc (.cells #[.int .i64 0, .int .u64 0, .int .u64 0, .int .u64 0, .int .u64 0, .slice none 0 0] 42))
        have HO2 := Lib.hid (HOWN.out.move (F1.alloc (.cells #[.int .i64 0, .int .u64 0, .int .u64 0, .int .u64 0, .int .u64 0, .slice none 0 0] 42)) (fun _ _ _ h => h) (fun _ _ _ h => h))
        clear F1
        go_wp2_with fail
        go_roundw
        case rel => exact ⟨i + 1, by omega, by go_num, by rw [HT.out, HOK.out, List.append_nil]; exact HO2.out, F2.out⟩
        case measure => simp [intOf]; omega
      | ok r =>
        obtain ⟨k, b0, b1, b2, b3, kids⟩ := r
        have HOK := Lib.hid (show okM z = some (.mk k b0 b1 b2 b3 kids) by unfold okM; rw [hp])
        have HP := Lib.hid hp
        clear hp
        have hwl : (parsedM (zs.take i)).length ≤ 8 := by
          have := parsedM_length (zs.take i)
          simp only [List.length_take] at this
          omega
        go_wp2_with fail
        refine (parse_ok z (by omega) _ HP.out _).mono ?_
        rintro e w1 ⟨v, rfl, hv, F1⟩
        obtain ⟨va, vcap, rfl, hvc, hvl⟩ := hv.open_
        have F2 := Lib.hid ((HFr.out.tr F1).alloc (.cells #[.int .i64 k, .int .u64 b0, .int .u64 b1, .int .u64 b2, .int .u64 b3, .slice va kids.length vcap] 42))
        have HO2 := HOWN.out.move (F1.alloc (.cells #[.int .i64 k, .int .u64 b0, .int .u64 b1, .int .u64 b2, .int .u64 b3, .slice va kids.length vcap] 42)) (fun _ _ _ h => h) (fun _ _ _ h => h)
        have HVL := Lib.hid (RxL.move (w' := w1.alloc (.cells #[.int .i64 k, .int .u64 b0, .int .u64 b1, .int .u64 b2, .int .u64 b3, .slice va kids.length vcap] 42)) (fun i _ hlt => Below.heap_alloc _ _ _ hlt) _ _ _ hvl)
        obtain ⟨z0, z1, z2, z3, z4, z5⟩ := six (alloc_new w1 (.cells #[.int .i64 k, .int .u64 b0, .int .u64 b1, .int .u64 b2, .int .u64 b3, .slice va kids.length vcap] 42))
        have hs1 : (w1.alloc (.cells #[.int .i64 k, .int .u64 b0, .int .u64 b1, .int .u64 b2, .int .u64 b3, .slice va kids.length vcap] 42)).heap.size = w1.heap.size + 1 := by simp
        have hww : w.heap.size ≤ wr.heap.size := HFr.out.size
        have hw1 : wr.heap.size ≤ w1.heap.size := F1.size
        obtain ⟨c0, h0, _⟩ := HOWN.out
        have HUB := Lib.hid (show ∀ i, u3.ownBlock = some i → w.heap.size ≤ i ∧ i < wr.heap.size from fun i hi => h0.lt i hi)
        obtain ⟨cells, hrow, hels⟩ := HO2
        have HROW := Lib.hid hrow
        have HELS := Lib.hid hels
        clear F1 hv hvl hrow hels h0
        go_wp2_with (at_builtin; refine wpList_append_lies _ rfl (.tmp 23) (.tmp 25) 25 rfl w.heap.size 42 i0 _ 6 64 Tryd.underlying25 hi hz0 hz1 hz2 rfl (by decide) _ (parsedM (zs.take i)).length cells rfl (HROW.out.alloc _) ⟨w1.heap.size + 1, 0, none⟩ 1 1 [.int .i64 k, .int .u64 b0, .int .u64 b1, .int .u64 b2, .int .u64 b3, .slice va kids.length vcap] rfl rfl (getElem_block (alloc_new2 w1 _ _).2) ?c1 (by decide) ?c2 ?c3 ?c4 (w1.heap.size + 2) (by simp) ?_)
        case c1 => simp [Value.oneCell']
        case c2 => unfold maxLen; omega
        case c3 => omega
        case c4 => simp; omega
        intro g gcap w2 hown2 hgrow2 hat2 hlt2
        have PU := RxOwn.push (B := w.heap.size) (ok := fun k => w.heap.size ≤ k) HROW.out HELS.out hvc (RxL.mono (fun i hi => ⟨by omega, fun e => by have := (HUB.out i e.symm).2; omega⟩) _ _ _ HVL.out) hown2 hgrow2 (by rw [hs1]; simpa using hat2)
        have HP1 := Lib.hid PU.1
        have HP2 := Lib.hid (F2.out.trans PU.2 (fun i hi hs => by omega))
        clear PU hown2 hgrow2 hat2 hlt2 z0 z1 z2 z3 z4 z5
        go_wp2_with fail
        go_roundw
        case rel =>
          refine ⟨i + 1, by omega, by go_num, ?_, HP2.out⟩
          rw [HT.out, HOK.out]
          exact HP1.out
        case measure => simp [intOf]; omega
    · obtain rfl : i = len := by omega
      have htk : zs.take i = zs := List.take_of_length_le (by rw [H.out.len_]; exact Nat.le_refl _)
      rw [htk] at HOWN
      go_wp2_with fail
      go_ret
      exact ⟨_, rfl, HOWN.out, HFr.out⟩
theorem parsed_any (a : Option Addr) (len cap : Nat) (zs : List ByteArray) (w : World) (h : StrsAt w a len zs) (hf : Few zs) :
    Calls Tryd.prog 6 #[.slice a len cap] w fun e w' => ∃ a' cap', e = .returned (.slice a' (parsedM zs).length cap') ∧ (parsedM zs).length ≤ cap' ∧ RxL (fun k => w.heap.size ≤ k) w' a' 0 (parsedM zs) ∧ Fr none_ w w' := by
  refine (parsed_own a len cap zs w h hf).mono ?_
  rintro e w' ⟨v, rfl, h1, h2⟩
  obtain ⟨a', cap', rfl, h3, h4⟩ := h1.rows
  exact ⟨a', cap', rfl, h3, RxL.mono (fun k hk => by rcases hk with hk | hk <;> exact hk) _ _ _ h4, h2⟩
end Go.Proofs.YtgpmbkgedhcbjaaDoor
