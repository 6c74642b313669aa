/-
  The law NfaMany: too many regexes, or too great ones, are refused.
-/
import Derived.Test.YtgpmbkgedhcbjaaNp
import Derived.Deep.RegionHeld3
namespace Go.Proofs.Ytgpmbkgedhcbjaa
open Go.RowKit

theorem sizes_replicate (n : Nat) (r : Rx) : Rx.sizes (List.replicate n r) = n * r.size := by
  induction n with
  | zero => simp [Rx.sizes]
  | succ n ih => simp [List.replicate_succ, Rx.sizes, ih, Nat.add_mul]; omega

/-- What the last line finds: the regex in its block, how great it is. -/
theorem many_sizes {wc w1 : World} {k : Int} {b0 b1 b2 b3 : Nat} {kids : List Rx} {a : Option Addr} {cap : Nat} (hc : kids.length ≤ cap) (hl : RxL (fun k => k < wc.heap.size) wc a 0 kids) (hs : (Rx.mk k b0 b1 b2 b3 kids).size ≤ 500) (hf : Fr none_ wc w1) :
    (Calls Try.prog 17 #[.agg #[.int .i64 k, .int .u64 b0, .int .u64 b1, .int .u64 b2, .int .u64 b3, .slice a kids.length cap]] w1 fun e w' => e = .returned (.int .i64 (Rx.mk k b0 b1 b2 b3 kids).size) ∧ Fr none_ w1 w') ∧
    (Calls Try.prog 18 #[.agg #[.int .i64 k, .int .u64 b0, .int .u64 b1, .int .u64 b2, .int .u64 b3, .slice a kids.length cap]] w1 fun e w' => e = .returned (.int .i64 (Rx.mk k b0 b1 b2 b3 kids).size) ∧ Fr none_ w1 w') := by
  have h := RxL.move (w' := w1) (fun i _ hlt => hf.block i hlt (fun h => h)) _ _ _ hl
  exact ⟨nsize_any 500 _ _ _ _ hs (by omega) (RxV.mk_ hc h), rsize_any 500 _ _ _ _ hs (by omega) (RxV.mk_ hc h)⟩

set_option maxRecDepth 100000 in
set_option maxHeartbeats 4000000 in
theorem many_skip (t : ByteArray) (n : Int) (w : World) (ht : t.size ≤ 140737488351232) (h : 200 < t.size ∨ n < 0 ∨ 80 < n) :
    Calls Try.prog 3 #[.string t, .int .i64 n] w fun e w' => e = .returned (.bool true) ∧ Below w.heap.size w w' := by
  by_cases h1 : 200 < t.size
  · have h1' : (200 : Int) < (t.size : Int) := by omega
    clear h
    go_enter Try.func3, Try.ntmps3
    go_wp2_with fail
    refine (works_any _).mono ?_
    rintro e w1 ⟨rfl, F1⟩
    have HF := Lib.hid F1
    clear F1
    go_wp2_with fail
    go_ret
    exact ⟨rfl, HF.out.below⟩
  · have h1' : (t.size : Int) ≤ 200 := by omega
    by_cases h2 : n < 0
    · clear h h1
      go_enter Try.func3, Try.ntmps3
      go_wp2_with fail
      refine (works_any _).mono ?_
      rintro e w1 ⟨rfl, F1⟩
      have HF := Lib.hid F1
      clear F1
      go_wp2_with fail
      go_ret
      exact ⟨rfl, HF.out.below⟩
    · have h2' : 0 ≤ n := by omega
      have h3 : 80 < n := by omega
      clear h h1 h2
      go_enter Try.func3, Try.ntmps3
      go_wp2_with fail
      refine (works_any _).mono ?_
      rintro e w1 ⟨rfl, F1⟩
      have HF := Lib.hid F1
      clear F1
      go_wp2_with fail
      go_ret
      exact ⟨rfl, HF.out.below⟩

set_option maxRecDepth 100000 in
set_option maxHeartbeats 4000000 in
theorem many_none (t : ByteArray) (n : Int) (w : World) (ht : t.size ≤ 200) (h0 : 0 ≤ n) (h1 : n ≤ 80) (en : Int) (hp : parseM t = .error en) :
    Calls Try.prog 3 #[.string t, .int .i64 n] w fun e w' => e = .returned (.bool true) ∧ Below w.heap.size w w' := by
  have ht' : (t.size : Int) ≤ 200 := by omega
  have hne : (en == 0) = false := by rcases parseM_err hp with rfl | rfl <;> rfl
  have hne2 : (en != 0) = true := by rcases parseM_err hp with rfl | rfl <;> rfl
  have HP := Lib.hid hp
  clear hp
  go_enter Try.func3, Try.ntmps3
  go_wp2_with fail
  refine (works_any _).mono ?_
  rintro e w1 ⟨rfl, F1⟩
  have HF := Lib.hid F1
  clear F1
  go_wp2_with fail
  refine (parse_no t (by omega) en HP.out _).mono ?_
  rintro e w2 ⟨rfl, F2⟩
  have HF2 := Lib.hid ((HF.out.tr F2).alloc (.cells #[.int .i64 0, .int .u64 0, .int .u64 0, .int .u64 0, .int .u64 0, .slice none 0 0] 28))
  clear F2
  go_wp2_with fail
  go_ret
  exact ⟨rfl, HF2.out.below⟩

theorem build_no (rs : List Rx) (a : Option Addr) (n cap : Nat) (w : World) (ok : Nat → Prop) (hn : rs.length = n) (hsz : Rx.sizes rs < 4611686018427387904) (hl : RxL ok w a 0 rs) (hm : rs.length > 60 ∨ Rx.sizes rs > 3000) :
    Calls Try.prog 15 #[.slice a n cap] w fun e w' => e = .returned (.tuple #[.pointer none, .int .i64 4]) ∧ Fr none_ w w' := by
  subst hn
  exact build_many rs a cap w ok hsz hl hm
theorem rsizes_val (rs : List Rx) (a : Option Addr) (n cap : Nat) (w : World) (ok : Nat → Prop) (N : Nat) (hn : rs.length = n) (hN : Rx.sizes rs = N) (hsz : N < 4611686018427387904) (hl : RxL ok w a 0 rs) :
    Calls Try.prog 16 #[.slice a n cap] w fun e w' => e = .returned (.int .i64 N) ∧ Fr none_ w w' := by
  subst hn
  subst hN
  exact rsizes_any rs a cap w ok hsz hl

set_option maxRecDepth 100000 in
set_option maxHeartbeats 8000000 in
theorem many_some (t : ByteArray) (n : Nat) (w : World) (ht : t.size ≤ 200) (h1 : n ≤ 80) (k : Int) (b0 b1 b2 b3 : Nat) (kids : List Rx) (hp : parseM t = .ok (.mk k b0 b1 b2 b3 kids)) :
    Calls Try.prog 3 #[.string t, .int .i64 n] w fun e w' => e = .returned (.bool true) ∧ Below w.heap.size w w' := by
  obtain ⟨i0, hi, hz0, hz1, hz2⟩ := info_parts rx_info
  have ht' : (t.size : Int) ≤ 200 := by omega
  have h1' : (n : Int) ≤ 80 := by omega
  have h0' : (0 : Int) ≤ (n : Int) := by omega
  have HS := Lib.hid (parseM_size hp).1
  have HP := Lib.hid hp
  clear hp
  go_enter Try.func3, Try.ntmps3
  go_wp2_with fail
  refine (works_any _).mono ?_
  rintro e w1 ⟨rfl, F1⟩
  have HF := Lib.hid F1
  clear F1
  go_wp2_with fail
  refine (parse_ok t (by omega) _ HP.out _).mono ?_
  rintro e w2 ⟨v, rfl, hv, F2⟩
  obtain ⟨va, vcap, rfl, hvc, hvl⟩ := hv.open_
  have HFb := Lib.hid ((HF.out.tr F2).alloc (.cells #[.int .i64 k, .int .u64 b0, .int .u64 b1, .int .u64 b2, .int .u64 b3, .slice va kids.length vcap] 28))
  have NB := Lib.hid (alloc_new w2 (.cells #[.int .i64 k, .int .u64 b0, .int .u64 b1, .int .u64 b2, .int .u64 b3, .slice va kids.length vcap] 28))
  have HVL := Lib.hid (RxL.mono (fun k hk => hk.2) _ _ _ (RxL.bound _ _ _ hvl))
  have hsz2 : w.heap.size ≤ w2.heap.size := Nat.le_trans HF.out.size F2.size
  clear F2 hv hvl
  go_wp2_with fail
  have HB0 := Lib.hid (RxL.move (w' := w2.alloc (.cells #[.int .i64 k, .int .u64 b0, .int .u64 b1, .int .u64 b2, .int .u64 b3, .slice va kids.length vcap] 28)) (fun i _ hlt => Below.heap_alloc _ _ _ hlt) _ _ _ HVL.out)
  generalize hB : w2.heap.size = B at *
  generalize hW : w2.alloc (.cells #[.int .i64 k, .int .u64 b0, .int .u64 b1, .int .u64 b2, .int .u64 b3, .slice va kids.length vcap] 28) = wb at *
  clear hB hW
  go_loopw [8, 9] (fun x8 x9 wr => ∃ i : Nat, i ≤ n ∧ x9 = .int .i64 i ∧ Aside (RxOwn (B + 1) (fun k => k < B) wr x8 (List.replicate i (.mk k b0 b1 b2 b3 kids))) ∧ Aside (wr.heap[B]? = some (.cells #[.int .i64 k, .int .u64 b0, .int .u64 b1, .int .u64 b2, .int .u64 b3, .slice va kids.length vcap] 28 (0, 0))) ∧ Aside (RxL (fun k => k < B) wr va 0 kids) ∧ Aside (Fr none_ w wr)) (fun _ x9 _ => n - (intOf x9).toNat)
  case atStart => exact ⟨0, Nat.zero_le _, rfl, RxOwn.nil _ _ _, NB.out, HB0.out, HFb.out⟩
  case round =>
    obtain ⟨i, hi', rfl, hown', hnb', hvl', hfr'⟩ := hrel
    have HOWN := Lib.hid hown'.out
    have HNB := Lib.hid hnb'.out
    have HVr := Lib.hid hvl'.out
    have HFr := Lib.hid hfr'.out
    have hBr := lt_of_block HNB.out
    clear hown' hfr' hnb' hvl' NB HB0 HFb HVL
    obtain ⟨z0, z1, z2, z3, z4, z5⟩ := six HNB.out
    by_cases hlt : i < n
    · have hlt' : (i : Int) < (n : Int) := by omega
      have hrl : (List.replicate i (Rx.mk k b0 b1 b2 b3 kids)).length = i := by simp
      obtain ⟨cells, hrow, hels⟩ := HOWN.out
      have HUB := Lib.hid (show ∀ j, u8.ownBlock = some j → B + 1 ≤ j from fun j hj => (hrow.lt j hj).1)
      have HROW := Lib.hid hrow
      have HELS := Lib.hid hels
      rw [hrl] at HROW
      have HRL := Lib.hid hrl
      clear hrow hels hrl
      go_wp2_with (at_builtin; refine wpList_append_lies _ rfl (.tmp 41) (.tmp 43) 26 rfl (B + 1) 28 i0 _ 6 64 Try.underlying26 hi hz0 hz1 hz2 rfl (by decide) _ i cells rfl (HROW.out.alloc _) ⟨wr.heap.size, 0, none⟩ 1 1 [.int .i64 k, .int .u64 b0, .int .u64 b1, .int .u64 b2, .int .u64 b3, .slice va kids.length vcap] rfl rfl (getElem_block (alloc_new _ _)) ?c1 (by decide) ?c2 ?c3 ?c4 (wr.heap.size + 1) (by simp) ?_)
      case c1 => simp [Value.oneCell']
      case c2 => unfold maxLen; omega
      case c3 => omega
      case c4 => first | omega | (simp; omega)
      intro g gcap w3 hown3 hgrow3 hat3 hlt3
      have PU := RxOwn.push (B := B + 1) (ok := fun k => k < B) (by rw [HRL.out]; exact HROW.out) HELS.out hvc (RxL.mono (fun j hj => ⟨hj, fun e => by have := HUB.out j e.symm; omega⟩) _ _ _ HVr.out) (by rw [HRL.out]; exact hown3) hgrow3 hat3
      rw [HRL.out] at PU
      have HP1 := Lib.hid PU.1
      have HP2 := Lib.hid (HFr.out.trans PU.2 (fun j hj hs => by omega))
      have HP3 := Lib.hid (PU.2.at_ HNB.out (by omega))
      have HP4 := Lib.hid (RxL.move (fun j hj hlt => PU.2.block j hlt (by omega)) _ _ _ HVr.out)
      clear PU hown3 hgrow3 hat3 hlt3 z0 z1 z2 z3 z4 z5
      go_wp2_with fail
      go_roundw
      case rel =>
        refine ⟨i + 1, by omega, by go_num, ?_, HP3.out, HP4.out, HP2.out⟩
        have h := HP1.out
        rw [← List.replicate_succ'] at h
        exact h
      case measure => simp [intOf]; omega
    · obtain rfl : i = n := by omega
      have hrl : (List.replicate i (Rx.mk k b0 b1 b2 b3 kids)).length = i := by simp
      obtain ⟨a', cap', rfl, hc', hl'⟩ := HOWN.out.rows
      rw [hrl] at hc' ⊢
      have HRL := Lib.hid hrl
      have HL' := Lib.hid hl'
      have HSI := Lib.hid (sizes_replicate i (Rx.mk k b0 b1 b2 b3 kids))
      have hsz5 : i * (Rx.mk k b0 b1 b2 b3 kids).size ≤ 80 * 500 := Nat.mul_le_mul h1 HS.out
      have HVb := Lib.hid (RxL.mono (ok' := fun j => j < wr.heap.size) (fun j hj => by omega) _ _ _ HVr.out)
      obtain ⟨N, hN⟩ : ∃ N, i * (Rx.mk k b0 b1 b2 b3 kids).size = N := ⟨_, rfl⟩
      rw [hN] at HSI hsz5
      clear hN hl' hrl HOWN
      by_cases hn60 : 60 < i
      · have hn60' : (60 : Int) < (i : Int) := by omega
        clear hn60
        go_wp2_with fail
        refine (build_no (List.replicate i (Rx.mk k b0 b1 b2 b3 kids)) a' i cap' _ _ HRL.out (by rw [HSI.out]; omega) HL'.out (.inl (by rw [HRL.out]; omega))).mono ?_
        rintro e wc ⟨rfl, Fc⟩
        have HNBc := Lib.hid (Fc.at_ HNB.out (fun h => h))
        have HVc := Lib.hid (RxL.mono (ok' := fun j => j < wc.heap.size) (fun j hj => Nat.lt_of_lt_of_le hj Fc.size) _ _ _ (RxL.move (fun j _ hlt => Fc.block j hlt (fun h => h)) _ _ _ HVb.out))
        have HFc := Lib.hid (HFr.out.tr Fc)
        clear Fc z0 z1 z2 z3 z4 z5
        have G0 : Fr none_ wc wc.drew := (Fr.refl none_ wc).drew
        obtain ⟨z0, z1, z2, z3, z4, z5⟩ := six HNBc.out
        go_wp2_with fail
        go_region_held3 (fun w' => w'.cell? ⟨B, 0, none⟩ = some (.int .i64 k) ∧ w'.cell? ⟨B, 1, none⟩ = some (.int .u64 b0) ∧ w'.cell? ⟨B, 2, none⟩ = some (.int .u64 b1) ∧ w'.cell? ⟨B, 3, none⟩ = some (.int .u64 b2) ∧ w'.cell? ⟨B, 4, none⟩ = some (.int .u64 b3) ∧ w'.cell? ⟨B, 5, none⟩ = some (.slice va kids.length vcap)) ((refine ⟨?_, ?_, ?_, ?_, ?_, ?_⟩ <;> go_simp)) (first
          | (go_at_call 17; refine (many_sizes hvc HVc.out HS.out (by assumption)).1.mono ?_; rintro e wx ⟨rfl, Fx⟩; have Gx := Fr.tr (a := wc) (by assumption) Fx; obtain ⟨z0, z1, z2, z3, z4, z5⟩ := six (Gx.at_ HNBc.out (fun h => h)); clear Fx)
          | (go_at_call 18; refine (many_sizes hvc HVc.out HS.out (by assumption)).2.mono ?_; rintro e wx ⟨rfl, Fx⟩; have Gx := Fr.tr (a := wc) (by assumption) Fx; obtain ⟨z0, z1, z2, z3, z4, z5⟩ := six (Gx.at_ HNBc.out (fun h => h)); clear Fx))
        all_goals
          go_wp2_with fail
          go_ret
          exact ⟨rfl, (HFc.out.tr (by assumption)).below⟩
      · have hn60' : (i : Int) ≤ 60 := by omega
        by_cases hN3 : 3000 < N
        · have hN3' : (3000 : Int) < (N : Int) := by omega
          clear hn60
          go_wp2_with fail
          refine (build_no (List.replicate i (Rx.mk k b0 b1 b2 b3 kids)) a' i cap' _ _ HRL.out (by rw [HSI.out]; omega) HL'.out (.inr (by rw [HSI.out]; omega))).mono ?_
          rintro e wc0 ⟨rfl, Fc0⟩
          have HLc := Lib.hid (RxL.move (fun j _ hlt => Fc0.block j hlt (fun h => h)) _ _ _ HL'.out)
          go_wp2_with fail
          refine (rsizes_val (List.replicate i (Rx.mk k b0 b1 b2 b3 kids)) a' i cap' _ _ N HRL.out HSI.out (by omega) HLc.out).mono ?_
          rintro e wc ⟨rfl, Fc1⟩
          have Fc := Fc0.tr Fc1
          clear Fc0 Fc1
          have HNBc := Lib.hid (Fc.at_ HNB.out (fun h => h))
          have HVc := Lib.hid (RxL.mono (ok' := fun j => j < wc.heap.size) (fun j hj => Nat.lt_of_lt_of_le hj Fc.size) _ _ _ (RxL.move (fun j _ hlt => Fc.block j hlt (fun h => h)) _ _ _ HVb.out))
          have HFc := Lib.hid (HFr.out.tr Fc)
          clear Fc z0 z1 z2 z3 z4 z5
          have G0 : Fr none_ wc wc.drew := (Fr.refl none_ wc).drew
          obtain ⟨z0, z1, z2, z3, z4, z5⟩ := six HNBc.out
          go_wp2_with fail
          go_region_held3 (fun w' => w'.cell? ⟨B, 0, none⟩ = some (.int .i64 k) ∧ w'.cell? ⟨B, 1, none⟩ = some (.int .u64 b0) ∧ w'.cell? ⟨B, 2, none⟩ = some (.int .u64 b1) ∧ w'.cell? ⟨B, 3, none⟩ = some (.int .u64 b2) ∧ w'.cell? ⟨B, 4, none⟩ = some (.int .u64 b3) ∧ w'.cell? ⟨B, 5, none⟩ = some (.slice va kids.length vcap)) ((refine ⟨?_, ?_, ?_, ?_, ?_, ?_⟩ <;> go_simp)) (first
            | (go_at_call 17; refine (many_sizes hvc HVc.out HS.out (by assumption)).1.mono ?_; rintro e wx ⟨rfl, Fx⟩; have Gx := Fr.tr (a := wc) (by assumption) Fx; obtain ⟨z0, z1, z2, z3, z4, z5⟩ := six (Gx.at_ HNBc.out (fun h => h)); clear Fx)
            | (go_at_call 18; refine (many_sizes hvc HVc.out HS.out (by assumption)).2.mono ?_; rintro e wx ⟨rfl, Fx⟩; have Gx := Fr.tr (a := wc) (by assumption) Fx; obtain ⟨z0, z1, z2, z3, z4, z5⟩ := six (Gx.at_ HNBc.out (fun h => h)); clear Fx))
          all_goals
            go_wp2_with fail
            go_ret
            exact ⟨rfl, (HFc.out.tr (by assumption)).below⟩
        · have hN3' : (N : Int) ≤ 3000 := by omega
          have hi60 : i ≤ 60 := by omega
          have hN3'' : N ≤ 3000 := by omega
          have hd1 : decide ((60 : Int) < (i : Int)) = false := by simp; omega
          have hd2 : decide ((3000 : Int) < (N : Int)) = false := by simp; omega
          clear hn60
          go_wp2_with fail
          refine (build_val (List.replicate i (Rx.mk k b0 b1 b2 b3 kids)) a' i cap' _ _ HRL.out HL'.out (by rw [HRL.out]; omega) (by rw [HSI.out]; exact hN3'')).mono ?_
          rintro e wc0 ⟨dm, rfl, _, Fc0⟩
          have HLc := Lib.hid (RxL.move (fun j _ hlt => Fc0.block j hlt (fun h => h)) _ _ _ HL'.out)
          go_wp2_with fail
          refine (rsizes_val (List.replicate i (Rx.mk k b0 b1 b2 b3 kids)) a' i cap' _ _ N HRL.out HSI.out (by omega) HLc.out).mono ?_
          rintro e wc ⟨rfl, Fc1⟩
          have Fc := Fc0.tr Fc1
          clear Fc0 Fc1
          have HNBc := Lib.hid (Fc.at_ HNB.out (fun h => h))
          have HVc := Lib.hid (RxL.mono (ok' := fun j => j < wc.heap.size) (fun j hj => Nat.lt_of_lt_of_le hj Fc.size) _ _ _ (RxL.move (fun j _ hlt => Fc.block j hlt (fun h => h)) _ _ _ HVb.out))
          have HFc := Lib.hid (HFr.out.tr Fc)
          clear Fc z0 z1 z2 z3 z4 z5
          have G0 : Fr none_ wc wc.drew := (Fr.refl none_ wc).drew
          obtain ⟨z0, z1, z2, z3, z4, z5⟩ := six HNBc.out
          go_wp2_with fail
          go_region_held3 (fun w' => w'.cell? ⟨B, 0, none⟩ = some (.int .i64 k) ∧ w'.cell? ⟨B, 1, none⟩ = some (.int .u64 b0) ∧ w'.cell? ⟨B, 2, none⟩ = some (.int .u64 b1) ∧ w'.cell? ⟨B, 3, none⟩ = some (.int .u64 b2) ∧ w'.cell? ⟨B, 4, none⟩ = some (.int .u64 b3) ∧ w'.cell? ⟨B, 5, none⟩ = some (.slice va kids.length vcap)) ((refine ⟨?_, ?_, ?_, ?_, ?_, ?_⟩ <;> go_simp)) (first
            | (go_at_call 17; refine (many_sizes hvc HVc.out HS.out (by assumption)).1.mono ?_; rintro e wx ⟨rfl, Fx⟩; have Gx := Fr.tr (a := wc) (by assumption) Fx; obtain ⟨z0, z1, z2, z3, z4, z5⟩ := six (Gx.at_ HNBc.out (fun h => h)); clear Fx)
            | (go_at_call 18; refine (many_sizes hvc HVc.out HS.out (by assumption)).2.mono ?_; rintro e wx ⟨rfl, Fx⟩; have Gx := Fr.tr (a := wc) (by assumption) Fx; obtain ⟨z0, z1, z2, z3, z4, z5⟩ := six (Gx.at_ HNBc.out (fun h => h)); clear Fx))
          all_goals
            go_wp2_with fail
            go_ret
            exact ⟨rfl, (HFc.out.tr (by assumption)).below⟩

theorem nfaMany_any (t : ByteArray) (n : Int) (w : World) (ht : t.size ≤ 140737488351232) :
    Calls Try.prog 3 #[.string t, .int .i64 n] w fun e w' => e = .returned (.bool true) ∧ Below w.heap.size w w' := by
  by_cases h : 200 < t.size ∨ n < 0 ∨ 80 < n
  · exact many_skip t n w ht h
  · obtain ⟨m, rfl⟩ := Int.eq_ofNat_of_zero_le (show 0 ≤ n by omega)
    cases hp : parseM t with
    | error en => exact many_none t m w (by omega) (by omega) (by omega) en hp
    | ok r =>
      obtain ⟨k, b0, b1, b2, b3, kids⟩ := r
      exact many_some t m w (by omega) (by omega) k b0 b1 b2 b3 kids hp
end Go.Proofs.Ytgpmbkgedhcbjaa
