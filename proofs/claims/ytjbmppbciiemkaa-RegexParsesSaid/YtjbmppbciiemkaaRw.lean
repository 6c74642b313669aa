/-
  works of syntagmlaw03: the document's example.
-/
import Derived.Test.YtjbmppbciiemkaaSh
import Derived.Test.YtjbmppbciiemkaaRA
namespace Go.Proofs.Ytjbmppbciiemkaa set_option linter.unusedVariables false set_option linter.unusedSimpArgs false
open Go.RowKit

theorem matchP_run (r : Rx) (s : ByteArray) : matchP r s = (runM (buildM [r] 0 [] []).1 (buildM [r] 0 [] []).2 (bytesN s)).testBit 0 := by
  rw [Bool.eq_iff_iff, matchP_true, run_lang [r] (by simp)]
  simp
def wA : Rx := .mk 1 0 8589934592 0 0 []
def wS : Rx := .mk 4 0 0 0 0 [.mk 3 0 0 0 0 [.mk 1 0 17179869184 0 0 [], .mk 1 0 34359738368 0 0 []]]
def wR : Rx := .mk 2 0 0 0 0 [wA, wS]
def shW : List UInt8 := [40, 91, 92, 120, 54, 49, 93, 40, 91, 92, 120, 54, 50, 93, 124, 91, 92, 120, 54, 51, 93, 41, 42, 41]
theorem parse_W : parseM ⟨#[97, 40, 98, 124, 99, 41, 42]⟩ = .ok wR := by kernel_rfl
theorem parse_S : parseM (bstr shW) = .ok wR := by kernel_rfl
theorem show_W : showL wR = shW := by decide +kernel
theorem match_W1 : matchP wR ⟨#[97]⟩ = true := by rw [matchP_run]; decide +kernel
theorem match_W2 : matchP wR ⟨#[97, 98, 99]⟩ = true := by rw [matchP_run]; decide +kernel
theorem match_W3 : matchP wR ⟨#[98]⟩ = false := by rw [matchP_run]; decide +kernel
theorem match_W4 : matchP wR ⟨#[97, 99, 98]⟩ = true := by rw [matchP_run]; decide +kernel

set_option maxRecDepth 100000 in
set_option maxHeartbeats 8000000 in
theorem works3_gen (w : World) (k : Int) (b0 b1 b2 b3 : Nat) (k1 : Int) (x0 x1 x2 x3 : Nat) (kids1 : List Rx) (k2 : Int) (y0 y1 y2 y3 : Nat) (kids2 : List Rx) (sh : List UInt8)
    (hp1 : parseM ⟨#[97, 40, 98, 124, 99, 41, 42]⟩ = .ok (.mk k b0 b1 b2 b3 [.mk k1 x0 x1 x2 x3 kids1, .mk k2 y0 y1 y2 y3 kids2])) (hsh : showL (.mk k b0 b1 b2 b3 [.mk k1 x0 x1 x2 x3 kids1, .mk k2 y0 y1 y2 y3 kids2]) = sh) (hp2 : parseM (bstr sh) = .ok (.mk k b0 b1 b2 b3 [.mk k1 x0 x1 x2 x3 kids1, .mk k2 y0 y1 y2 y3 kids2])) (hlen : sh.length ≤ 100)
    (hsz : Rx.size (.mk k b0 b1 b2 b3 [.mk k1 x0 x1 x2 x3 kids1, .mk k2 y0 y1 y2 y3 kids2]) ≤ 1000) (hsz2 : Rx.size (.mk k2 y0 y1 y2 y3 kids2) ≤ 1000)
    (hm1 : matchP (.mk k b0 b1 b2 b3 [.mk k1 x0 x1 x2 x3 kids1, .mk k2 y0 y1 y2 y3 kids2]) ⟨#[97]⟩ = true) (hm2 : matchP (.mk k b0 b1 b2 b3 [.mk k1 x0 x1 x2 x3 kids1, .mk k2 y0 y1 y2 y3 kids2]) ⟨#[97, 98, 99]⟩ = true) (hm3 : matchP (.mk k b0 b1 b2 b3 [.mk k1 x0 x1 x2 x3 kids1, .mk k2 y0 y1 y2 y3 kids2]) ⟨#[98]⟩ = false) (hm4 : matchP (.mk k b0 b1 b2 b3 [.mk k1 x0 x1 x2 x3 kids1, .mk k2 y0 y1 y2 y3 kids2]) ⟨#[97, 99, 98]⟩ = true)
    (hn1 : Rx.null (.mk k b0 b1 b2 b3 [.mk k1 x0 x1 x2 x3 kids1, .mk k2 y0 y1 y2 y3 kids2]) = false) (hn2 : Rx.null (.mk k2 y0 y1 y2 y3 kids2) = true) (hh : Rx.has (.mk k1 x0 x1 x2 x3 kids1) 97 = true) :
    Calls Try.prog 4 #[] w fun e w' => e = .returned (.bool true) ∧ Fr none_ w w' := by
  have HP1 := Lib.hid hp1
  have HSH := Lib.hid hsh
  have HP2 := Lib.hid hp2
  have HLEN := Lib.hid hlen
  have HSZ := Lib.hid hsz
  have HSZ2 := Lib.hid hsz2
  have HM1 := Lib.hid hm1
  have HM2 := Lib.hid hm2
  have HM3 := Lib.hid hm3
  have HM4 := Lib.hid hm4
  have HN1 := Lib.hid hn1
  have HN2 := Lib.hid hn2
  have HH := Lib.hid hh
  clear hp1 hsh hp2 hlen hsz hsz2 hm1 hm2 hm3 hm4 hn1 hn2 hh
  go_enter Try.func4, Try.ntmps4
  go_wp2_with fail
  refine (parse_ok ⟨#[97, 40, 98, 124, 99, 41, 42]⟩ (by decide) _ HP1.out _).mono ?_
  rintro e wa ⟨va, rfl, hva, Fa⟩
  obtain ⟨aa, acap, rfl, hac, hal⟩ := hva.open_
  have HLA := Lib.hid (RxL.mono (fun _ _ => trivial) _ _ _ hal : RxL (fun _ => True) wa aa 0 [.mk k1 x0 x1 x2 x3 kids1, .mk k2 y0 y1 y2 y3 kids2])
  have hac2 : 2 ≤ acap := hac
  have HFA := Lib.hid (Fa.alloc (.cells #[.int .i64 k, .int .u64 b0, .int .u64 b1, .int .u64 b2, .int .u64 b3, .slice aa 2 acap] 28))
  have HNA := Lib.hid (alloc_new wa (.cells #[.int .i64 k, .int .u64 b0, .int .u64 b1, .int .u64 b2, .int .u64 b3, .slice aa 2 acap] 28))
  clear hal hva Fa hac
  simp only [List.length_cons, List.length_nil, Nat.zero_add, Nat.reduceAdd]
  go_wp2_with fail
  have hblk : ∀ i, i < wa.heap.size → (wa.alloc (.cells #[.int .i64 k, .int .u64 b0, .int .u64 b1, .int .u64 b2, .int .u64 b3, .slice aa 2 acap] 28)).heap[i]? = wa.heap[i]? := fun i hlt => Below.heap_alloc wa _ _ hlt
  generalize hw1 : wa.alloc (.cells #[.int .i64 k, .int .u64 b0, .int .u64 b1, .int .u64 b2, .int .u64 b3, .slice aa 2 acap] 28) = w1 at *
  clear hw1
  have HLA1 := Lib.hid (RxL.move (fun i _ hlt => hblk i hlt) _ _ _ HLA.out)
  clear hblk
  obtain ⟨z0, z1, z2, z3, z4, z5⟩ := six HNA.out
  refine (show_any (.mk k b0 b1 b2 b3 [.mk k1 x0 x1 x2 x3 kids1, .mk k2 y0 y1 y2 y3 kids2]) _ (fun _ => True) _ HSZ.out (RxV.mk_ hac2 HLA1.out)).mono ?_
  rintro e w2 ⟨rfl, F2⟩
  rw [HSH.out]
  have HF2 := Lib.hid F2
  clear F2 z0 z1 z2 z3 z4 z5
  go_wp2_with fail
  refine (parse_ok (bstr sh) (by rw [bstr_size]; have := HLEN.out; omega) _ HP2.out _).mono ?_
  rintro e wb ⟨vb, rfl, hvb, Fb⟩
  obtain ⟨ba, bcap, rfl, hbc, hbl⟩ := hvb.open_
  have HLB := Lib.hid (RxL.mono (fun _ _ => trivial) _ _ _ hbl : RxL (fun _ => True) wb ba 0 [.mk k1 x0 x1 x2 x3 kids1, .mk k2 y0 y1 y2 y3 kids2])
  have hbc2 : 2 ≤ bcap := hbc
  have HFB := Lib.hid ((HF2.out.tr Fb).alloc (.cells #[.int .i64 k, .int .u64 b0, .int .u64 b1, .int .u64 b2, .int .u64 b3, .slice ba 2 bcap] 28))
  have HNB := Lib.hid (alloc_new wb (.cells #[.int .i64 k, .int .u64 b0, .int .u64 b1, .int .u64 b2, .int .u64 b3, .slice ba 2 bcap] 28))
  have hblk : ∀ i, i < wb.heap.size → (wb.alloc (.cells #[.int .i64 k, .int .u64 b0, .int .u64 b1, .int .u64 b2, .int .u64 b3, .slice ba 2 bcap] 28)).heap[i]? = wb.heap[i]? := fun i hlt => Below.heap_alloc wb _ _ hlt
  have hs2 : w2.heap.size ≤ wb.heap.size := Fb.size
  have hs1 : w1.heap.size ≤ w2.heap.size := HF2.out.size
  have hs0 : wa.heap.size < w1.heap.size := lt_of_block HNA.out
  clear hbl hvb Fb hbc
  simp only [List.length_cons, List.length_nil, Nat.zero_add, Nat.reduceAdd]
  have hne1 : ¬ wa.heap.size = wb.heap.size := by omega
  have hne2 : ¬ wb.heap.size = wa.heap.size := by omega
  have HNA3 := Lib.hid (HFB.out.at_ HNA.out (fun h => h))
  have HLA3 := Lib.hid (RxL.move (fun i _ hlt => HFB.out.block i hlt (fun h => h)) _ _ _ HLA1.out)
  have HLB3 := Lib.hid (RxL.move (fun i _ hlt => hblk i hlt) _ _ _ HLB.out)
  have HFW := Lib.hid (HFA.out.tr HFB.out)
  clear hs0 hs1 hs2 hblk HFA HFB HNA HLA HLA1 HF2 HLB
  have HR0 := Lib.hid (Fr.refl none_ (wb.alloc (.cells #[.int .i64 k, .int .u64 b0, .int .u64 b1, .int .u64 b2, .int .u64 b3, .slice ba 2 bcap] 28)))
  obtain ⟨ad, a1, cap1, rfl, _, c0, c1, c2, c3, c4, c5, hc1, hl1⟩ := HLA3.out.elem (i := 0) rfl
  obtain ⟨ad2, a2, cap2, hadd, _, d0, d1, d2, d3, d4, d5, hc2, hl2⟩ := HLA3.out.elem (i := 1) rfl
  simp only [Option.some.injEq] at hadd
  subst hadd
  have e0 : ad.add (0 * 6) = ad := by simp [Addr.add]
  have e1 : ad.add (1 * 6) = ⟨ad.block, ad.off + 6, none⟩ := rfl
  rw [e0] at c0 c1 c2 c3 c4 c5
  rw [e1] at d0 d1 d2 d3 d4 d5
  dsimp only at d1 d2 d3 d4 d5
  have HC0 := Lib.hid c0
  have HC1 := Lib.hid c1
  have HC2 := Lib.hid c2
  have HC3 := Lib.hid c3
  have HC4 := Lib.hid c4
  have HC5 := Lib.hid c5
  have HD0 := Lib.hid d0
  have HD1 := Lib.hid d1
  have HD2 := Lib.hid d2
  have HD3 := Lib.hid d3
  have HD4 := Lib.hid d4
  have HD5 := Lib.hid d5
  have HL1 := Lib.hid hl1
  have HL2 := Lib.hid hl2
  clear c0 c1 c2 c3 c4 c5 d0 d1 d2 d3 d4 d5 hl1 hl2 e0 e1
  obtain ⟨z0, z1, z2, z3, z4, z5⟩ := six HNA3.out
  go_wp2_with fail
  generalize hw3 : wb.alloc (.cells #[.int .i64 k, .int .u64 b0, .int .u64 b1, .int .u64 b2, .int .u64 b3, .slice ba 2 bcap] 28) = w3 at *
  clear hw3
  refine (match_any (.mk k b0 b1 b2 b3 [.mk k1 x0 x1 x2 x3 kids1, .mk k2 y0 y1 y2 y3 kids2]) ⟨#[97]⟩ _ (fun _ => True) _ (by decide) HSZ.out (RxV.mk_ hac2 (RxL.move (fun i _ hlt => HR0.out.block i hlt (fun h => h)) _ _ _ HLA3.out))).mono ?_
  rintro e v1 ⟨rfl, Fi⟩
  rw [HM1.out]
  have HR1 := Lib.hid (HR0.out.tr Fi)
  clear Fi z0 z1 z2 z3 z4 z5 
  obtain ⟨z0, z1, z2, z3, z4, z5⟩ := six (HR1.out.at_ HNA3.out (fun h => h))
  go_wp2_with fail
  refine (match_any (.mk k b0 b1 b2 b3 [.mk k1 x0 x1 x2 x3 kids1, .mk k2 y0 y1 y2 y3 kids2]) ⟨#[97, 98, 99]⟩ _ (fun _ => True) _ (by decide) HSZ.out (RxV.mk_ hac2 (RxL.move (fun i _ hlt => HR1.out.block i hlt (fun h => h)) _ _ _ HLA3.out))).mono ?_
  rintro e v2 ⟨rfl, Fi⟩
  rw [HM2.out]
  have HR2 := Lib.hid (HR1.out.tr Fi)
  clear Fi z0 z1 z2 z3 z4 z5 
  obtain ⟨z0, z1, z2, z3, z4, z5⟩ := six (HR2.out.at_ HNA3.out (fun h => h))
  go_wp2_with fail
  refine (match_any (.mk k b0 b1 b2 b3 [.mk k1 x0 x1 x2 x3 kids1, .mk k2 y0 y1 y2 y3 kids2]) ⟨#[98]⟩ _ (fun _ => True) _ (by decide) HSZ.out (RxV.mk_ hac2 (RxL.move (fun i _ hlt => HR2.out.block i hlt (fun h => h)) _ _ _ HLA3.out))).mono ?_
  rintro e v3 ⟨rfl, Fi⟩
  rw [HM3.out]
  have HR3 := Lib.hid (HR2.out.tr Fi)
  clear Fi z0 z1 z2 z3 z4 z5 
  obtain ⟨z0, z1, z2, z3, z4, z5⟩ := six (HR3.out.at_ HNA3.out (fun h => h))
  go_wp2_with fail
  refine (nullable_any (.mk k b0 b1 b2 b3 [.mk k1 x0 x1 x2 x3 kids1, .mk k2 y0 y1 y2 y3 kids2]) _ (fun _ => True) _ HSZ.out (RxV.mk_ hac2 (RxL.move (fun i _ hlt => HR3.out.block i hlt (fun h => h)) _ _ _ HLA3.out))).mono ?_
  rintro e v4 ⟨rfl, Fi⟩
  rw [HN1.out]
  have HR4 := Lib.hid (HR3.out.tr Fi)
  clear Fi z0 z1 z2 z3 z4 z5 
  obtain ⟨z0, z1, z2, z3, z4, z5⟩ := six (HR4.out.at_ HNA3.out (fun h => h))
  have g0 := HR4.out.cell HD0.out (fun h => h)
  have g1 := HR4.out.cell HD1.out (fun h => h)
  have g2 := HR4.out.cell HD2.out (fun h => h)
  have g3 := HR4.out.cell HD3.out (fun h => h)
  have g4 := HR4.out.cell HD4.out (fun h => h)
  have g5 := HR4.out.cell HD5.out (fun h => h)
  go_wp2_with fail
  refine (nullable_any (.mk k2 y0 y1 y2 y3 kids2) _ (fun _ => True) _ HSZ2.out (RxV.mk_ hc2 (RxL.move (fun i _ hlt => HR4.out.block i hlt (fun h => h)) _ _ _ HL2.out))).mono ?_
  rintro e v5 ⟨rfl, Fi⟩
  rw [HN2.out]
  have HR5 := Lib.hid (HR4.out.tr Fi)
  clear Fi z0 z1 z2 z3 z4 z5 g0 g1 g2 g3 g4 g5 
  obtain ⟨z0, z1, z2, z3, z4, z5⟩ := six (HR5.out.at_ HNA3.out (fun h => h))
  have g0 := HR5.out.cell HC0.out (fun h => h)
  have g1 := HR5.out.cell HC1.out (fun h => h)
  have g2 := HR5.out.cell HC2.out (fun h => h)
  have g3 := HR5.out.cell HC3.out (fun h => h)
  have g4 := HR5.out.cell HC4.out (fun h => h)
  have g5 := HR5.out.cell HC5.out (fun h => h)
  go_wp2_with fail
  refine (rhas_any (.mk k1 x0 x1 x2 x3 kids1) 97 _ (fun _ => True) _ (RxV.mk_ hc1 (RxL.move (fun i _ hlt => HR5.out.block i hlt (fun h => h)) _ _ _ HL1.out)) (by decide)).mono ?_
  rintro e v6 ⟨rfl, Fi⟩
  rw [HH.out]
  have HR6 := Lib.hid (HR5.out.tr Fi)
  clear Fi z0 z1 z2 z3 z4 z5 g0 g1 g2 g3 g4 g5 
  obtain ⟨z0, z1, z2, z3, z4, z5⟩ := six (HR6.out.at_ HNB.out (fun h => h))
  go_wp2_with fail
  refine (match_any (.mk k b0 b1 b2 b3 [.mk k1 x0 x1 x2 x3 kids1, .mk k2 y0 y1 y2 y3 kids2]) ⟨#[97, 99, 98]⟩ _ (fun _ => True) _ (by decide) HSZ.out (RxV.mk_ hbc2 (RxL.move (fun i _ hlt => HR6.out.block i hlt (fun h => h)) _ _ _ HLB3.out))).mono ?_
  rintro e v7 ⟨rfl, Fi⟩
  rw [HM4.out]
  have HR7 := Lib.hid (HR6.out.tr Fi)
  clear Fi z0 z1 z2 z3 z4 z5 
  go_wp2_with fail
  refine (show_any .zero _ (fun _ => True) _ (by decide) (show RxV (fun _ => True) _ (.agg #[.int .i64 0, .int .u64 0, .int .u64 0, .int .u64 0, .int .u64 0, .slice none 0 0]) .zero from RxV.mk_ (kids := []) (Nat.le_refl _) trivial)).mono ?_
  rintro e v8 ⟨rfl, Fi⟩
  rw [show showL .zero = [40, 41] by decide +kernel]
  have HR8 := Lib.hid (HR7.out.tr Fi)
  clear Fi 
  go_wp2_with fail
  go_ret
  exact ⟨congrArg (fun b => Ending.returned (.bool b)) (show ((bstr [40, 41]).toList == [40, 41]) = true by decide +kernel), HFW.out.tr HR8.out⟩


theorem works3_any (w : World) : Calls Try.prog 4 #[] w fun e w' => e = .returned (.bool true) ∧ Fr none_ w w' :=
  works3_gen w 2 0 0 0 0 1 0 8589934592 0 0 [] 4 0 0 0 0 [.mk 3 0 0 0 0 [.mk 1 0 17179869184 0 0 [], .mk 1 0 34359738368 0 0 []]] shW
    parse_W show_W parse_S (by decide) (by decide +kernel) (by decide +kernel) match_W1 match_W2 match_W3 match_W4 (by decide +kernel) (by decide +kernel) (by decide +kernel)

end Go.Proofs.Ytjbmppbciiemkaa
