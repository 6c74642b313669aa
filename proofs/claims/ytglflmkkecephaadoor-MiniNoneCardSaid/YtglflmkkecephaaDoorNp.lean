/-
  The document's example of layer 4 answers true.
  Texts that came in; Over and Parsed of layer 4.
  Parsed of layer 4: the regexes of texts.
-/
import Derived.Test.YtglflmkkecephaaDoorNi
import Derived.Test.YtglflmkkecephaaDoorNb2
import Derived.Test.YtglflmkkecephaaDoorPe
import Derived.Test.YtglflmkkecephaaDoorPq
namespace Go.Proofs.YtglflmkkecephaaDoor
open Go.RowKit

def rA : Rx := .mk 4 0 0 0 0 [.mk 1 0 8589934592 0 0 []]
def rB : Rx := .mk 2 0 0 0 0 [.mk 1 0 8589934592 0 0 [], .mk 1 0 17179869184 0 0 []]
theorem parse_A : parseM ⟨#[97, 42]⟩ = .ok rA := by kernel_rfl
theorem parse_B : parseM ⟨#[97, 98]⟩ = .ok rB := by kernel_rfl
def gAB : List St := (buildM [rA, rB] 0 [] []).1
def sAB : List Nat := (buildM [rA, rB] 0 [] []).2
theorem run_1 : runM gAB sAB [97] = 1 := by decide +kernel
theorem run_2 : runM gAB sAB [97, 98] = 2 := by decide +kernel
theorem run_3 : runM gAB sAB [] = 1 := by decide +kernel
theorem run_4 : tagsM gAB (ints (stepM gAB (ints (stepM gAB (ints (closedM gAB (ints sAB))) 97)) 98)) = 2 := by decide +kernel
theorem size_AB : rA.size = 2 := by decide +kernel
theorem fit_build (rs : List Rx) (h : Rx.sizes rs ≤ 3000) : Fit (buildM rs 0 [] []).1 := by
  obtain ⟨h1, h2, h3⟩ := buildM_facts rs 0 [] []
  have hs := h3 0 (fun s h => by simp at h)
  simp only [List.length_nil, Nat.zero_add] at h1 hs
  refine ⟨by omega, ?_⟩
  have key : ∀ n, ((List.range n).map fun i => if i ∈ ([] : List Nat) then 0 else 1 + (freeOf (buildM rs 0 [] []).1 i).length).sum ≤ n * 12001 := by
    intro n
    induction n with
    | zero => simp
    | succ n ih =>
      rw [List.range_succ, List.map_append, List.sum_append]
      have : (freeOf (buildM rs 0 [] []).1 n).length ≤ 12000 := by
        unfold freeOf
        cases hn : (buildM rs 0 [] []).1[n]? with
        | none => simp
        | some s =>
          have := hs s (List.mem_of_getElem? hn)
          simp only []
          omega
      simp only [List.map_cons, List.map_nil, List.sum_cons, List.sum_nil, List.not_mem_nil, if_false] at ih ⊢
      omega
  have := key (buildM rs 0 [] []).1.length
  unfold todo
  omega

theorem parse_ok (s : ByteArray) (hs : s.size < 9223372036854775808) (r : Rx) (hm : parseM s = .ok r) (w : World) :
    Calls Tryd.prog 21 #[.string s] w fun e w' => ∃ v, e = .returned (.tuple #[v, .int .i64 0]) ∧ RxV (fun k => w.heap.size ≤ k) w' v r ∧ Fr none_ w w' :=
  (parse_any s hs 604 (.ok r) (by rw [parseB_total, hm]) w).mono fun e w' h => h
theorem parse_no (s : ByteArray) (hs : s.size < 9223372036854775808) (n : Int) (hm : parseM s = .error n) (w : World) :
    Calls Tryd.prog 21 #[.string s] w fun e w' => e = .returned (.tuple #[.agg #[.int .i64 0, .int .u64 0, .int .u64 0, .int .u64 0, .int .u64 0, .slice none 0 0], .int .i64 n]) ∧ Fr none_ w w' :=
  (parse_any s hs 604 (.error n) (by rw [parseB_total, hm]) w).mono fun e w' h => h

/-- A machine at work, in a world that may grow: what each of its methods answers. -/
def MachG (dm : Nat) (w : World) (l : List St) (starts : List Nat) : Prop := ∃ S, Mach dm S w l starts
theorem MachG.move {dm : Nat} {w w' : World} {l : List St} {starts : List Nat} (h : MachG dm w l starts) (hf : Fr none_ w w') : MachG dm w' l starts := by
  obtain ⟨S, h⟩ := h
  exact ⟨S, h.move hf (fun _ h => h.elim)⟩
/-- A row of whole numbers in memory. -/
def IntsAt (w : World) (v : Value) (A : List Int) : Prop := ∃ base, w.ownsRow base 3 1 v A.length (intsV A)
theorem IntsAt.nil (w : World) : IntsAt w (.slice none 0 0) [] := ⟨0, World.ownsRow_nil _ _ _ _⟩
theorem IntsAt.move {w w' : World} {v : Value} {A : List Int} (h : IntsAt w v A) (hf : Fr none_ w w') : IntsAt w' v A := by
  obtain ⟨b, h⟩ := h
  exact ⟨b, ownsRow_same h (fun b' hb => hf.block b' (h.lt b' hb).2 (fun h => h))⟩
theorem IntsAt.of {w : World} {v : Value} {l : List Nat} {base : Nat} (h : w.ownsRow base 3 1 v l.length (nums l)) : IntsAt w v (ints l) := by
  refine ⟨base, ?_⟩
  rw [ints_length, ← nums_eq]; exact h
theorem IntsAt.slice {w : World} {v : Value} {A : List Int} (h : IntsAt w v A) : ∃ a cap, v = .slice a A.length cap ∧ A.length ≤ cap := by
  obtain ⟨b, h⟩ := h
  exact ownsRow_slice h
theorem begin_val (dm : Nat) (w : World) (l : List St) (starts : List Nat) (h : MachG dm w l starts) (hf : Fit l) (hs : starts.length ≤ 1000) :
    Calls Tryd.prog 26 #[.pointer (some ⟨dm, 0, none⟩)] w fun e w' => ∃ v', e = .returned v' ∧ IntsAt w' v' (ints (closedM l (ints starts))) ∧ Fr none_ w w' := by
  obtain ⟨S, h⟩ := h
  refine (begin_any dm S w l starts h hf hs).mono ?_
  rintro e w' ⟨v', he, h1, h2⟩
  exact ⟨v', he, .of h1, h2⟩
theorem step_val (dm : Nat) (w : World) (l : List St) (starts : List Nat) (av : Value) (A : List Int) (b : Nat) (h : MachG dm w l starts) (hf : Fit l) (ha : IntsAt w av A) (hA : A.length ≤ 1000000) (hb : b < 256) :
    Calls Tryd.prog 27 #[.pointer (some ⟨dm, 0, none⟩), av, .int .u8 b] w fun e w' => ∃ v', e = .returned v' ∧ IntsAt w' v' (ints (stepM l A b)) ∧ Fr none_ w w' := by
  obtain ⟨S, h⟩ := h
  obtain ⟨base, ha⟩ := ha
  refine (step_any dm S w l starts base av A b h hf ha hA hb).mono ?_
  rintro e w' ⟨v', he, h1, h2⟩
  exact ⟨v', he, .of h1, h2⟩
theorem tags_val (dm : Nat) (w : World) (l : List St) (starts : List Nat) (av : Value) (A : List Int) (v : Nat) (h : MachG dm w l starts) (hf : Fit l) (ha : IntsAt w av A) (hA : A.length ≤ 1000000) (hv : tagsM l A = v) :
    Calls Tryd.prog 28 #[.pointer (some ⟨dm, 0, none⟩), av] w fun e w' => e = .returned (.int .u64 v) ∧ w = w' := by
  obtain ⟨S, h⟩ := h
  obtain ⟨base, ha⟩ := ha
  subst hv
  exact tags_any dm S w l starts base av A h hf.len ha hA
theorem closedM_length (l : List St) (W : List Int) : (closedM l W).length ≤ l.length := by
  unfold closedM
  have := List.length_filter_le (fun i => decide (i ∈ visit l W)) (List.range l.length)
  simpa using this
/-- Build of regexes in memory. -/
theorem build_val (rs : List Rx) (a : Option Addr) (n cap : Nat) (w : World) (ok : Nat → Prop) (hn : rs.length = n) (hl : RxL ok w a 0 rs) (hm1 : rs.length ≤ 60) (hm2 : Rx.sizes rs ≤ 3000) :
    Calls Tryd.prog 23 #[.slice a n cap] w fun e w' => ∃ dm, e = .returned (.tuple #[.pointer (some ⟨dm, 0, none⟩), .int .i64 0]) ∧
      MachG dm w' (buildM rs 0 [] []).1 (buildM rs 0 [] []).2 ∧ Fr none_ w w' := by
  subst hn
  refine (build_made rs a cap w ok hl hm1 hm2).mono ?_
  rintro e w' ⟨dm, _, he, h1, h2⟩
  exact ⟨dm, he, ⟨_, h1⟩, h2⟩

theorem sizes_AB : Rx.sizes [rA, rB] ≤ 3000 := by decide +kernel
end Go.Proofs.YtglflmkkecephaaDoor

namespace Go.Proofs.YtglflmkkecephaaDoor
open Go.RowKit

/-- Texts in memory. -/
structure StrsAt (w : World) (a : Option Addr) (len : Nat) (zs : List ByteArray) : Prop where
  len_ : zs.length = len
  max : len ≤ maxLen
  cell : ∀ i z, zs[i]? = some z → ∃ ad, a = some ad ∧ w.cell? (ad.add i) = some (.string z)
  size : ∀ z ∈ zs, z.size ≤ maxLen
theorem StrsAt.move {w w' : World} {a : Option Addr} {len : Nat} {zs : List ByteArray} (h : StrsAt w a len zs) (hf : Fr none_ w w') : StrsAt w' a len zs :=
  ⟨h.len_, h.max, fun i z hz => (h.cell i z hz).elim fun ad h1 => ⟨ad, h1.1, hf.cell h1.2 (fun h => h)⟩, h.size⟩
theorem add_block (ad : Addr) (n : Nat) : (ad.add n).block = ad.block := by unfold Addr.add; split <;> rfl

/-- Whole numbers that came in. -/
structure IntsIn (w : World) (a : Option Addr) (len : Nat) (zs : List Int) : Prop where
  len_ : zs.length = len
  max : len ≤ maxLen
  cell : ∀ i z, zs[i]? = some z → ∃ ad, a = some ad ∧ w.cell? (ad.add i) = some (.int .i64 z)
  wf : ∀ z ∈ zs, (Lit.int .i64 z).wf = true
theorem IntsIn.move {w w' : World} {a : Option Addr} {len : Nat} {zs : List Int} (h : IntsIn w a len zs) (hf : Fr none_ w w') : IntsIn w' a len zs :=
  ⟨h.len_, h.max, fun i z hz => (h.cell i z hz).elim fun ad h1 => ⟨ad, h1.1, hf.cell h1.2 (fun h => h)⟩, h.wf⟩
theorem IntsAt.cell {w : World} {a : Option Addr} {n cap : Nat} {A : List Int} (h : IntsAt w (.slice a n cap) A) {i : Nat} {z : Int} (hz : A[i]? = some z) : ∃ g, a = some ⟨g, 0, none⟩ ∧ w.cell? ⟨g, i, none⟩ = some (.int .i64 z) := by
  obtain ⟨b, h⟩ := h
  have hi := (List.getElem?_eq_some_iff.1 hz).1
  obtain ⟨g, cap', hg, _, _⟩ := h.form (by omega)
  have h' := h
  rw [hg] at h'
  cases hg
  exact ⟨g, rfl, by rw [h'.cellAt i (by omega)]; simp [intsV, hz]⟩
/-- Are there more than is looked at? -/
def Few (zs : List ByteArray) : Prop := zs.length ≤ 8 ∧ ∀ z ∈ zs, z.size ≤ 40

set_option maxRecDepth 100000 in
set_option maxHeartbeats 1000000 in
theorem over_no (a : Option Addr) (len cap : Nat) (zs : List ByteArray) (w : World) (h : StrsAt w a len zs) (hf : Few zs) :
    Calls Tryd.prog 10 #[.slice a len cap] w fun e w' => e = .returned (.bool false) ∧ w = w' := by
  have hl : len ≤ 8 := by have := hf.1; rw [h.len_] at this; exact this
  have H := Lib.hid h
  have HF := Lib.hid hf
  clear h hf
  go_enter Tryd.func10, Tryd.ntmps10
  go_wp2_with fail
  go_loop [3] (fun x3 => ∃ i : Nat, i ≤ len ∧ x3 = .int .i64 i) (fun x3 => len - (intOf x3).toNat)
  case atStart => exact ⟨0, Nat.zero_le _, rfl⟩
  case round =>
    obtain ⟨i, hi, rfl⟩ := hrel
    by_cases hlt : i < len
    · obtain ⟨z, hz⟩ : ∃ z, zs[i]? = some z := ⟨zs[i]'(by rw [H.out.len_]; exact hlt), List.getElem?_eq_getElem _⟩
      obtain ⟨ad, rfl, hc⟩ := H.out.cell i z hz
      have hzs : (z.size : Int) ≤ 40 := by have := HF.out.2 z (List.mem_of_getElem? hz); omega
      have hi8 : (i : Int) ≤ 8 := by omega
      have hil : (i : Int) < (len : Int) := by omega
      clear hz
      go_wp2_with fail
      go_round
      case rel => exact ⟨i + 1, by omega, by go_num⟩
      case measure => simp [intOf]; omega
    · obtain rfl : i = len := by omega
      have hl8 : (i : Int) ≤ 8 := by omega
      go_wp2_with fail
      go_ret
      exact ⟨by simpa using hl8, rfl⟩
set_option maxRecDepth 100000 in
set_option maxHeartbeats 1000000 in
theorem over_yes (a : Option Addr) (len cap : Nat) (zs : List ByteArray) (w : World) (h : StrsAt w a len zs) (hf : ¬ Few zs) :
    Calls Tryd.prog 10 #[.slice a len cap] w fun e w' => e = .returned (.bool true) ∧ w = w' := by
  have hm : len ≤ 9223372036854775807 := by have := h.max; unfold maxLen at this; omega
  have H := Lib.hid h
  have HF := Lib.hid hf
  clear h hf
  go_enter Tryd.func10, Tryd.ntmps10
  go_wp2_with fail
  go_loop [3] (fun x3 => ∃ i : Nat, i ≤ len ∧ i ≤ 9 ∧ x3 = .int .i64 i ∧ Aside (∀ j z, j < i → zs[j]? = some z → z.size ≤ 40)) (fun x3 => len - (intOf x3).toNat)
  case atStart => exact ⟨0, Nat.zero_le _, by omega, rfl, fun j z hj => by omega⟩
  case round =>
    obtain ⟨i, hi, hi9, rfl, hall⟩ := hrel
    have HALL := Lib.hid hall.out
    clear hall
    by_cases hlt : i < len ∧ i ≤ 8
    · obtain ⟨hlt, hi8⟩ := hlt
      obtain ⟨z, hz⟩ : ∃ z, zs[i]? = some z := ⟨zs[i]'(by rw [H.out.len_]; exact hlt), List.getElem?_eq_getElem _⟩
      obtain ⟨ad, rfl, hc⟩ := H.out.cell i z hz
      have hzm : z.size ≤ 9223372036854775807 := by have := H.out.size z (List.mem_of_getElem? hz); unfold maxLen at this; omega
      have hi8' : (i : Int) ≤ 8 := by omega
      have hil : (i : Int) < (len : Int) := by omega
      have HZ := Lib.hid hz
      clear hz
      by_cases hzs : z.size ≤ 40
      · have hzs' : (z.size : Int) ≤ 40 := by omega
        go_wp2_with fail
        go_round
        case rel => exact ⟨i + 1, by omega, by omega, by go_num, fun j y hj hy => by
          rcases Nat.lt_or_ge j i with h | h
          · exact HALL.out j y h hy
          · obtain rfl : j = i := by omega
            have := HZ.out
            rw [this] at hy
            cases hy
            exact hzs⟩
        case measure => simp [intOf]; omega
      · have hzs' : (40 : Int) < (z.size : Int) := by omega
        go_wp2_with fail
        go_ret
        exact ⟨rfl, rfl⟩
    · by_cases h8 : 8 < len
      · have h8' : (8 : Int) < (len : Int) := by omega
        have hi8 : (8 : Int) < (i : Int) := by omega
        by_cases hil : i < len
        · have hil' : (i : Int) < (len : Int) := by omega
          clear hlt
          go_wp2_with fail
          go_ret
          exact ⟨by simp [h8'], rfl⟩
        · have hil' : (len : Int) ≤ (i : Int) := by omega
          clear hlt
          go_wp2_with fail
          go_ret
          exact ⟨by simp [h8'], rfl⟩
      · exfalso
        obtain rfl : i = len := by omega
        refine HF.out ⟨by rw [H.out.len_]; omega, fun z hz => ?_⟩
        obtain ⟨j, hj⟩ := List.mem_iff_getElem?.1 hz
        exact HALL.out j z (by have := (List.getElem?_eq_some_iff.1 hj).1; rw [H.out.len_] at this; exact this) hj

/-- One more regex in a row of the call's own. -/
theorem RxOwn.push {B : Nat} {ok : Nat → Prop} {w w1 : World} {v : Value} {l : List Rx} {cells : List Value} {k : Int} {b0 b1 b2 b3 : Nat} {kids : List Rx} {a : Option Addr} {cap g gcap : Nat}
    (hrow : w.ownsRow B 46 6 v l.length cells)
    (hels : ∀ j r, l[j]? = some r → ∃ cs, cs.length = 6 ∧ (∀ m u, cs[m]? = some u → cells[j * 6 + m]? = some u) ∧ RxC (fun k => ok k ∧ some k ≠ v.ownBlock) w r cs)
    (hc : kids.length ≤ cap) (hkl : RxL (fun i => ok i ∧ some i ≠ v.ownBlock) w a 0 kids)
    (hown1 : w1.ownsRow B 46 6 (.slice (some ⟨g, 0, none⟩) (l.length + 1) gcap) (l.length + 1) (cells ++ [.int .i64 k, .int .u64 b0, .int .u64 b1, .int .u64 b2, .int .u64 b3, .slice a kids.length cap]))
    (hgrow : (w.alloc (.cells #[.int .i64 k, .int .u64 b0, .int .u64 b1, .int .u64 b2, .int .u64 b3, .slice a kids.length cap] 46)).grownBy w1 v.ownBlock)
    (hat : v.ownBlock = some g ∨ g = w.heap.size + 1) :
    RxOwn B ok w1 (.slice (some ⟨g, 0, none⟩) (l.length + 1) gcap) (l ++ [.mk k b0 b1 b2 b3 kids]) ∧ Fr (fun i => B ≤ i) w w1 := by
  have hub : ∀ i, v.ownBlock = some i → B ≤ i := fun i hi => (hrow.lt i hi).1
  constructor
  · exact RxOwn.snoc (B := B) (ok := ok) (w := w.alloc (.cells #[.int .i64 k, .int .u64 b0, .int .u64 b1, .int .u64 b2, .int .u64 b3, .slice a kids.length cap] 46)) (hrow.alloc _) (fun j r hj => by
      obtain ⟨cs, g1, g2, g3⟩ := hels j r hj
      exact ⟨cs, g1, g2, RxC.move (fun i _ hlt => Below.heap_alloc _ _ _ hlt) r cs g3⟩) rfl
      (RxC.cells (k := k) (b0 := b0) (b1 := b1) (b2 := b2) (b3 := b3) hc (RxL.move (fun i _ hlt => Below.heap_alloc _ _ _ hlt) kids a 0 hkl)) hown1 hgrow (by simpa using hat)
  · exact ((Fr.refl (fun i => B ≤ i) w).alloc _).grown hgrow (fun i hi => .inl (hub i hi))
end Go.Proofs.YtglflmkkecephaaDoor

namespace Go.Proofs.YtglflmkkecephaaDoor
open Go.RowKit

def okM (z : ByteArray) : Option Rx := match parseM z with | .ok r => some r | .error _ => none
def parsedM (zs : List ByteArray) : List Rx := zs.filterMap okM
theorem parsedM_snoc (zs : List ByteArray) (z : ByteArray) : parsedM (zs ++ [z]) = parsedM zs ++ (match okM z with | some r => [r] | none => []) := by
  simp only [parsedM, List.filterMap_append]
  cases h : okM z <;> simp [h]
theorem parsedM_length (zs : List ByteArray) : (parsedM zs).length ≤ zs.length := List.length_filterMap_le _ _
theorem parsedM_size (zs : List ByteArray) : ∀ r ∈ parsedM zs, r.size ≤ 500 := by
  intro r hr
  obtain ⟨z, _, hz⟩ := List.mem_filterMap.1 hr
  unfold okM at hz
  split at hz
  · rename_i r' h; cases hz; exact (parseM_size h).1
  · cases hz
theorem parsedM_sizes (zs : List ByteArray) (h : zs.length ≤ 8) : Rx.sizes (parsedM zs) ≤ 4000 := by
  have h1 := sizes_le (parsedM zs) 500 (parsedM_size zs)
  have h2 := parsedM_length zs
  have : 500 * (parsedM zs).length ≤ 500 * 8 := Nat.mul_le_mul_left _ (by omega)
  omega

set_option maxRecDepth 100000 in
set_option maxHeartbeats 4000000 in
theorem parsed_own (a : Option Addr) (len cap : Nat) (zs : List ByteArray) (w : World) (h : StrsAt w a len zs) (hf : Few zs) :
    Calls Tryd.prog 12 #[.slice a len cap] w fun e w' => ∃ v, e = .returned v ∧ RxOwn w.heap.size (fun k => w.heap.size ≤ k) w' v (parsedM zs) ∧ Fr none_ w w' := by
  obtain ⟨i0, hi, hz0, hz1, hz2⟩ := info_parts rx_info
  have hl : len ≤ 8 := by have := hf.1; rw [h.len_] at this; exact this
  have H := Lib.hid h
  have HF := Lib.hid hf
  clear h hf
  go_enter Tryd.func12, Tryd.ntmps12
  go_wp2_with fail
  go_loopw [3, 4] (fun x3 x4 wr => ∃ i : Nat, i ≤ len ∧ x4 = .int .i64 i ∧ Aside (RxOwn w.heap.size (fun k => w.heap.size ≤ k) wr x3 (parsedM (zs.take i))) ∧ Aside (Fr none_ w wr)) (fun _ x4 _ => len - (intOf x4).toNat)
  case atStart => exact ⟨0, Nat.zero_le _, rfl, RxOwn.nil _ _ _, Fr.refl _ _⟩
  case round =>
    obtain ⟨i, hi', rfl, hown', hfr'⟩ := hrel
    have HOWN := Lib.hid hown'.out
    have HFr := Lib.hid hfr'.out
    clear hown' hfr'
    by_cases hlt : i < len
    · obtain ⟨z, hz⟩ : ∃ z, zs[i]? = some z := ⟨zs[i]'(by rw [H.out.len_]; exact hlt), List.getElem?_eq_getElem _⟩
      obtain ⟨ad, rfl, hc⟩ := (H.out.move HFr.out).cell i z hz
      have hzs : z.size ≤ 40 := HF.out.2 z (List.mem_of_getElem? hz)
      have hil : (i : Int) < (len : Int) := by omega
      have HT := Lib.hid (show parsedM (zs.take (i + 1)) = parsedM (zs.take i) ++ (match okM z with | some r => [r] | none => []) by
        rw [List.take_add_one, hz]; exact parsedM_snoc _ _)
      clear hz
      cases hp : parseM z with
      | error n =>
        have hne : (n == 0) = false := by
          rcases parseM_err hp with rfl | rfl <;> rfl
        have HOK := Lib.hid (show okM z = none by unfold okM; rw [hp])
        have HP := Lib.hid hp
        clear hp
        go_wp2_with fail
        refine (parse_no z (by omega) n HP.out _).mono ?_
        rintro e w1 ⟨rfl, F1⟩
        have F2 := Lib.hid ((HFr.out.tr F1).alloc (.cells #[.int .i64 0, .int .u64 0, .int .u64 0, .int .u64 0, .int .u64 0, .slice none 0 0] 46))
        have HO2 := Lib.hid (HOWN.out.move (F1.alloc (.cells #[.int .i64 0, .int .u64 0, .int .u64 0, .int .u64 0, .int .u64 0, .slice none 0 0] 46)) (fun _ _ _ h => h) (fun _ _ _ h => h))
        clear F1
        go_wp2_with fail
        go_roundw
        case rel => exact ⟨i + 1, by omega, by go_num, by rw [HT.out, HOK.out, List.append_nil]; exact HO2.out, F2.out⟩
        case measure => simp [intOf]; omega
      | ok r =>
        obtain ⟨k, b0, b1, b2, b3, kids⟩ := r
        have HOK := Lib.hid (show okM z = some (.mk k b0 b1 b2 b3 kids) by unfold okM; rw [hp])
        have HP := Lib.hid hp
        clear hp
        have hwl : (parsedM (zs.take i)).length ≤ 8 := by
          have := parsedM_length (zs.take i)
          simp only [List.length_take] at this
          omega
        go_wp2_with fail
        refine (parse_ok z (by omega) _ HP.out _).mono ?_
        rintro e w1 ⟨v, rfl, hv, F1⟩
        obtain ⟨va, vcap, rfl, hvc, hvl⟩ := hv.open_
        have F2 := Lib.hid ((HFr.out.tr F1).alloc (.cells #[.int .i64 k, .int .u64 b0, .int .u64 b1, .int .u64 b2, .int .u64 b3, .slice va kids.length vcap] 46))
        have HO2 := HOWN.out.move (F1.alloc (.cells #[.int .i64 k, .int .u64 b0, .int .u64 b1, .int .u64 b2, .int .u64 b3, .slice va kids.length vcap] 46)) (fun _ _ _ h => h) (fun _ _ _ h => h)
        have HVL := Lib.hid (RxL.move (w' := w1.alloc (.cells #[.int .i64 k, .int .u64 b0, .int .u64 b1, .int .u64 b2, .int .u64 b3, .slice va kids.length vcap] 46)) (fun i _ hlt => Below.heap_alloc _ _ _ hlt) _ _ _ hvl)
        obtain ⟨z0, z1, z2, z3, z4, z5⟩ := six (alloc_new w1 (.cells #[.int .i64 k, .int .u64 b0, .int .u64 b1, .int .u64 b2, .int .u64 b3, .slice va kids.length vcap] 46))
        have hs1 : (w1.alloc (.cells #[.int .i64 k, .int .u64 b0, .int .u64 b1, .int .u64 b2, .int .u64 b3, .slice va kids.length vcap] 46)).heap.size = w1.heap.size + 1 := by simp
        have hww : w.heap.size ≤ wr.heap.size := HFr.out.size
        have hw1 : wr.heap.size ≤ w1.heap.size := F1.size
        obtain ⟨c0, h0, _⟩ := HOWN.out
        have HUB := Lib.hid (show ∀ i, u3.ownBlock = some i → w.heap.size ≤ i ∧ i < wr.heap.size from fun i hi => h0.lt i hi)
        obtain ⟨cells, hrow, hels⟩ := HO2
        have HROW := Lib.hid hrow
        have HELS := Lib.hid hels
        clear F1 hv hvl hrow hels h0
        go_wp2_with (at_builtin; refine wpList_append_lies _ rfl (.tmp 23) (.tmp 25) 33 rfl w.heap.size 46 i0 _ 6 64 Tryd.underlying33 hi hz0 hz1 hz2 rfl (by decide) _ (parsedM (zs.take i)).length cells rfl (HROW.out.alloc _) ⟨w1.heap.size + 1, 0, none⟩ 1 1 [.int .i64 k, .int .u64 b0, .int .u64 b1, .int .u64 b2, .int .u64 b3, .slice va kids.length vcap] rfl rfl (getElem_block (alloc_new2 w1 _ _).2) ?c1 (by decide) ?c2 ?c3 ?c4 (w1.heap.size + 2) (by simp) ?_)
        case c1 => simp [Value.oneCell']
        case c2 => unfold maxLen; omega
        case c3 => omega
        case c4 => simp; omega
        intro g gcap w2 hown2 hgrow2 hat2 hlt2
        have PU := RxOwn.push (B := w.heap.size) (ok := fun k => w.heap.size ≤ k) HROW.out HELS.out hvc (RxL.mono (fun i hi => ⟨by omega, fun e => by have := (HUB.out i e.symm).2; omega⟩) _ _ _ HVL.out) hown2 hgrow2 (by rw [hs1]; simpa using hat2)
        have HP1 := Lib.hid PU.1
        have HP2 := Lib.hid (F2.out.trans PU.2 (fun i hi hs => by omega))
        clear PU hown2 hgrow2 hat2 hlt2 z0 z1 z2 z3 z4 z5
        go_wp2_with fail
        go_roundw
        case rel =>
          refine ⟨i + 1, by omega, by go_num, ?_, HP2.out⟩
          rw [HT.out, HOK.out]
          exact HP1.out
        case measure => simp [intOf]; omega
    · obtain rfl : i = len := by omega
      have htk : zs.take i = zs := List.take_of_length_le (by rw [H.out.len_]; exact Nat.le_refl _)
      rw [htk] at HOWN
      go_wp2_with fail
      go_ret
      exact ⟨_, rfl, HOWN.out, HFr.out⟩
theorem parsed_any (a : Option Addr) (len cap : Nat) (zs : List ByteArray) (w : World) (h : StrsAt w a len zs) (hf : Few zs) :
    Calls Tryd.prog 12 #[.slice a len cap] w fun e w' => ∃ a' cap', e = .returned (.slice a' (parsedM zs).length cap') ∧ (parsedM zs).length ≤ cap' ∧ RxL (fun k => w.heap.size ≤ k) w' a' 0 (parsedM zs) ∧ Fr none_ w w' := by
  refine (parsed_own a len cap zs w h hf).mono ?_
  rintro e w' ⟨v, rfl, h1, h2⟩
  obtain ⟨a', cap', rfl, h3, h4⟩ := h1.rows
  exact ⟨a', cap', rfl, h3, RxL.mono (fun k hk => by rcases hk with hk | hk <;> exact hk) _ _ _ h4, h2⟩
end Go.Proofs.YtglflmkkecephaaDoor
