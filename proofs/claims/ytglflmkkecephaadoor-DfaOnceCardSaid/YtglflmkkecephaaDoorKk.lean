/-
  The builder of an automaton: the number of a set of states.
-/
import Derived.Test.YtglflmkkecephaaDoorKj
import Derived.Lib.ItoaMem
namespace Go.Proofs.YtglflmkkecephaaDoor
open Go.RowKit
open Go.Maps

/-- The table that strconv reads. -/
def PowOk (w : World) : Prop := Lib.TabIs Tryd.prog w "internal/strconv.uint64pow10" .u64 Lib.pow10Tab
theorem PowOk.move {w w' : World} (h : PowOk w) (hf : Fr none_ w w') : PowOk w' := by
  unfold PowOk Lib.TabIs World.var? at h ⊢
  cases hg : Tryd.prog.globalNamed "internal/strconv.uint64pow10" with
  | none => rw [hg] at h; simp at h
  | some g =>
    rw [hg] at h
    simp only [Option.bind_some] at h ⊢
    cases hb : w.heap[g]? with
    | none => rw [hb] at h; simp at h
    | some o => rw [hb] at h; rw [hf.at_ hb (fun h => h)]; exact h
theorem Fr.grow {S : Nat → Prop} {a w : World} (h : Fr S a w) (os : Array Obj) : Fr S a (Go.Sort.grow w os) :=
  ⟨h.os, h.tape, h.output, Nat.le_trans h.size (by simp [Go.Sort.grow]), fun k hk hn => by
    rw [← h.block k hk hn]
    have := h.size
    simp only [Go.Sort.grow]
    rw [Array.getElem?_append_left (by omega)]⟩
theorem itoa_any (n : Nat) (hn : n ≤ 100000) (w : World) (hp : PowOk w) :
    Calls Tryd.prog 47 #[.int .i64 (n : Int)] w fun e w' => e = .returned (.string ⟨(Lib.decDigits n).toArray⟩) ∧ Fr none_ w w' := by
  refine (Tryd.strconv_Itoa (n : Int) (by omega) (by omega) w hp).mono ?_
  rintro e w' ⟨rfl, k, os, rfl⟩
  rw [Lib.itoa_nonneg]
  exact ⟨rfl, ((Fr.refl none_ w).drewN k).grow os⟩
theorem nDigits_le (u : Nat) : Lib.nDigits u ≤ u + 1 := by
  induction u using Nat.strongRecOn with
  | _ u ih =>
    by_cases h : u < 10
    · rw [Lib.nDigits_small h]; omega
    · rw [Lib.nDigits_big h]; have := ih (u / 10) (by omega); omega
theorem keyS_len (A : List Nat) (h : ∀ n ∈ A, n ≤ 100000) : (keyS A).length ≤ 100002 * A.length := by
  induction A with
  | nil => simp [keyS]
  | cons a A ih =>
    have h1 := ih (fun n hn => h n (by simp [hn]))
    have h2 := h a (by simp)
    have h3 := nDigits_le a
    have e : (keyS (a :: A)).length = Lib.nDigits a + 1 + (keyS A).length := by
      simp [keyS, Lib.decDigits_length]; omega
    rw [e, List.length_cons]
    omega
def keyB (A : List Nat) : ByteArray := ⟨(keyS A).toArray⟩
theorem keyB_size (A : List Nat) : (keyB A).size = (keyS A).length := by show (keyS A).toArray.size = _; simp
theorem keyB_snoc (A : List Nat) (n : Nat) : keyB (A ++ [n]) = keyB A ++ ((⟨(Lib.decDigits n).toArray⟩ : ByteArray) ++ ⟨#[32]⟩) := by
  unfold keyB
  rw [keyS_snoc]
  apply ByteArray.ext
  simp [ByteArray.data_append]
def keyL (A : List Nat) : Lit := .string (keyS A)
theorem str_law : Keyed Tryd.prog 9 := string_keyed Tryd.underlying9
theorem keyL_some (A : List Nat) (h : (keyS A).length ≤ maxLen) : Go.keyOf Tryd.prog 9 (.string (keyB A)) = some (keyL A) := by
  have := WideMaps.keyOf_string_mk (P := Tryd.prog) Tryd.underlying9 (s := keyB A) (by rw [keyB_size]; exact h)
  rw [this]
  simp [keyL, keyB]
theorem keyL_inj (A B : List Nat) (h : keyL A = keyL B) : A = B := keyS_inj (by simpa [keyL] using h)

/-- The builder, in memory. -/
structure BldD (w : World) (B d dm mb : Nat) (sv : Value) (vs : List Value) (D : DataW Unit) (sets : List (List Nat)) : Prop where
  blk : w.heap[d]? = some (.cells #[.pointer (some ⟨dm, 0, none⟩), .map (some mb), sv] 63 (0, 0))
  map : w.ownsMap Tryd.prog 9 (plainElem (H := Unit) Tryd.prog 3) mb sets.length D
  is_ : MapIs keyL (fun A => (keyS A).length ≤ maxLen) D sets
  row : w.ownsRow B 52 1 sv sets.length vs
  at_ : ∀ (i : Nat) (A : List Nat), sets[i]? = some A → ∃ v, vs[i]? = some v ∧ IntsAt w v (ints A)
  hd : B ≤ d
  hm : B ≤ mb
/-- What of the builder may turn. -/
def bldS (d mb : Nat) (sv : Value) : Nat → Prop := fun k => k = d ∨ k = mb ∨ sv.ownBlock = some k
theorem BldD.move {w w' : World} {B d dm mb : Nat} {sv : Value} {vs : List Value} {D : DataW Unit} {sets : List (List Nat)} (h : BldD w B d dm mb sv vs D sets) (hf : Fr none_ w w') : BldD w' B d dm mb sv vs D sets :=
  ⟨hf.at_ h.blk (fun h => h), ownsMap_at h.map (hf.block mb h.map.lt (fun h => h)), h.is_, ownsRow_same h.row (fun b hb => hf.block b (h.row.lt b hb).2 (fun h => h)),
   fun i A hA => (h.at_ i A hA).elim fun v h1 => ⟨v, h1.1, h1.2.move hf⟩, h.hd, h.hm⟩
/-- Numbers that lie elsewhere stay while the builder turns. -/
theorem IntsAt.over {w w' : World} {B d dm mb : Nat} {sv : Value} {vs : List Value} {D : DataW Unit} {sets : List (List Nat)} (h : BldD w B d dm mb sv vs D sets) (hf : Fr (bldS d mb sv) w w') {v : Value} {A : List Int} (hv : IntsAt w v A) : IntsAt w' v A := by
  obtain ⟨b, hv⟩ := hv
  refine ⟨b, ?_⟩
  refine ⟨hv.1, ?_⟩
  rcases hv.2 with h1 | ⟨g, cap, cur, e1, e2, e3, e4⟩
  · exact .inl h1
  · refine .inr ⟨g, cap, cur, e1, e2, ?_, e4⟩
    refine (hf.block g (lt_of_block e3) ?_).trans e3
    rintro (rfl | rfl | hk)
    · rw [h.blk] at e3; simp at e3
    · obtain ⟨es, clock, hb, _⟩ := h.map
      rw [hb] at e3; simp at e3
    · rcases h.row.2 with ⟨h2, _⟩ | ⟨g2, cap2, cur2, f1, _, f3, _⟩
      · rw [h2] at hk; simp [Value.ownBlock] at hk
      · rw [f1] at hk
        simp only [Value.ownBlock, Option.some.injEq] at hk
        subst hk
        rw [f3] at e3
        simp at e3

set_option maxRecDepth 100000 in
set_option maxHeartbeats 2000000 in
theorem number_none (d : Nat) (v : Value) (w : World) (hv : IntsAt w v []) :
    Calls Tryd.prog 25 #[.pointer (some ⟨d, 0, none⟩), v] w fun e w' => e = .returned (.int .i64 (-1)) ∧ w = w' := by
  obtain ⟨a, cap, rfl, hc⟩ := hv.slice
  clear hv
  go_enter Tryd.func25, Tryd.ntmps25
  go_wp2_with fail
  go_ret
  exact ⟨rfl, rfl⟩
end Go.Proofs.YtglflmkkecephaaDoor
