/-
  The law NfaSteps: step by step it is where it is behind all.
-/
import Derived.Test.YtgpmbkgedhcbjaaNqb
import Derived.Test.YtgpmbkgedhcbjaaNu
namespace Go.Proofs.Ytgpmbkgedhcbjaa
open Go.RowKit

def oddM (zs : List Int) : List Int := zs.filter fun z => decide (z < 0) || decide (1073741824 < z)
theorem oddM_snoc (zs : List Int) (z : Int) : oddM (zs ++ [z]) = oddM zs ++ (if z < 0 ∨ 1073741824 < z then [z] else []) := by
  simp only [oddM, List.filter_append]
  congr 1
  by_cases h : z < 0 ∨ 1073741824 < z
  · simp [h]
  · simp [h]
theorem oddM_length (zs : List Int) : (oddM zs).length ≤ zs.length := List.length_filter_le _ _
theorem mem_far {l : List St} (hl : l.length ≤ 100000) (A O : List Int) (x : Int) (h0 : 0 ≤ x) (h1 : x < l.length) : x ∈ A ++ oddM O ++ A ↔ x ∈ A := by
  simp only [List.mem_append, oddM, List.mem_filter, Bool.or_eq_true, decide_eq_true_eq]
  constructor
  · rintro ((h | h) | h)
    · exact h
    · omega
    · exact h
  · exact fun h => .inr h
theorem tags_far {l : List St} (hl : l.length ≤ 100000) (A O : List Int) : tagsM l (A ++ oddM O ++ A) = tagsM l A :=
  tags_congr l _ _ (mem_far hl A O)
theorem step_far {l : List St} (hl : l.length ≤ 100000) (A O : List Int) (b : Nat) : stepM l (A ++ oddM O ++ A) b = stepM l A b := by
  refine closed_congr l _ _ fun x => ?_
  have key : ∀ (B : List Int), x ∈ stepW l B b ↔ ∃ n s, n ∈ B ∧ 0 ≤ n ∧ n < l.length ∧ l[n.toNat]? = some s ∧ s.bytes.has b = true ∧ x = s.to := by
    intro B
    simp only [stepW, List.mem_filterMap]
    constructor
    · rintro ⟨n, hn, h⟩
      split at h
      · rename_i h0
        cases hs : l[n.toNat]? with
        | none => rw [hs] at h; simp at h
        | some s =>
          rw [hs] at h
          simp only [] at h
          split at h
          · rename_i hb
            have := lt_of_some hs
            exact ⟨n, s, hn, h0, by omega, hs, hb, by simpa using h.symm⟩
          · simp at h
      · simp at h
    · rintro ⟨n, s, hn, h0, _, hs, hb, rfl⟩
      refine ⟨n, hn, ?_⟩
      rw [if_pos h0, hs]
      simp [hb]
  rw [key, key]
  constructor
  · rintro ⟨n, s, hn, h0, h1, h2⟩
    exact ⟨n, s, (mem_far hl A O n h0 h1).1 hn, h0, h1, h2⟩
  · rintro ⟨n, s, hn, h0, h1, h2⟩
    exact ⟨n, s, (mem_far hl A O n h0 h1).2 hn, h0, h1, h2⟩
theorem bytesN_extract (s : ByteArray) (i : Nat) (h : i ≤ s.size) : bytesN (s.extract 0 i) = (bytesN s).take i := by
  simp [bytesN, ByteArray.data_extract, List.map_take]
theorem at_sorted (l : List St) (starts : List Nat) (bs : List Nat) : (atM l starts bs).Pairwise (· < ·) := by
  obtain ⟨W, h⟩ := at_closed l starts bs
  rw [h]; exact closed_sorted l W
theorem sorted_at {A : List Nat} (h : A.Pairwise (· < ·)) {i : Nat} {x y : Int} (hx : (ints A)[i]? = some x) (hy : (ints A)[i + 1]? = some y) : x < y := by
  simp only [ints, List.getElem?_map, Option.map_eq_some_iff] at hx hy
  obtain ⟨a, ha, rfl⟩ := hx
  obtain ⟨b, hb, rfl⟩ := hy
  have h1 := (List.getElem?_eq_some_iff.1 ha)
  have h2 := (List.getElem?_eq_some_iff.1 hb)
  obtain ⟨i1, e1⟩ := h1
  obtain ⟨i2, e2⟩ := h2
  have := List.pairwise_iff_getElem.1 h i (i + 1) i1 i2 (by omega)
  omega

/-- 'append(v, x...)' of a row of whole numbers, nil or not. -/
theorem wpList_append_ints {P : Program} (w : World) {ops : Array Oper} {rest : List Oper} {o : Oper} {a : Act} {Q : Exit → Act → World → Prop} (hgd : o.guard = none) (s x : Operand) (t : TypeId)
    (ho : o.op = .call { callee := .builtin .append, args := #[s, x], argTypes := #[t, t] })
    (base : Nat) (e : TypeId) (i : TypeInfo) (z : Value) (bytes : Nat) (ht : P.underlying t = some (.slice e)) (hi : P.info? e = some i) (hz : i.zero = some z)
    (hsize : i.size = 1) (hby : i.bytes = bytes) (hzs : z.cells.size = 1)
    (v : Value) (n : Nat) (xs : List Value) (hs : a.eval s = v) (hown : w.ownsRow base e 1 v n xs)
    (xv : Value) (B : List Int) (base2 : Nat) (hx : a.eval x = xv) (hI : w.ownsRow base2 e 1 xv B.length (intsV B))
    (h63 : n + B.length ≤ maxLen) (hbytes : (n + B.length) * bytes ≤ 140737488355328) (hbase : base ≤ w.heap.size)
    (h : ∀ v' w', w'.ownsRow base e 1 v' (n + B.length) (xs ++ intsV B) → w.grownBy w' v.ownBlock → wpList P ops Q rest (a.put o.dst v') w') : wpList P ops Q (o :: rest) a w := by
  have hI2 := hI
  rcases hI.2 with ⟨rfl, hn0⟩ | ⟨g, cap, cur, rfl, _⟩
  · have hB : B = [] := List.eq_nil_of_length_eq_zero hn0
    subst hB
    refine wpList_append_own_none hgd s x t ho base e i 1 ht hi v n xs hs hown hx ?_
    refine h v w ?_ ⟨rfl, rfl, rfl, Nat.le_refl _, fun _ _ _ => rfl⟩
    simpa [intsV] using hown
  · refine wpList_append_own w hgd s x t ho base e i z 1 bytes ht hi hz hsize hby hzs (by decide) v n xs hs hown ⟨g, 0, none⟩ B.length cap (intsV B) hx (by rw [intsV_length, Nat.mul_one]) (hI2.cells rfl) ?_ h63 hbytes hbase (fun v' w' h1 h2 _ => h v' w' h1 h2)
    intro u hu
    simp only [intsV, List.mem_map] at hu
    obtain ⟨n, _, rfl⟩ := hu
    rfl
end Go.Proofs.Ytgpmbkgedhcbjaa
