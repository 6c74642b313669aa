/-
  Where what a regex matches ends: plain facts.
-/
import Derived.Test.YtgpmbkgedhcbjaaRu
namespace Go.Proofs.Ytgpmbkgedhcbjaa

def sub (bs : List Nat) (i j : Nat) : List Nat := (bs.drop i).take (j - i)
theorem sub_cat {bs : List Nat} {i k j : Nat} (h1 : i ≤ k) (h2 : k ≤ j) : sub bs i j = sub bs i k ++ sub bs k j := by
  unfold sub
  have e : j - i = (k - i) + (j - k) := by omega
  rw [e, List.take_add, List.drop_drop]
  congr 3
  omega
theorem sub_length {bs : List Nat} {i j : Nat} (h : j ≤ bs.length) (hij : i ≤ j) : (sub bs i j).length = j - i := by
  unfold sub
  rw [List.length_take, List.length_drop]
  omega
theorem sub_split {bs a b : List Nat} {i j : Nat} (h1 : i ≤ j) (h2 : j ≤ bs.length) (h : sub bs i j = a ++ b) : ∃ k, i ≤ k ∧ k ≤ j ∧ a = sub bs i k ∧ b = sub bs k j := by
  have hl := sub_length h2 h1
  rw [h, List.length_append] at hl
  refine ⟨i + a.length, by omega, by omega, ?_, ?_⟩
  · have h3 := sub_cat (bs := bs) (i := i) (k := i + a.length) (j := j) (by omega) (by omega)
    rw [h] at h3
    exact (List.append_inj h3 (by rw [sub_length (by omega) (by omega)]; omega)).1
  · have h3 := sub_cat (bs := bs) (i := i) (k := i + a.length) (j := j) (by omega) (by omega)
    rw [h] at h3
    exact (List.append_inj h3 (by rw [sub_length (by omega) (by omega)]; omega)).2
theorem sub_self (bs : List Nat) (i : Nat) : sub bs i i = [] := by simp [sub]
theorem sub_one {bs : List Nat} {i b : Nat} (h : bs[i]? = some b) : sub bs i (i + 1) = [b] := by
  unfold sub
  have hi := (List.getElem?_eq_some_iff.1 h).1
  rw [List.drop_eq_getElem_cons hi, show i + 1 - i = 1 by omega]
  simp [(List.getElem?_eq_some_iff.1 h).2]
theorem sub_all (bs : List Nat) : sub bs 0 bs.length = bs := by simp [sub]

/-- Places in a text, rising, each once. -/
structure Places (n : Nat) (F : List Int) : Prop where
  sorted : F.Pairwise (· < ·)
  range : ∀ x ∈ F, 0 ≤ x ∧ x ≤ n
theorem Places.length {n : Nat} {F : List Int} (h : Places n F) : F.length ≤ n + 1 := by
  have hn : F.Nodup := h.sorted.imp (fun hab => by omega)
  have hs := hn.length_le_of_subset (l₂ := (List.range (n + 1)).map fun (i : Nat) => (i : Int)) (fun x hx => by
    have := h.range x hx
    exact List.mem_map.2 ⟨x.toNat, List.mem_range.2 (by omega), by omega⟩)
  simpa using hs
/-- Where what is of a kind ends, from some places on. -/
def EndsR (P : List Nat → Prop) (bs : List Nat) (F L : List Int) : Prop :=
  ∀ x : Int, x ∈ L ↔ ∃ i j : Nat, (i : Int) ∈ F ∧ x = j ∧ i ≤ j ∧ j ≤ bs.length ∧ P (sub bs i j)
theorem EndsR.congr {P Q : List Nat → Prop} {bs : List Nat} {F L : List Int} (h : EndsR P bs F L) (hpq : ∀ s, P s ↔ Q s) : EndsR Q bs F L := by
  intro x
  rw [h x]
  constructor
  · rintro ⟨i, j, h1, h2, h3, h4, h5⟩; exact ⟨i, j, h1, h2, h3, h4, (hpq _).1 h5⟩
  · rintro ⟨i, j, h1, h2, h3, h4, h5⟩; exact ⟨i, j, h1, h2, h3, h4, (hpq _).2 h5⟩
theorem ends_empty {bs : List Nat} {F : List Int} (h : Places bs.length F) : EndsR (fun s => s = []) bs F F := by
  intro x
  constructor
  · intro hx
    have := h.range x hx
    exact ⟨x.toNat, x.toNat, by rw [show (x.toNat : Int) = x by omega]; exact hx, by omega, Nat.le_refl _, by omega, sub_self _ _⟩
  · rintro ⟨i, j, h1, rfl, h3, h4, h5⟩
    have := sub_length h4 h3
    rw [h5] at this
    simp at this
    obtain rfl : i = j := by omega
    exact h1
theorem ends_none {bs : List Nat} {F : List Int} : EndsR (fun _ => False) bs F [] := by
  intro x
  simp
/-- One byte on. -/
def byteM (r : Rx) (bs : List Nat) (F : List Int) : List Int := F.filterMap fun x => if 0 ≤ x then match bs[x.toNat]? with | some b => if r.has b then some (x + 1) else none | none => none else none
theorem byteM_snoc (r : Rx) (bs : List Nat) (F : List Int) (x : Int) : byteM r bs (F ++ [x]) = byteM r bs F ++ byteM r bs [x] := by simp [byteM]
theorem byteM_length (r : Rx) (bs : List Nat) (F : List Int) : (byteM r bs F).length ≤ F.length := List.length_filterMap_le _ _
theorem mem_byteM {r : Rx} {bs : List Nat} {F : List Int} {y : Int} : y ∈ byteM r bs F ↔ ∃ (i b : Nat), (i : Int) ∈ F ∧ bs[i]? = some b ∧ r.has b = true ∧ y = i + 1 := by
  simp only [byteM, List.mem_filterMap]
  constructor
  · rintro ⟨x, hx, h⟩
    split at h
    · rename_i h0
      obtain ⟨i, rfl⟩ := Int.eq_ofNat_of_zero_le h0
      rw [Int.toNat_natCast] at h
      cases hb : bs[i]? with
      | none => rw [hb] at h; simp at h
      | some b =>
        rw [hb] at h
        simp only [] at h
        split at h
        · rename_i hh
          exact ⟨i, b, hx, hb, hh, by simpa using h.symm⟩
        · simp at h
    · simp at h
  · rintro ⟨i, b, hi, hb, hh, rfl⟩
    refine ⟨i, hi, ?_⟩
    simp [hb, hh]
theorem byteM_places {r : Rx} {bs : List Nat} {F : List Int} (h : Places bs.length F) : Places bs.length (byteM r bs F) := by
  constructor
  · refine List.Pairwise.filterMap _ (fun a b hab x hx y hy => ?_) h.sorted
    have e : ∀ (a x : Int), x ∈ (if 0 ≤ a then match bs[a.toNat]? with | some b => if r.has b then some (a + 1) else none | none => none else none : Option Int) → x = a + 1 := by
      intro a x hx
      split at hx
      · split at hx
        · split at hx
          · simpa using hx.symm
          · simp at hx
        · simp at hx
      · simp at hx
    have := e a x hx
    have := e b y hy
    omega
  · intro x hx
    obtain ⟨i, b, _, hb, _, rfl⟩ := mem_byteM.1 hx
    have := (List.getElem?_eq_some_iff.1 hb).1
    omega
theorem ends_bytes {r : Rx} {bs : List Nat} {F : List Int} : EndsR (fun s => ∃ b, s = [b] ∧ r.has b = true) bs F (byteM r bs F) := by
  intro x
  rw [mem_byteM]
  constructor
  · rintro ⟨i, b, h1, h2, h3, rfl⟩
    have hi := (List.getElem?_eq_some_iff.1 h2).1
    exact ⟨i, i + 1, h1, by omega, by omega, by omega, b, sub_one h2, h3⟩
  · rintro ⟨i, j, h1, rfl, h3, h4, b, h5, h6⟩
    have hl := sub_length h4 h3
    rw [h5] at hl
    simp at hl
    obtain rfl : j = i + 1 := by omega
    have hi : i < bs.length := by omega
    have hb : bs[i]? = some bs[i] := List.getElem?_eq_getElem hi
    rw [sub_one hb] at h5
    simp at h5
    exact ⟨i, b, h1, by rw [hb, h5], h6, by omega⟩
theorem ends_cat {P Q : List Nat → Prop} {bs : List Nat} {F M L : List Int} (h1 : EndsR P bs F M) (h2 : EndsR Q bs M L) : EndsR (fun s => ∃ a b, s = a ++ b ∧ P a ∧ Q b) bs F L := by
  intro x
  rw [h2 x]
  constructor
  · rintro ⟨k, j, hk, rfl, hkj, hj, hq⟩
    obtain ⟨i, k', hi, hkk, hik, hk', hp⟩ := (h1 k).1 hk
    obtain rfl : k = k' := by omega
    exact ⟨i, j, hi, rfl, by omega, hj, _, _, sub_cat hik hkj, hp, hq⟩
  · rintro ⟨i, j, hi, rfl, hij, hj, a, b, hab, hp, hq⟩
    obtain ⟨k, h3, h4, rfl, rfl⟩ := sub_split hij hj hab
    exact ⟨k, j, (h1 k).2 ⟨i, k, hi, rfl, h3, by omega, hp⟩, rfl, h4, hj, hq⟩
theorem ends_alt {P Q : List Nat → Prop} {bs : List Nat} {F M N : List Int} (h1 : EndsR P bs F M) (h2 : EndsR Q bs F N) : EndsR (fun s => P s ∨ Q s) bs F (unionM M N) := by
  intro x
  rw [(union_facts M N).2 x, h1 x, h2 x]
  constructor
  · rintro (⟨i, j, a, b, c, d, e⟩ | ⟨i, j, a, b, c, d, e⟩)
    · exact ⟨i, j, a, b, c, d, .inl e⟩
    · exact ⟨i, j, a, b, c, d, .inr e⟩
  · rintro ⟨i, j, a, b, c, d, e | e⟩
    · exact .inl ⟨i, j, a, b, c, d, e⟩
    · exact .inr ⟨i, j, a, b, c, d, e⟩
theorem EndsR.range {P : List Nat → Prop} {bs : List Nat} {F L : List Int} (h : EndsR P bs F L) : ∀ x ∈ L, 0 ≤ x ∧ x ≤ bs.length := by
  intro x hx
  obtain ⟨i, j, _, rfl, _, hj, _⟩ := (h x).1 hx
  omega
theorem union_places {n : Nat} {A B : List Int} (hA : ∀ x ∈ A, 0 ≤ x ∧ x ≤ n) (hB : ∀ x ∈ B, 0 ≤ x ∧ x ≤ n) : Places n (unionM A B) :=
  ⟨(union_facts A B).1, fun x hx => by
    rcases ((union_facts A B).2 x).1 hx with h | h
    · exact hA x h
    · exact hB x h⟩

/-- On the way to all that any number of times comes to. -/
structure StarTo (P : List Nat → Prop) (bs : List Nat) (F A : List Int) : Prop where
  places : Places bs.length A
  from_ : ∀ x ∈ F, x ∈ A
  sound : ∀ x ∈ A, ∃ i j : Nat, (i : Int) ∈ F ∧ x = j ∧ i ≤ j ∧ j ≤ bs.length ∧ Star P (sub bs i j)
theorem Star.snoc {P : List Nat → Prop} {a b : List Nat} (h : Star P a) (hb : P b) : Star P (a ++ b) := by
  induction h with
  | nil => simpa using Star.cons b [] hb .nil
  | cons x y hx _ ih => rw [List.append_assoc]; exact .cons x _ hx ih
theorem StarTo.start {P : List Nat → Prop} {bs : List Nat} {F : List Int} (h : Places bs.length F) : StarTo P bs F F :=
  ⟨h, fun _ h => h, fun x hx => by
    have := h.range x hx
    exact ⟨x.toNat, x.toNat, by rw [show (x.toNat : Int) = x by omega]; exact hx, by omega, Nat.le_refl _, by omega, by rw [sub_self]; exact .nil⟩⟩
theorem StarTo.step {P : List Nat → Prop} {bs : List Nat} {F A E : List Int} (h : StarTo P bs F A) (he : EndsR P bs A E) : StarTo P bs F (unionM A E) := by
  refine ⟨union_places h.places.range he.range, fun x hx => ((union_facts A E).2 x).2 (.inl (h.from_ x hx)), fun x hx => ?_⟩
  rcases ((union_facts A E).2 x).1 hx with hx | hx
  · exact h.sound x hx
  · obtain ⟨k, j, hk, rfl, hkj, hj, hp⟩ := (he x).1 hx
    obtain ⟨i, k', hi, hkk, hik, _, hst⟩ := h.sound k hk
    obtain rfl : k = k' := by omega
    exact ⟨i, j, hi, rfl, by omega, hj, by rw [sub_cat hik hkj]; exact hst.snoc hp⟩
/-- Where nothing is added it is all. -/
theorem StarTo.done {P : List Nat → Prop} {bs : List Nat} {F A : List Int} (h : StarTo P bs F A) (hF : Places bs.length F) (hc : ∀ (k j : Nat), (k : Int) ∈ A → k ≤ j → j ≤ bs.length → P (sub bs k j) → (j : Int) ∈ A) : EndsR (Star P) bs F A := by
  intro x
  constructor
  · exact h.sound x
  · rintro ⟨i, j, hi, rfl, hij, hj, hs⟩
    have key : ∀ s, Star P s → ∀ i : Nat, (i : Int) ∈ A → i ≤ j → sub bs i j = s → (j : Int) ∈ A := by
      intro s hs
      induction hs with
      | nil =>
        intro i hi hij he
        have := sub_length hj hij
        rw [he] at this
        simp at this
        obtain rfl : i = j := by omega
        exact hi
      | cons a b ha _ ih =>
        intro i hi hij he
        obtain ⟨k, h3, h4, rfl, rfl⟩ := sub_split hij hj he
        exact ih k (hc i k hi h3 (by omega) ha) h4 rfl
    exact key _ hs i (h.from_ _ hi) hij rfl
theorem StarTo.closed {P : List Nat → Prop} {bs : List Nat} {F A E : List Int} (h : StarTo P bs F A) (hF : Places bs.length F) (he : EndsR P bs A E) (hl : (unionM A E).length ≤ A.length) : EndsR (Star P) bs F (unionM A E) := by
  have hU := (h.step he).places
  have hsub : ∀ x ∈ unionM A E, x ∈ A := by
    intro x hx
    refine Classical.byContradiction fun hn => ?_
    have hnd : (x :: A).Nodup := List.nodup_cons.2 ⟨hn, h.places.sorted.imp (fun hab => by omega)⟩
    have := hnd.length_le_of_subset (l₂ := unionM A E) (fun y hy => by
      rcases List.mem_cons.1 hy with rfl | hy
      · exact hx
      · exact ((union_facts A E).2 y).2 (.inl hy))
    simp at this
    omega
  refine (h.step he).done hF fun k j hk hkj hj hp => ?_
  exact ((union_facts A E).2 _).2 (.inr ((he j).2 ⟨k, j, hsub _ hk, rfl, hkj, hj, hp⟩))

theorem catL_snoc (ks : List Rx) (k : Rx) (s : List Nat) : catL (ks ++ [k]) s ↔ ∃ a b, s = a ++ b ∧ catL ks a ∧ k.lang b := by
  induction ks generalizing s with
  | nil =>
    simp only [List.nil_append, catL]
    constructor
    · rintro ⟨a, b, rfl, ha, rfl⟩; exact ⟨[], a, by simp, rfl, ha⟩
    · rintro ⟨a, b, rfl, rfl, hb⟩; exact ⟨b, [], by simp, hb, rfl⟩
  | cons q ks ih =>
    simp only [List.cons_append, catL]
    constructor
    · rintro ⟨a, b, rfl, ha, hb⟩
      obtain ⟨c, d, rfl, hc, hd⟩ := (ih b).1 hb
      exact ⟨a ++ c, d, by simp, ⟨a, c, rfl, ha, hc⟩, hd⟩
    · rintro ⟨a, b, rfl, ⟨c, d, rfl, hc, hd⟩, hb⟩
      exact ⟨c, d ++ b, by simp, hc, (ih _).2 ⟨d, b, rfl, hd, hb⟩⟩
theorem altL_snoc (ks : List Rx) (k : Rx) (s : List Nat) : altL (ks ++ [k]) s ↔ altL ks s ∨ k.lang s := by
  induction ks with
  | nil => simp [altL]
  | cons q ks ih => simp only [List.cons_append, altL, ih]; exact or_assoc.symm
end Go.Proofs.Ytgpmbkgedhcbjaa
