/-
  A machine that was built of regexes: a text's numbers are those of the regexes that match it.
-/
import Derived.Test.YtjbmppbciiemkaaNt
import Derived.Test.YtjbmppbciiemkaaNA
namespace Go.Proofs.Ytjbmppbciiemkaa set_option linter.unusedVariables false set_option linter.unusedSimpArgs false

/-- What a machine of regexes is. -/
structure Built (rs : List Rx) (G : List St) (starts : List Nat) : Prop where
  len : starts.length = rs.length
  each : ∀ (i : Nat) (r : Rx), rs[i]? = some r → ∃ st en fin, starts[i]? = some st ∧ Only G st en ∧ Shape G r fin en ∧ ∃ x, G[fin]? = some x ∧ x.free = [] ∧ x.bytes = Rx.zero ∧ x.tag = i
  tags : ∀ (j : Nat) (x : St), G[j]? = some x → 0 ≤ x.tag → x.free = [] ∧ x.bytes = Rx.zero ∧ x.tag < rs.length ∧ ∀ j' x', G[j']? = some x' → x'.tag = x.tag → j' = j

theorem getElem_snoc_cases {α : Type} {l : List α} {x y : α} {i : Nat} (h : (l ++ [x])[i]? = some y) : l[i]? = some y ∨ (i = l.length ∧ x = y) := by
  rcases Nat.lt_or_ge i l.length with hi | hi
  · rw [List.getElem?_append_left hi] at h; exact .inl h
  · have : i = l.length := by
      have := (List.getElem?_eq_some_iff.1 h).1
      simp at this; omega
    subst this
    exact .inr ⟨rfl, by simpa using h⟩
theorem Built.snoc {rs : List Rx} {G : List St} {starts : List Nat} (h : Built rs G starts) (r : Rx) :
    Built (rs ++ [r]) (tagM (layM r (G ++ [St.none]) G.length).1 (layM r (G ++ [St.none]) G.length).2 rs.length) (starts ++ [G.length]) := by
  have hG1 : (G ++ [St.none]).length = G.length + 1 := by simp
  obtain ⟨en, hL, hfin, hS⟩ := layM_shape r (G ++ [St.none]) G.length (by omega)
  have hk := layM_facts r (G ++ [St.none]) G.length
  rw [hk.2.2.1]
  rw [hG1] at hfin hS hk
  have hst := hL.at_ _ snoc_at
  generalize (layM r (G ++ [St.none]) G.length).1 = G2 at *
  have hlen := hL.len
  rw [hG1] at hlen
  have hold : ∀ (i : Nat) (s : St), G[i]? = some s → (tagM G2 (G.length + 1) rs.length)[i]? = some s := by
    intro i s hs
    have hi := lt_of_some hs
    rw [tagM_ne (by omega), hL.old i (by omega) (by omega), snoc_lt hi, hs]
  have hfin3 := tagM_at (tag := rs.length) hfin
  have hst3 : (tagM G2 (G.length + 1) rs.length)[G.length]? = some { St.none with free := St.none.free ++ en } := by rw [tagM_ne (by omega)]; exact hst
  rw [hG1]
  have hcases : ∀ (i : Nat) (s : St), (tagM G2 (G.length + 1) rs.length)[i]? = some s → G[i]? = some s ∨ (i = G.length + 1 ∧ s = { St.none with tag := (rs.length : Int) }) ∨ s.tag = -1 := by
    intro i s hs
    by_cases h1 : i = G.length + 1
    · subst h1
      rw [hfin3] at hs
      cases hs
      exact .inr (.inl ⟨rfl, rfl⟩)
    · rw [tagM_ne h1] at hs
      by_cases h2 : i = G.length
      · subst h2
        rw [hst] at hs
        cases hs
        exact .inr (.inr rfl)
      · rcases Nat.lt_or_ge i G.length with h3 | h3
        · rw [hL.old i h2 (by omega), snoc_lt h3] at hs
          exact .inl hs
        · exact .inr (.inr (hL.fresh i s (by omega) hs))
  refine ⟨by simp [h.len], fun i r' hr => ?_, fun j x hx h0 => ?_⟩
  · rcases getElem_snoc_cases hr with hr | ⟨rfl, rfl⟩
    · obtain ⟨st, en', fin, h1, h2, h3, x, h4, h5, h6, h7⟩ := h.each i r' hr
      exact ⟨st, en', fin, by rw [List.getElem?_append_left (List.getElem?_eq_some_iff.1 h1).1]; exact h1, h2.move (fun i s hs _ => hold i s hs), shape_move (fun i s hs _ => hold i s hs) _ _ _ h3, x, hold _ _ h4, h5, h6, h7⟩
    · refine ⟨G.length, en, G.length + 1, by rw [← h.len]; simp, ⟨_, hst3, rfl, rfl, rfl⟩, hS _ (fun i hi hlt => by rw [tagM_ne (by omega)]), _, hfin3, rfl, rfl, rfl⟩
  · rcases hcases j x hx with hj | ⟨rfl, rfl⟩ | hj
    · obtain ⟨h1, h2, h3, h4⟩ := h.tags j x hj h0
      refine ⟨h1, h2, by simp; omega, fun j' x' hx' ht => ?_⟩
      rcases hcases j' x' hx' with h' | ⟨rfl, rfl⟩ | h'
      · exact h4 j' x' h' ht
      · simp only [] at ht
        omega
      · omega
    · refine ⟨rfl, rfl, by simp; omega, fun j' x' hx' ht => ?_⟩
      rcases hcases j' x' hx' with h' | ⟨rfl, rfl⟩ | h'
      · simp only [] at ht
        have := (h.tags j' x' h' (by omega)).2.2.1
        omega
      · rfl
      · simp only [] at ht
        omega
    · omega
theorem built_take (rs : List Rx) : ∀ n, n ≤ rs.length → Built (rs.take n) (buildM (rs.take n) 0 [] []).1 (buildM (rs.take n) 0 [] []).2
  | 0, _ => by
    simp only [List.take_zero, buildM]
    exact ⟨rfl, fun i r h => by simp at h, fun j x h => by simp at h⟩
  | n + 1, hn => by
    have hk : rs[n]? = some rs[n] := List.getElem?_eq_getElem (by omega)
    have ht : rs.take (n + 1) = rs.take n ++ [rs[n]] := by rw [List.take_add_one, hk]; rfl
    have ih := (built_take rs n (by omega)).snoc rs[n]
    rw [ht, buildM_snoc]
    simpa using ih
theorem built (rs : List Rx) : Built rs (buildM rs 0 [] []).1 (buildM rs 0 [] []).2 := by
  have := built_take rs rs.length (Nat.le_refl _)
  rwa [List.take_length] at this

/-! ### Where it is behind a text. -/
theorem Moves.trans {G : List St} {t j n m i : Nat} {a b : List Nat} (h : Moves G j n i a) (k : Moves G t m j b) : Moves G t (n + m) i (a ++ b) := by
  induction h with
  | here => simpa using k
  | free n i x s hj _ ih => rw [Nat.add_right_comm]; exact .free _ _ _ _ hj ih
  | byte n i c x s st hs hb ht _ ih => rw [Nat.add_right_comm]; exact .byte _ _ _ _ _ _ hs hb ht ih
theorem Moves.lt {G : List St} {t n i : Nat} {s : List Nat} (h : Moves G t n i s) (ht : t < G.length) : i < G.length := by
  cases h with
  | here => exact ht
  | free n i j s hj h =>
    rcases Nat.lt_or_ge i G.length with hi | hi
    · exact hi
    · simp [freeOf, List.getElem?_eq_none hi] at hj
  | byte n i b j s st hs => exact lt_of_some hs
theorem closed_idem_step {G : List St} {W : List Int} {i j : Nat} (hi : i ∈ closedM G W) (hj : j ∈ freeOf G i) (hl : j < G.length) : j ∈ closedM G W :=
  (mem_closed G W j).2 (.step i j ((mem_closed G W i).1 hi) hj hl)
theorem mem_ints {l : List Nat} {n : Nat} : (n : Int) ∈ ints l ↔ n ∈ l := by
  simp only [ints, List.mem_map]
  constructor
  · rintro ⟨m, hm, e⟩
    have : m = n := by omega
    exact this ▸ hm
  · intro h; exact ⟨n, h, rfl⟩
theorem mem_stepW {G : List St} {A : List Nat} {b : Nat} {x : Int} : x ∈ stepW G (ints A) b ↔ ∃ n s, n ∈ A ∧ G[n]? = some s ∧ s.bytes.has b = true ∧ x = s.to := by
  simp only [stepW, ints, List.mem_filterMap, List.mem_map]
  constructor
  · rintro ⟨_, ⟨n, hn, rfl⟩, h⟩
    simp only [Int.natCast_nonneg, if_true, Int.toNat_natCast] at h
    cases hs : G[n]? with
    | none => rw [hs] at h; simp at h
    | some s =>
      rw [hs] at h
      simp only [] at h
      split at h
      · rename_i hb
        exact ⟨n, s, hn, hs, hb, by simpa using h.symm⟩
      · simp at h
  · rintro ⟨n, s, hn, hs, hb, rfl⟩
    refine ⟨_, ⟨n, hn, rfl⟩, ?_⟩
    simp [hs, hb]
theorem atM_snoc (G : List St) (starts : List Nat) (bs : List Nat) (b : Nat) : atM G starts (bs ++ [b]) = stepM G (ints (atM G starts bs)) b := by
  simp [atM]
theorem at_sound (G : List St) (starts : List Nat) : ∀ (n : Nat) (bs : List Nat), bs.length = n → ∀ i, i ∈ atM G starts bs → ∃ st m, st ∈ starts ∧ Moves G i m st bs
  | 0, bs, hn, i, hi => by
    obtain rfl : bs = [] := List.eq_nil_of_length_eq_zero hn
    have := (mem_closed G _ i).1 hi
    induction this with
    | base i h _ => exact ⟨i, 0, mem_ints.1 h, .here⟩
    | step i j h hj hl ih =>
      obtain ⟨st, m, h1, h2⟩ := ih ((mem_closed G _ i).2 h)
      exact ⟨st, m + 1, h1, by simpa using h2.trans (.free 0 i j [] hj .here)⟩
  | n + 1, bs, hn, i, hi => by
    rcases List.eq_nil_or_concat bs with rfl | ⟨l, b, rfl⟩
    · simp at hn
    · rw [List.concat_eq_append] at hn hi ⊢
      rw [atM_snoc] at hi
      have hl : l.length = n := by simpa using hn
      have := (mem_closed G _ i).1 hi
      induction this with
      | base i h _ =>
        obtain ⟨k, s, hk, hs, hb, ht⟩ := mem_stepW.1 h
        obtain ⟨st, m, h1, h2⟩ := at_sound G starts n l hl k hk
        exact ⟨st, m + 1, h1, h2.trans (.byte 0 k b i [] s hs hb ht.symm .here)⟩
      | step i j h hj hl ih =>
        obtain ⟨st, m, h1, h2⟩ := ih ((mem_closed G _ i).2 h)
        exact ⟨st, m + 1, h1, by simpa using h2.trans (.free 0 i j [] hj .here)⟩
theorem at_complete (G : List St) : ∀ (n t : Nat) (x : Nat) (bs : List Nat), t < G.length → Moves G t n x bs → ∀ (W : List Int), x ∈ closedM G W → t ∈ bs.foldl (fun a b => stepM G (ints a) b) (closedM G W) := by
  intro n t x bs ht h
  induction h with
  | here => intro W hx; simpa using hx
  | free n i j s hj h ih => exact fun W hx => ih W (closed_idem_step hx hj (h.lt ht))
  | byte n i b j s st hs hb hto h ih =>
    intro W hx
    simp only [List.foldl_cons]
    exact ih _ ((mem_closed G _ j).2 (.base j (mem_stepW.2 ⟨i, st, hx, hs, hb, hto.symm⟩) (h.lt ht)))
theorem mem_atM (G : List St) (starts : List Nat) (bs : List Nat) (i : Nat) (hi : i < G.length) : i ∈ atM G starts bs ↔ ∃ st m, st ∈ starts ∧ Moves G i m st bs := by
  constructor
  · exact at_sound G starts _ bs rfl i
  · rintro ⟨st, m, h1, h2⟩
    exact at_complete G m i st bs hi h2 (ints starts) ((mem_closed G _ st).2 (.base st (mem_ints.2 h1) (h2.lt hi)))

theorem testBit_bitM (n : Int) (t : Nat) : (bitM n).testBit t = decide (n = t ∧ t < 64) := by
  unfold bitM
  split
  · rw [Nat.testBit_two_pow]
    rw [Bool.eq_iff_iff]
    simp
    omega
  · rw [Bool.eq_iff_iff]
    simp
    omega
theorem testBit_foldl (G : List St) (t : Nat) : ∀ (l : List Int) (s : Nat), (l.foldl (fun s n => if 0 ≤ n then match G[n.toNat]? with | some x => s ||| bitM x.tag | none => s else s) s).testBit t = true ↔
    s.testBit t = true ∨ ∃ n x, n ∈ l ∧ 0 ≤ n ∧ G[n.toNat]? = some x ∧ x.tag = t ∧ t < 64
  | [], s => by simp
  | a :: l, s => by
    rw [List.foldl_cons, testBit_foldl G t l]
    constructor
    · rintro (h | ⟨n, x, h1, h2⟩)
      · split at h
        · rename_i ha
          cases hx : G[a.toNat]? with
          | none => rw [hx] at h; exact .inl h
          | some x =>
            rw [hx] at h
            simp only [Nat.testBit_or, Bool.or_eq_true] at h
            rcases h with h | h
            · exact .inl h
            · rw [testBit_bitM, decide_eq_true_iff] at h
              exact .inr ⟨a, x, by simp, ha, hx, h.1, h.2⟩
        · exact .inl h
      · exact .inr ⟨n, x, List.mem_cons_of_mem _ h1, h2⟩
    · rintro (h | ⟨n, x, h1, h2, h3, h4, h5⟩)
      · left
        split
        · cases hx : G[a.toNat]? with
          | none => exact h
          | some x => simp only [Nat.testBit_or, Bool.or_eq_true]; exact .inl h
        · exact h
      · rcases List.mem_cons.1 h1 with rfl | h1
        · left
          rw [if_pos h2, h3]
          simp only [Nat.testBit_or, Bool.or_eq_true]
          exact .inr (by rw [testBit_bitM, decide_eq_true_iff]; exact ⟨h4, h5⟩)
        · exact .inr ⟨n, x, h1, h2, h3, h4, h5⟩
theorem testBit_tagsM (G : List St) (A : List Int) (t : Nat) : (tagsM G A).testBit t = true ↔ ∃ n x, n ∈ A ∧ 0 ≤ n ∧ G[n.toNat]? = some x ∧ x.tag = t ∧ t < 64 := by
  refine (testBit_foldl G t A 0).trans ?_
  simp
/-- A TEXT'S NUMBERS ARE THOSE OF THE REGEXES THAT MATCH IT. -/
theorem run_lang (rs : List Rx) (h60 : rs.length ≤ 64) (bs : List Nat) (t : Nat) :
    (runM (buildM rs 0 [] []).1 (buildM rs 0 [] []).2 bs).testBit t = true ↔ ∃ r, rs[t]? = some r ∧ r.lang bs := by
  have hb := built rs
  generalize (buildM rs 0 [] []).1 = G at *
  generalize (buildM rs 0 [] []).2 = starts at *
  unfold runM
  rw [testBit_tagsM]
  have dead : ∀ (x : St) (fin t n : Nat) (s : List Nat), G[fin]? = some x → x.free = [] → x.bytes = Rx.zero → Moves G t n fin s → fin = t ∧ s = [] := by
    intro x fin t n s hx hf hz hm
    cases hm with
    | here => exact ⟨rfl, rfl⟩
    | free n i j s hj h => rw [freeOf_some hx, hf] at hj; simp at hj
    | byte n i b j s st hs hb' => rw [hx] at hs; cases hs; rw [hz] at hb'; simp [has_zero] at hb'
  constructor
  · rintro ⟨n, x, hn, h0, hx, ht, h64⟩
    obtain ⟨j, rfl⟩ := Int.eq_ofNat_of_zero_le h0
    rw [Int.toNat_natCast] at hx
    have hj := (mem_atM G starts bs j (lt_of_some hx)).1 (mem_ints.1 hn)
    obtain ⟨st, m, hst, hm⟩ := hj
    obtain ⟨i, hi⟩ := List.mem_iff_getElem?.1 hst
    have hilt : i < rs.length := by rw [← hb.len]; exact (List.getElem?_eq_some_iff.1 hi).1
    obtain ⟨st', en, fin, h1, h2, h3, y, h4, h5, h6, h7⟩ := hb.each i rs[i] (List.getElem?_eq_getElem hilt)
    rw [hi] at h1
    cases h1
    have htag : 0 ≤ x.tag := by omega
    obtain ⟨e, m', he, rfl, hm'⟩ := hm.only h2 (h2.ne hx htag)
    obtain ⟨a, b, m2, rfl, _, ha, hfb⟩ := shape_sound hx htag rs[i] fin en h3 m' _ e he hm'
    obtain ⟨rfl, rfl⟩ := dead y fin j m2 b h4 h5 h6 hfb
    rw [hx] at h4
    cases h4
    have : i = t := by omega
    subst this
    exact ⟨rs[i], List.getElem?_eq_getElem hilt, by simpa using ha⟩
  · rintro ⟨r, hr, hl⟩
    obtain ⟨st, en, fin, h1, h2, h3, y, h4, h5, h6, h7⟩ := hb.each t r hr
    have htl := (List.getElem?_eq_some_iff.1 hr).1
    refine ⟨fin, y, mem_ints.2 ((mem_atM G starts bs fin (lt_of_some h4)).2 ?_), by omega, by simpa using h4, h7, by omega⟩
    obtain ⟨e, he, hm⟩ := shape_complete r fin en h3 bs [] hl ⟨0, .here⟩
    obtain ⟨n, hn⟩ := Moves.of_only h2 he hm
    exact ⟨st, n, List.mem_of_getElem? h1, by simpa using hn⟩
end Go.Proofs.Ytjbmppbciiemkaa
