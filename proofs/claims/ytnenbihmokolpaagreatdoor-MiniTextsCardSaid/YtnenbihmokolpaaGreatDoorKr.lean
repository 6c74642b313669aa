/-
  The builder of an automaton, round by round: what a row of numbers, and a state more, make of it in memory.
-/
import Derived.Test.YtnenbihmokolpaaGreatDoorKC
import Derived.Test.YtnenbihmokolpaaGreatDoorKn
namespace Go.Proofs.YtnenbihmokolpaaGreatDoor set_option linter.unusedVariables false set_option linter.unusedSimpArgs false
open Go.RowKit
open Go.Maps

theorem row_block {w : World} {base : Nat} {e : TypeId} {size n : Nat} {v : Value} {xs : List Value} (h : w.ownsRow base e size v n xs) {k : Nat} (hk : v.ownBlock = some k) : ∃ cs, w.heap[k]? = some (.cells cs e (0, 0)) := by
  rcases h.2 with h1 | ⟨g, cap, cur, e1, e2, e3, e4⟩
  · rw [h1.1] at hk; simp [Value.ownBlock] at hk
  · rw [e1] at hk
    simp only [Value.ownBlock, Option.some.injEq] at hk
    subst hk
    exact ⟨_, e3⟩
theorem rows_apart {w : World} {b1 b2 : Nat} {e1 e2 : TypeId} {s1 s2 n1 n2 : Nat} {v1 v2 : Value} {x1 x2 : List Value} (h1 : w.ownsRow b1 e1 s1 v1 n1 x1) (h2 : w.ownsRow b2 e2 s2 v2 n2 x2) (hne : e1 ≠ e2) : ∀ k, v1.ownBlock = some k → v2.ownBlock ≠ some k := by
  intro k hk hk2
  obtain ⟨c1, q1⟩ := row_block h1 hk
  obtain ⟨c2, q2⟩ := row_block h2 hk2
  rw [q1] at q2
  simp only [Option.some.injEq, Obj.cells.injEq] at q2
  exact hne q2.2.1
theorem row_keep {w w' : World} {T : Nat → Prop} {base : Nat} {e : TypeId} {size n : Nat} {v : Value} {xs : List Value} (h : w.ownsRow base e size v n xs) (hf : Fr T w w') (hT : ∀ k, v.ownBlock = some k → ¬ T k) : w'.ownsRow base e size v n xs :=
  ownsRow_same h (fun k hk => hf.block k (h.lt k hk).2 (hT k hk))
theorem IntsAt.keep {w w' : World} {T : Nat → Prop} {v : Value} {A : List Int} (h : IntsAt w v A) (hf : Fr T w w') (hT : ∀ k, v.ownBlock = some k → ¬ T k) : IntsAt w' v A :=
  h.elim fun b h1 => ⟨b, row_keep h1 hf hT⟩
theorem IntsAt.own_lt {w : World} {v : Value} {A : List Int} (h : IntsAt w v A) {k : Nat} (hk : v.ownBlock = some k) : k < w.heap.size := h.elim fun b h1 => (h1.lt k hk).2
theorem BldD.each {w : World} {B d dm mb : Nat} {sv : Value} {vs : List Value} {D : DataW Unit} {sets : List (List Nat)} (h : BldD w B d dm mb sv vs D sets) {u : Value} (hu : u ∈ vs) : ∃ A, IntsAt w u A := by
  obtain ⟨i, hi, rfl⟩ := List.getElem_of_mem hu
  have hl : vs.length = sets.length := by have := h.row.1; omega
  obtain ⟨v, h1, h2⟩ := h.at_ i _ (List.getElem?_eq_getElem (by omega : i < sets.length))
  rw [List.getElem?_eq_getElem hi] at h1
  cases h1
  exact ⟨_, h2⟩
theorem BldD.keep {w w' : World} {T : Nat → Prop} {B d dm mb : Nat} {sv : Value} {vs : List Value} {D : DataW Unit} {sets : List (List Nat)} (h : BldD w B d dm mb sv vs D sets) (hf : Fr T w w')
    (hd : ¬ T d) (hm : ¬ T mb) (hs : ∀ k, sv.ownBlock = some k → ¬ T k) (hu : ∀ u ∈ vs, ∀ k, u.ownBlock = some k → ¬ T k) : BldD w' B d dm mb sv vs D sets :=
  ⟨hf.at_ h.blk hd, ownsMap_at h.map (hf.block mb h.map.lt hm), h.is_, row_keep h.row hf hs, fun i A hA => (h.at_ i A hA).elim fun v h1 => ⟨v, h1.1, h1.2.keep hf (hu v (List.mem_of_getElem? h1.1))⟩, h.hd, h.hm⟩
/-- A row's block is none of the builder's. -/
theorem BldD.off {w : World} {B d dm mb : Nat} {sv : Value} {vs : List Value} {D : DataW Unit} {sets : List (List Nat)} (h : BldD w B d dm mb sv vs D sets) {k : Nat} {cs : Array Value} {t : TypeId} (hb : w.heap[k]? = some (.cells cs t (0, 0))) (h1 : t ≠ 128) : k ≠ d ∧ k ≠ mb := by
  refine ⟨?_, ?_⟩
  · rintro rfl
    rw [h.blk] at hb
    simp only [Option.some.injEq, Obj.cells.injEq] at hb
    exact h1 hb.2.1.symm
  · rintro rfl
    obtain ⟨es, clock, hm, _⟩ := h.map
    rw [hm] at hb; simp at hb
theorem IntsAt.off {w : World} {v : Value} {A : List Int} (h : IntsAt w v A) {k : Nat} {cs : Array Value} {t : TypeId} (hb : w.heap[k]? = some (.cells cs t (0, 0))) (h1 : t ≠ 3) : v.ownBlock ≠ some k := by
  intro hk
  obtain ⟨b, h⟩ := h
  obtain ⟨c2, q2⟩ := row_block h hk
  rw [hb] at q2
  simp only [Option.some.injEq, Obj.cells.injEq] at q2
  exact h1 q2.2.1
theorem row_off {w : World} {base : Nat} {e : TypeId} {size n : Nat} {v : Value} {xs : List Value} (h : w.ownsRow base e size v n xs) {k : Nat} {cs : Array Value} {t : TypeId} (hb : w.heap[k]? = some (.cells cs t (0, 0))) (h1 : t ≠ e) : v.ownBlock ≠ some k := by
  intro hk
  obtain ⟨c2, q2⟩ := row_block h hk
  rw [hb] at q2
  simp only [Option.some.injEq, Obj.cells.injEq] at q2
  exact h1 q2.2.1

/-- A row of numbers under way. -/
structure RowD (wb w : World) (B d dm mb : Nat) (sv : Value) (sets : List (List Nat)) (xv : Value) (row : List Int) : Prop where
  ex : ∃ sv' vs' D', BldD w B d dm mb sv' vs' D' sets ∧ (sv'.ownBlock = sv.ownBlock ∨ ∀ k, sv'.ownBlock = some k → wb.heap.size ≤ k) ∧ ∀ u ∈ vs', ∀ k, xv.ownBlock = some k → u.ownBlock ≠ some k
  row : w.ownsRow wb.heap.size 3 1 xv row.length (intsV row)
  fr : Fr (bldS d mb sv) wb w
theorem RowD.start {w : World} {B d dm mb : Nat} {sv : Value} {vs : List Value} {D : DataW Unit} {sets : List (List Nat)} (h : BldD w B d dm mb sv vs D sets) : RowD w w B d dm mb sv sets (.slice none 0 0) [] :=
  ⟨⟨sv, vs, D, h, .inl rfl, fun u _ k hk => by simp [Value.ownBlock] at hk⟩, World.ownsRow_nil _ _ _ _, Fr.refl _ _⟩
theorem RowD.step {wb w w2 w3 w4 : World} {B d dm mb : Nat} {sv sv' sv3 : Value} {vs' vs3 : List Value} {D' D3 : DataW Unit} {sets sets3 : List (List Nat)} {xv v : Value} {row : List Int} {z : Int} {g2 cap2 : Nat} {A : List Int}
    (hb : BldD w B d dm mb sv' vs' D' sets) (ho : sv'.ownBlock = sv.ownBlock ∨ ∀ k, sv'.ownBlock = some k → wb.heap.size ≤ k) (ha : ∀ u ∈ vs', ∀ k, xv.ownBlock = some k → u.ownBlock ≠ some k)
    (hrow : w.ownsRow wb.heap.size 3 1 xv row.length (intsV row)) (hfr : Fr (bldS d mb sv) wb w)
    (f2 : Fr none_ w w2) (hv : ∀ k, v.ownBlock = some k → w.heap.size ≤ k)
    (hb3 : BldD w3 B d dm mb sv3 vs3 D3 sets3) (f3 : Fr (bldS d mb sv') w2 w3) (ho3 : sv3.ownBlock = sv'.ownBlock ∨ ∀ k, sv3.ownBlock = some k → w2.heap.size ≤ k) (hu3 : ∀ u ∈ vs3, u ∈ vs' ∨ u = v)
    (hg : (w3.alloc (.cells #[.int .i64 z] 3)).grownBy w4 xv.ownBlock) (hown : w4.ownsRow wb.heap.size 3 1 (.slice (some ⟨g2, 0, none⟩) (row.length + 1) cap2) (row.length + 1) (intsV row ++ [.int .i64 z]))
    (hat : xv.ownBlock = some g2 ∨ g2 = w3.heap.size + 1) :
    RowD wb w4 B d dm mb sv sets3 (.slice (some ⟨g2, 0, none⟩) (row.length + 1) cap2) (row ++ [z]) := by
  have hb2 := hb.move f2
  have hr2 : w2.ownsRow wb.heap.size 3 1 xv row.length (intsV row) := row_keep hrow f2 (fun _ _ h => h)
  have hr3 := hb2.row_over f3 hr2 (by decide) (by decide)
  have hs2 := f2.size
  have hs3 := f3.size
  have hsb := hfr.size
  have f4 : Fr (fun k => xv.ownBlock = some k) w3 w4 := ((Fr.refl _ w3).alloc _).grown hg (fun k hk => .inl hk)
  have hu4 : ∀ u ∈ vs3, ∀ k, u.ownBlock = some k → xv.ownBlock ≠ some k := by
    intro u hu k hk hx
    rcases hu3 u hu with h1 | rfl
    · exact ha u h1 k hx hk
    · have h1 := hv k hk
      have h2 := (hrow.lt k hx).2
      omega
  refine ⟨⟨sv3, vs3, D3, hb3.keep f4 ?_ ?_ (fun k hk hx => rows_apart hr3 hb3.row (by decide) k hx hk) hu4, ?_, ?_⟩, ?_, ?_⟩
  · intro hx
    obtain ⟨cs, hc⟩ := row_block hr3 hx
    exact (hb3.off hc (by decide)).1 rfl
  · intro hx
    obtain ⟨cs, hc⟩ := row_block hr3 hx
    exact (hb3.off hc (by decide)).2 rfl
  · rcases ho3 with e | e
    · rw [e]; exact ho
    · exact .inr (fun k hk => by have := e k hk; omega)
  · intro u hu k hk hk2
    simp only [Value.ownBlock, Option.some.injEq] at hk
    subst hk
    rcases hat with e | e
    · exact hu4 u hu _ hk2 e
    · obtain ⟨A, h1⟩ := hb3.each hu
      have := h1.own_lt hk2
      omega
  · have e2 : intsV (row ++ [z]) = intsV row ++ [.int .i64 z] := by simp [intsV]
    rw [List.length_append, e2]
    exact hown
  · have g1 : Fr (bldS d mb sv) wb w3 := (hfr.tr f2.none).trans f3 (fun i hi h1 => by
      rcases h1 with h1 | h1 | h1
      · exact .inl h1
      · exact .inr (.inl h1)
      · rcases ho with e | e
        · exact .inr (.inr (by rw [← e]; exact h1))
        · have := e i h1; omega)
    exact (g1.alloc _).grown hg (fun k hk => .inr (hrow.lt k hk).1)

/-- The whole builder: sets, rows and tags. -/
structure OutD (w1 w : World) (B d dm mb cb : Nat) (C : List Value) (bv : Value) (bytes : List Nat) (sv : Value) (vs : List Value) (D : DataW Unit) (nv : Value) (vals : List Value) (tv : Value) (sets : List (List Nat)) (next : List (List Int)) (tags : List Nat) : Prop where
  bld : BldD w B d dm mb sv vs D sets
  blk : w.heap[cb]? = some (.cells (C ++ [nv, tv]).toArray 26 (0, 0))
  nxt : NextD w B nv vals next
  apart : ∀ k, nv.ownBlock = some k → sv.ownBlock ≠ some k
  tgs : w.ownsRow B 28 1 tv tags.length (setsV tags)
  byt : BytesAt w bv bytes
  fr : Fr none_ w1 w
  hB : B = w1.heap.size
  hcb : B ≤ cb
theorem OutD.move {w1 w w' : World} {B d dm mb cb : Nat} {C : List Value} {bv : Value} {bytes : List Nat} {sv : Value} {vs : List Value} {D : DataW Unit} {nv : Value} {vals : List Value} {tv : Value} {sets : List (List Nat)} {next : List (List Int)} {tags : List Nat}
    (h : OutD w1 w B d dm mb cb C bv bytes sv vs D nv vals tv sets next tags) (hf : Fr none_ w w') : OutD w1 w' B d dm mb cb C bv bytes sv vs D nv vals tv sets next tags :=
  ⟨h.bld.move hf, hf.at_ h.blk (fun h => h), h.nxt.move hf, h.apart, row_keep h.tgs hf (fun _ _ h => h), h.byt.elim fun b h1 => ⟨b, row_keep h1 hf (fun _ _ h => h)⟩, h.fr.tr hf, h.hB, h.hcb⟩
/-- Behind a row. -/
theorem OutD.over {w1 wb w : World} {B d dm mb cb : Nat} {C : List Value} {bv : Value} {bytes : List Nat} {sv sv' : Value} {vs vs' : List Value} {D D' : DataW Unit} {nv : Value} {vals : List Value} {tv : Value} {sets sets' : List (List Nat)} {next : List (List Int)} {tags : List Nat}
    (h : OutD w1 wb B d dm mb cb C bv bytes sv vs D nv vals tv sets next tags) (hf : Fr (bldS d mb sv) wb w)
    (hb : BldD w B d dm mb sv' vs' D' sets') (ho : sv'.ownBlock = sv.ownBlock ∨ ∀ k, sv'.ownBlock = some k → wb.heap.size ≤ k) :
    OutD w1 w B d dm mb cb C bv bytes sv' vs' D' nv vals tv sets' next tags :=
  ⟨hb, h.bld.at_over hf h.blk (by decide) (by decide), h.nxt.over h.bld hf h.apart, fun k hk hk2 => by
    rcases ho with e | e
    · exact h.apart k hk (by rw [← e]; exact hk2)
    · have := e k hk2
      have := (h.nxt.row.lt k hk).2
      omega, h.bld.row_over hf h.tgs (by decide) (by decide), h.byt.elim fun b h1 => ⟨b, h.bld.row_over hf h1 (by decide) (by decide)⟩, h.bld.fresh h.fr (by rw [h.hB]; exact Nat.le_refl _) hf, h.hB, h.hcb⟩
theorem set_256 (C : List Value) (h : C.length = 256) (nv tv v : Value) : (C ++ [nv, tv]).toArray.setIfInBounds 256 v = (C ++ [v, tv]).toArray := by
  rw [List.setIfInBounds_toArray, List.set_append_right _ _ (by omega), h]; rfl
theorem set_257 (C : List Value) (h : C.length = 256) (nv tv v : Value) : (C ++ [nv, tv]).toArray.setIfInBounds 257 v = (C ++ [nv, v]).toArray := by
  rw [List.setIfInBounds_toArray, List.set_append_right _ _ (by omega), h]; rfl
theorem at_256 (C : List Value) (h : C.length = 256) (nv tv : Value) : (C ++ [nv, tv]).toArray[256]? = some nv := by
  rw [List.getElem?_toArray, List.getElem?_append_right (by omega), h]; rfl
theorem at_257 (C : List Value) (h : C.length = 256) (nv tv : Value) : (C ++ [nv, tv]).toArray[257]? = some tv := by
  rw [List.getElem?_toArray, List.getElem?_append_right (by omega), h]; rfl
/-- A row more. -/
theorem OutD.row {w1 w w5 : World} {B d dm mb cb : Nat} {C : List Value} {bv : Value} {bytes : List Nat} {sv : Value} {vs : List Value} {D : DataW Unit} {nv : Value} {vals : List Value} {tv : Value} {sets : List (List Nat)} {next : List (List Int)} {tags : List Nat} {xv : Value} {row : List Int} {b2 g2 cap2 : Nat}
    (h : OutD w1 w B d dm mb cb C bv bytes sv vs D nv vals tv sets next tags) (hC : C.length = 256)
    (hrow : w.ownsRow b2 3 1 xv row.length (intsV row))
    (hg : (w.alloc (.cells #[xv] 100)).grownBy w5 nv.ownBlock) (hown : w5.ownsRow B 100 1 (.slice (some ⟨g2, 0, none⟩) (next.length + 1) cap2) (next.length + 1) (vals ++ [xv]))
    (hat : nv.ownBlock = some g2 ∨ g2 = w.heap.size + 1) :
    OutD w1 (w5.setCell ⟨cb, 256, none⟩ (.slice (some ⟨g2, 0, none⟩) (next.length + 1) cap2)) B d dm mb cb C bv bytes sv vs D (.slice (some ⟨g2, 0, none⟩) (next.length + 1) cap2) (vals ++ [xv]) tv sets (next ++ [row]) tags := by
  have f5 : Fr (fun k => nv.ownBlock = some k) w w5 := ((Fr.refl _ w).alloc _).grown hg (fun k hk => .inl hk)
  have f6 : Fr (fun k => nv.ownBlock = some k ∨ k = cb) w (w5.setCell ⟨cb, 256, none⟩ (.slice (some ⟨g2, 0, none⟩) (next.length + 1) cap2)) := (f5.mono (fun k _ hk => .inl hk)).setCell (p := ⟨cb, 256, none⟩) (.inl (.inr rfl)) _
  have hncb : nv.ownBlock ≠ some cb := row_off h.nxt.row h.blk (by decide)
  have hblk5 : w5.heap[cb]? = some (.cells (C ++ [nv, tv]).toArray 26 (0, 0)) := f5.at_ h.blk hncb
  have hl : vals.length = next.length := by have := h.nxt.row.1; omega
  have hcbs : ∀ k, k = cb → ∃ cs, w.heap[k]? = some (.cells cs 26 (0, 0)) := fun k hk => by subst hk; exact ⟨_, h.blk⟩
  have hints : ∀ (v : Value) (A : List Int), IntsAt w v A → ∀ k, v.ownBlock = some k → ¬ (nv.ownBlock = some k ∨ k = cb) := by
    rintro v A hv k hk (hx | rfl)
    · obtain ⟨cs, hc⟩ := row_block h.nxt.row hx
      exact hv.off hc (by decide) hk
    · exact hv.off h.blk (by decide) hk
  have hother : ∀ {base : Nat} {e : TypeId} {size n : Nat} {v : Value} {xs : List Value}, w.ownsRow base e size v n xs → e ≠ 100 → e ≠ 26 → ∀ k, v.ownBlock = some k → ¬ (nv.ownBlock = some k ∨ k = cb) := by
    rintro base e size n v xs hr h1 h2 k hk (hx | rfl)
    · exact rows_apart hr h.nxt.row h1 k hk hx
    · exact row_off hr h.blk (fun e => h2 e.symm) hk
  have hsv : ∀ k, sv.ownBlock = some k → ¬ (nv.ownBlock = some k ∨ k = cb) := by
    rintro k hk (hx | rfl)
    · exact h.apart k hx hk
    · exact row_off h.bld.row h.blk (by decide) hk
  have hbl : ∀ q, (q = d ∨ q = mb) → ¬ (nv.ownBlock = some q ∨ q = cb) := by
    rintro q hq (hx | rfl)
    · obtain ⟨cs, hc⟩ := row_block h.nxt.row hx
      have := h.bld.off hc (by decide)
      rcases hq with rfl | rfl
      · exact this.1 rfl
      · exact this.2 rfl
    · have := h.bld.off h.blk (by decide)
      rcases hq with rfl | rfl
      · exact this.1 rfl
      · exact this.2 rfl
  have hg2 : g2 ≠ cb := by
    rintro rfl
    rcases hat with e | e
    · exact hncb e
    · have := lt_of_block h.blk; omega
  refine ⟨h.bld.keep f6 (hbl d (.inl rfl)) (hbl mb (.inr rfl)) hsv (fun u hu => by obtain ⟨A, hA⟩ := h.bld.each hu; exact hints u A hA), ?_, ⟨?_, ?_⟩, ?_, row_keep h.tgs f6 (hother h.tgs (by decide) (by decide)), h.byt.elim fun b h1 => ⟨b, row_keep h1 f6 (hother h1 (by decide) (by decide))⟩, ?_, h.hB, h.hcb⟩
  · have h1 := heap_setCell w5 hblk5 256 (.slice (some ⟨g2, 0, none⟩) (next.length + 1) cap2)
    rw [set_256 C hC] at h1
    exact h1
  · rw [List.length_append]
    refine ownsRow_same hown (fun k hk => Below.heap_setCell w5 ⟨cb, 256, none⟩ _ k (fun e => ?_))
    simp only [Value.ownBlock, Option.some.injEq] at hk
    exact hg2 (hk.trans e)
  · intro i r hr
    by_cases hi : i < next.length
    · rw [List.getElem?_append_left hi] at hr
      obtain ⟨v, q1, q2⟩ := h.nxt.at_ i r hr
      exact ⟨v, by rw [List.getElem?_append_left (by omega)]; exact q1, q2.keep f6 (hints v _ q2)⟩
    · rw [List.getElem?_append_right (by omega)] at hr
      have hi2 : i - next.length = 0 := by
        rcases Nat.eq_zero_or_pos (i - next.length) with e | e
        · exact e
        · rw [List.getElem?_eq_none (by simp; omega)] at hr; simp at hr
      rw [hi2] at hr
      have e2 : row = r := by simpa using hr
      subst e2
      have hx : IntsAt w xv row := ⟨_, hrow⟩
      exact ⟨xv, by rw [List.getElem?_append_right (by omega), hl, hi2]; rfl, hx.keep f6 (hints xv _ hx)⟩
  · intro k hk hk2
    simp only [Value.ownBlock, Option.some.injEq] at hk
    subst hk
    rcases hat with e | e
    · exact h.apart _ e hk2
    · have := (h.bld.row.lt _ hk2).2; omega
  · refine h.fr.fresh f6 ?_
    rintro k (hk | rfl)
    · have := (h.nxt.row.lt k hk).1; rw [← h.hB]; exact this
    · rw [← h.hB]; exact h.hcb
/-- A tag more. -/
theorem OutD.tag {w1 w wd w5 : World} {B d dm mb cb : Nat} {C : List Value} {bv : Value} {bytes : List Nat} {sv : Value} {vs : List Value} {D : DataW Unit} {nv : Value} {vals : List Value} {tv : Value} {sets : List (List Nat)} {next : List (List Int)} {tags : List Nat} {z g2 cap2 : Nat}
    (h : OutD w1 w B d dm mb cb C bv bytes sv vs D nv vals tv sets next tags) (hC : C.length = 256) (hwd : Fr none_ w wd)
    (hg : wd.grownBy w5 tv.ownBlock) (hown : w5.ownsRow B 28 1 (.slice (some ⟨g2, 0, none⟩) (tags.length + 1) cap2) (tags.length + 1) (setsV tags ++ [.int .u64 (z : Int)]))
    (hat : tv.ownBlock = some g2 ∨ w.heap.size ≤ g2) :
    OutD w1 (w5.setCell ⟨cb, 257, none⟩ (.slice (some ⟨g2, 0, none⟩) (tags.length + 1) cap2)) B d dm mb cb C bv bytes sv vs D nv vals (.slice (some ⟨g2, 0, none⟩) (tags.length + 1) cap2) sets next (tags ++ [z]) := by
  have f5 : Fr (fun k => tv.ownBlock = some k) w w5 := hwd.none.grown hg (fun k hk => .inl hk)
  have f6 : Fr (fun k => tv.ownBlock = some k ∨ k = cb) w (w5.setCell ⟨cb, 257, none⟩ (.slice (some ⟨g2, 0, none⟩) (tags.length + 1) cap2)) := (f5.mono (fun k _ hk => .inl hk)).setCell (p := ⟨cb, 257, none⟩) (.inl (.inr rfl)) _
  have hncb : tv.ownBlock ≠ some cb := row_off h.tgs h.blk (by decide)
  have hblk5 : w5.heap[cb]? = some (.cells (C ++ [nv, tv]).toArray 26 (0, 0)) := f5.at_ h.blk hncb
  have hints : ∀ (v : Value) (A : List Int), IntsAt w v A → ∀ k, v.ownBlock = some k → ¬ (tv.ownBlock = some k ∨ k = cb) := by
    rintro v A hv k hk (hx | rfl)
    · obtain ⟨cs, hc⟩ := row_block h.tgs hx
      exact hv.off hc (by decide) hk
    · exact hv.off h.blk (by decide) hk
  have hother : ∀ {base : Nat} {e : TypeId} {size n : Nat} {v : Value} {xs : List Value}, w.ownsRow base e size v n xs → e ≠ 28 → e ≠ 26 → ∀ k, v.ownBlock = some k → ¬ (tv.ownBlock = some k ∨ k = cb) := by
    rintro base e size n v xs hr h1 h2 k hk (hx | rfl)
    · exact rows_apart hr h.tgs h1 k hk hx
    · exact row_off hr h.blk (fun e => h2 e.symm) hk
  have hbl : ∀ q, (q = d ∨ q = mb) → ¬ (tv.ownBlock = some q ∨ q = cb) := by
    rintro q hq (hx | rfl)
    · obtain ⟨cs, hc⟩ := row_block h.tgs hx
      have := h.bld.off hc (by decide)
      rcases hq with rfl | rfl
      · exact this.1 rfl
      · exact this.2 rfl
    · have := h.bld.off h.blk (by decide)
      rcases hq with rfl | rfl
      · exact this.1 rfl
      · exact this.2 rfl
  have hg2 : g2 ≠ cb := by
    rintro rfl
    rcases hat with e | e
    · exact hncb e
    · have := lt_of_block h.blk; omega
  refine ⟨h.bld.keep f6 (hbl d (.inl rfl)) (hbl mb (.inr rfl)) (hother h.bld.row (by decide) (by decide)) (fun u hu => by obtain ⟨A, hA⟩ := h.bld.each hu; exact hints u A hA), ?_, ⟨row_keep h.nxt.row f6 (hother h.nxt.row (by decide) (by decide)), fun i r hr => (h.nxt.at_ i r hr).elim fun v q => ⟨v, q.1, q.2.keep f6 (hints v _ q.2)⟩⟩, h.apart, ?_, h.byt.elim fun b h1 => ⟨b, row_keep h1 f6 (hother h1 (by decide) (by decide))⟩, ?_, h.hB, h.hcb⟩
  · have h1 := heap_setCell w5 hblk5 257 (.slice (some ⟨g2, 0, none⟩) (tags.length + 1) cap2)
    rw [set_257 C hC] at h1
    exact h1
  · have e2 : setsV (tags ++ [z]) = setsV tags ++ [.int .u64 (z : Int)] := by simp [setsV]
    rw [List.length_append, e2]
    refine ownsRow_same hown (fun k hk => Below.heap_setCell w5 ⟨cb, 257, none⟩ _ k (fun e => ?_))
    simp only [Value.ownBlock, Option.some.injEq] at hk
    exact hg2 (hk.trans e)
  · refine h.fr.fresh f6 ?_
    rintro k (hk | rfl)
    · have := (h.tgs.lt k hk).1; rw [← h.hB]; exact this
    · rw [← h.hB]; exact h.hcb

/-- What is given back. -/
theorem OutD.done {w1 w w' : World} {B d dm mb cb : Nat} {C : List Value} {bv : Value} {bytes : List Nat} {sv : Value} {vs : List Value} {D : DataW Unit} {nv : Value} {vals : List Value} {tv : Value} {sets : List (List Nat)} {next : List (List Int)} {tags : List Nat}
    (h : OutD w1 w B d dm mb cb C bv bytes sv vs D nv vals tv sets next tags) {r : Nat} {cs : Array Value} (hr : w.heap[r]? = some (.cells cs 26 (0, 0))) (hf : Fr (fun k => k = r) w w') : RowsIn w' nv next ∧ SetsIn w' tv tags := by
  have hn : NextD w' B nv vals next := ⟨row_keep h.nxt.row hf (fun k hk e => by subst e; exact row_off h.nxt.row hr (by decide) hk), fun i x hx => (h.nxt.at_ i x hx).elim fun v q => ⟨v, q.1, q.2.keep hf (fun k hk e => by subst e; exact q.2.off hr (by decide) hk)⟩⟩
  exact ⟨hn.rows, sets_in (row_keep h.tgs hf (fun k hk e => by subst e; exact row_off h.tgs hr (by decide) hk))⟩
theorem OutD.ones {w1 w : World} {B d dm mb cb : Nat} {C : List Value} {bv : Value} {bytes : List Nat} {sv : Value} {vs : List Value} {D : DataW Unit} {nv : Value} {vals : List Value} {tv : Value} {sets : List (List Nat)} {next : List (List Int)} {tags : List Nat}
    (h : OutD w1 w B d dm mb cb C bv bytes sv vs D nv vals tv sets next tags) : nv.oneCell' = true ∧ tv.oneCell' = true := by
  obtain ⟨a, c, rfl, _⟩ := ownsRow_slice h.nxt.row
  obtain ⟨b, e, rfl, _⟩ := ownsRow_slice h.tgs
  exact ⟨rfl, rfl⟩
/-- The number of any set. -/
theorem number_any (B d dm mb : Nat) (sv : Value) (vs : List Value) (D : DataW Unit) (sets : List (List Nat)) (A : List Nat) (v : Value) (w : World) (h : BldD w B d dm mb sv vs D sets) (hv : IntsAt w v (ints A)) (hp : PowOk w)
    (hb : ∀ n ∈ A, n ≤ 100000) (hl : A.length ≤ 100000) (hs : sets.length ≤ 100000) (hB : B ≤ w.heap.size) :
    Calls Tryz.prog 65 #[.pointer (some ⟨d, 0, none⟩), v] w fun e w' => e = .returned (.int .i64 (setNo sets A).2) ∧ ∃ sv' vs' D', BldD w' B d dm mb sv' vs' D' (setNo sets A).1 ∧ Fr (bldS d mb sv) w w' ∧ (sv'.ownBlock = sv.ownBlock ∨ ∀ k, sv'.ownBlock = some k → w.heap.size ≤ k) ∧ (∀ u ∈ vs', u ∈ vs ∨ u = v) := by
  by_cases hA : A = []
  · subst hA
    refine (number_none d v w hv).mono ?_
    rintro e w' ⟨rfl, rfl⟩
    have e1 : setNo sets [] = (sets, -1) := by simp [setNo]
    rw [e1]
    exact ⟨rfl, sv, vs, D, h, Fr.refl _ _, .inl rfl, fun u hu => .inl hu⟩
  · exact number_some B d dm mb sv vs D sets A v w h hv hp hA hb hl hs hB
theorem step_new (dm : Nat) (w : World) (l : List St) (starts : List Nat) (av : Value) (A : List Int) (b : Nat) (h : MachG dm w l starts) (hf : Fit l) (ha : IntsAt w av A) (hA : A.length ≤ 1000000) (hb : b < 256) :
    Calls Tryz.prog 67 #[.pointer (some ⟨dm, 0, none⟩), av, .int .u8 b] w fun e w' => ∃ v', e = .returned v' ∧ IntsAt w' v' (ints (stepM l A b)) ∧ Fr none_ w w' ∧ ∀ k, v'.ownBlock = some k → w.heap.size ≤ k := by
  obtain ⟨S, h⟩ := h
  obtain ⟨base, ha⟩ := ha
  refine (step_any dm S w l starts base av A b h hf ha hA hb).mono ?_
  rintro e w' ⟨v', he, h1, h2⟩
  exact ⟨v', he, .of h1, h2, fun k hk => (h1.lt k hk).1⟩
theorem stepM_lt (l : List St) (A : List Int) (b : Nat) : ∀ n ∈ stepM l A b, n < l.length := by
  intro n hn
  simp only [stepM, closedM, List.mem_filter, List.mem_range] at hn
  exact hn.1
theorem endD_succ (G : List St) (bytes B : List Nat) (f n : Nat) : endD G bytes B (f + 1) n = if n < (roundD G bytes B n).sets.length then (if 2000 < (roundD G bytes B n).sets.length then none else endD G bytes B f (n + 1)) else some n := rfl
theorem setNo_mem {sets : List (List Nat)} {A x : List Nat} (h : x ∈ (setNo sets A).1) : x ∈ sets ∨ x = A := by
  unfold setNo keyM at h
  split at h
  · exact .inl h
  · split at h
    · exact .inl h
    · simpa using h
theorem row_each {P : List Nat → Prop} {G : List St} {A : List Nat} {bytes : List Nat} {sets : List (List Nat)} (hs : ∀ C b, P (stepM G C b)) (h : ∀ x ∈ sets, P x) : ∀ n, ∀ x ∈ (rowM G A bytes sets n).1, P x
  | 0, x, hx => h x hx
  | n + 1, x, hx => by
    rcases setNo_mem hx with h1 | h1
    · exact row_each hs h n x h1
    · rw [h1]; exact hs _ _
theorem round_each {P : List Nat → Prop} {G : List St} {bytes B : List Nat} (hs : ∀ C b, P (stepM G C b)) (h : P B) : ∀ n, ∀ x ∈ (roundD G bytes B n).sets, P x
  | 0, x, hx => by
    have : x = B := by simpa [roundD] using hx
    rw [this]; exact h
  | n + 1, x, hx => row_each hs (round_each hs h n) bytes.length x hx
theorem set_info : (Tryz.prog.info? 28).map (fun i => (i.zero, i.size, i.bytes)) = some (some (.int .u64 0), 1, 8) := by kernel_rfl
theorem row_at0 {w : World} {base : Nat} {e : TypeId} {n cap m : Nat} {a : Option Addr} {xs : List Value} (h : w.ownsRow base e 1 (.slice a n cap) m xs) {i : Nat} {x : Value} (hx : xs[i]? = some x) : ∃ g, a = some ⟨g, 0, none⟩ ∧ w.cell? ⟨g, i, none⟩ = some x := by
  have hi := (List.getElem?_eq_some_iff.1 hx).1
  have hl := h.1
  obtain ⟨g, cap', hg, _, _⟩ := h.form (by omega)
  have h' := h
  rw [hg] at h'
  cases hg
  exact ⟨g, rfl, by rw [h'.cellAt i (by omega)]; exact hx⟩
theorem row_succ (G : List St) (A : List Nat) (bytes : List Nat) (sets : List (List Nat)) (n : Nat) : rowM G A bytes sets (n + 1) = ((setNo (rowM G A bytes sets n).1 (stepM G (ints A) (bytes.getD n 0))).1, (rowM G A bytes sets n).2 ++ [(setNo (rowM G A bytes sets n).1 (stepM G (ints A) (bytes.getD n 0))).2]) := rfl
theorem setNo_le (sets : List (List Nat)) (A : List Nat) : (setNo sets A).1.length ≤ sets.length + 1 := by
  unfold setNo keyM
  split
  · simp
  · split
    · simp
    · simp
theorem row_le (G : List St) (A : List Nat) (bytes : List Nat) (sets : List (List Nat)) : ∀ n, (rowM G A bytes sets n).1.length ≤ sets.length + n
  | 0 => Nat.le_refl _
  | n + 1 => by
    have h1 := row_le G A bytes sets n
    have h2 := setNo_le (rowM G A bytes sets n).1 (stepM G (ints A) (bytes.getD n 0))
    rw [row_succ]
    show (setNo _ _).1.length ≤ _
    omega
theorem sets_get {x m : List (List Nat)} {n : Nat} (h : n < x.length) : (x ++ m)[n]? = some (x.getD n []) := by
  rw [List.getElem?_append_left h, List.getElem?_eq_getElem h]
  simp [List.getD, List.getElem?_eq_getElem h]
theorem firsts_lt (cls : List Nat) : ∀ (n : Nat), ∀ b ∈ firstsM cls n, b < n
  | 0, b, h => by simp [firstsM] at h
  | n + 1, b, h => by
    simp only [firstsM] at h
    split at h
    · rcases List.mem_append.1 h with h | h
      · have := firsts_lt cls n b h; omega
      · have : b = n := by simpa using h
        omega
    · have := firsts_lt cls n b h; omega
theorem stepM_len (l : List St) (A : List Int) (b : Nat) : (stepM l A b).length ≤ l.length := closedM_length _ _
end Go.Proofs.YtnenbihmokolpaaGreatDoor
