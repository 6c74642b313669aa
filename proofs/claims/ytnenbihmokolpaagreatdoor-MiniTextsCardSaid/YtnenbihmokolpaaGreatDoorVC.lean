/-
  The reference of layer 6, Least: what it tells of states; how what it makes lies while it is made.
  The reference of layers 5 and 6: Valid, of one that may be; Same, of one and itself.
  The reference of layer 6: Same, of one and itself.
  The reference of layer 6: Least.
  MiniTexts: the walk.
-/
import Derived.Test.YtnenbihmokolpaaGreatDoorVB
import Derived.Test.YtnenbihmokolpaaGreatDoorVA
import Derived.Test.YtnenbihmokolpaaGreatDoorMB
import Derived.Test.YtnenbihmokolpaaGreatDoorRA
import Derived.Test.YtnenbihmokolpaaGreatDoorMr
namespace Go.Proofs.YtnenbihmokolpaaGreatDoor set_option linter.unusedVariables false set_option linter.unusedSimpArgs false
open Go.RowKit

/-! ### Plain -/
/-- What is told apart, of states that stand for blocks. -/
structure FarB (D : Dfa) (n : Nat) (Bk : List Int) (F : List (List Bool)) : Prop where
  dead : ∀ x, x ≤ n → (atF F x n = false ↔ (plQ n x = -1 ∨ blkAt Bk (plQ n x) = -1))
  same : ∀ p x : Nat, p < n → x < n → blkAt Bk x ≠ -1 → (atF F p x = false ↔ blkAt Bk p = blkAt Bk x)
theorem farB {D : Dfa} {n k : Nat} (hv : DV D n k) {F : List (List Bool)} (hu : UpF D n k (n + 2) 0 0 F) : FarB D n (blocksM D) F := by
  have hb := blocks_bq hv
  have key : ∀ i j, i ≤ n → j ≤ n → (atF F i j = false ↔ EqD D (plQ n i) D (plQ n j)) := fun i j hi hj => by
    constructor
    · intro h
      refine Classical.byContradiction fun hne => ?_
      have h1 := hu.low hi hj (apart_by hv hi hj hne)
      rw [h] at h1; cases h1
    · intro h
      cases h2 : atF F i j with
      | false => rfl
      | true => exact absurd h (hu.so i j hi hj h2)
  have hnn : plQ n n = -1 := if_neg (by omega)
  refine ⟨fun x hx => ?_, fun p x hp hx hl => ?_⟩
  · rw [key x n hx (Nat.le_refl _), hnn]
    have hr := plQ_lt n x hv.pos
    rw [hb.dead _ hr.1 hr.2]
    constructor
    · exact fun e h => not_live_neg D (q := -1) (by decide) (e.live.1 h)
    · exact fun h => dead_eq h (not_live_neg D (by decide))
  · rw [key p x (by omega) (by omega), plQ, plQ, if_pos hp, if_pos hx]
    have hlive : LiveD D (x : Int) := Classical.byContradiction fun h => by
      have := (hb.dead (x : Int) (by omega) (by omega)).2 h
      rcases this with h1 | h1
      · omega
      · exact hl h1
    exact (hb.same (p : Int) (x : Int) (by omega) (by omega) (by omega) (by omega) hlive).symm
/-- The place that was found among the first j. -/
def foundM (Bk : List Int) (S : List Int) (x : Int) (j : Nat) : Int := if blkAt Bk x ∈ (S.take j).map (blkAt Bk) then ((idxM (S.map (blkAt Bk)) (blkAt Bk x) : Nat) : Int) else -1
theorem found_zero (Bk S : List Int) (x : Int) : foundM Bk S x 0 = -1 := by simp [foundM]
theorem found_end (Bk S : List Int) (x : Int) {j : Nat} (h : S.length ≤ j) : foundM Bk S x j = if blkAt Bk x ∈ S.map (blkAt Bk) then ((idxM (S.map (blkAt Bk)) (blkAt Bk x) : Nat) : Int) else -1 := by
  rw [foundM, List.take_of_length_le h]
theorem found_stay {Bk S : List Int} {x : Int} {j : Nat} (h : 0 ≤ foundM Bk S x j) : foundM Bk S x j = ((idxM (S.map (blkAt Bk)) (blkAt Bk x) : Nat) : Int) ∧ blkAt Bk x ∈ S.map (blkAt Bk) := by
  unfold foundM at h ⊢
  split at h
  · rename_i h1
    rw [if_pos h1]
    refine ⟨rfl, ?_⟩
    obtain ⟨q, hq, e⟩ := List.mem_map.1 h1
    exact List.mem_map.2 ⟨q, List.mem_of_mem_take hq, e⟩
  · exact absurd h (by decide)
theorem found_neg {Bk S : List Int} {x : Int} {j : Nat} (h : foundM Bk S x j < 0) : foundM Bk S x j = -1 := by
  unfold foundM at h ⊢
  split at h
  · omega
  · rename_i h1; rw [if_neg h1]
theorem found_next {Bk S : List Int} {x p : Int} {j : Nat} (h : foundM Bk S x j < 0) (hp : S[j]? = some p) : foundM Bk S x (j + 1) = if blkAt Bk p = blkAt Bk x then (j : Int) else -1 := by
  have hno : blkAt Bk x ∉ (S.take j).map (blkAt Bk) := fun hm => by
    unfold foundM at h
    rw [if_pos hm] at h
    omega
  have hjl := (List.getElem?_eq_some_iff.1 hp).1
  have htk : S.take (j + 1) = S.take j ++ [p] := by rw [List.take_add_one, hp]; rfl
  unfold foundM
  by_cases he : blkAt Bk p = blkAt Bk x
  · rw [if_pos he, if_pos (by rw [htk, List.map_append]; exact List.mem_append_right _ (by simp [he]))]
    have hS : S.map (blkAt Bk) = (S.take j).map (blkAt Bk) ++ (S.drop j).map (blkAt Bk) := by rw [← List.map_append, List.take_append_drop]
    have hd : S.drop j = p :: S.drop (j + 1) := by
      have h1 := List.drop_eq_getElem_cons hjl
      rw [h1]
      congr 1
      exact (List.getElem?_eq_some_iff.1 hp).2
    rw [hS, idxM, List.idxOf_append, if_neg hno, hd, List.map_cons, he, List.idxOf_cons]
    simp only [beq_self_eq_true, cond_true, List.length_map, List.length_take]
    omega
  · rw [if_neg he, if_neg]
    rw [htk, List.map_append, List.mem_append]
    rintro (h1 | h1)
    · exact hno h1
    · simp at h1; exact he h1.symm

/-! ### How it lies -/
structure OutR (w : World) (B cb : Nat) (C : List Value) (sv nv : Value) (vals : List Value) (tv : Value) (next : List (List Int)) (tags : List Nat) : Prop where
  blk : w.heap[cb]? = some (.cells (C ++ [nv, tv]).toArray 38 (0, 0))
  row : w.ownsRow B 100 1 nv next.length vals
  at_ : ∀ (i : Nat) (r : List Int), next[i]? = some r → ∃ v, vals[i]? = some v ∧ w.ownsRow B 3 1 v r.length (intsV r) ∧ ∀ k, v.ownBlock = some k → sv.ownBlock ≠ some k
  tgs : w.ownsRow B 28 1 tv tags.length (setsV tags)
section
variable {w w' : World} {B cb : Nat} {C : List Value} {sv nv : Value} {vals : List Value} {tv : Value} {next : List (List Int)} {tags : List Nat}
theorem OutR.move (h : OutR w B cb C sv nv vals tv next tags) (hf : Fr none_ w w') : OutR w' B cb C sv nv vals tv next tags :=
  ⟨hf.at_ h.blk (fun h => h), row_keep h.row hf (fun _ _ h => h), fun i r hr => (h.at_ i r hr).elim fun v q => ⟨v, q.1, row_keep q.2.1 hf (fun _ _ h => h), q.2.2⟩, row_keep h.tgs hf (fun _ _ h => h)⟩
/-- Behind a row. -/
theorem OutR.over (h : OutR w B cb C sv nv vals tv next tags) {B2 m : Nat} {xs : List Value} (hs : w.ownsRow B2 3 1 sv m xs) {sv' : Value} (hf : Fr (fun k => sv.ownBlock = some k) w w') (ho : sv'.ownBlock = sv.ownBlock ∨ ∀ k, sv'.ownBlock = some k → w.heap.size ≤ k) :
    OutR w' B cb C sv' nv vals tv next tags := by
  refine ⟨hf.at_ h.blk (row_off hs h.blk (by decide)), row_keep h.row hf (fun k hk hx => rows_apart h.row hs (by decide) k hk hx), fun i r hr => ?_, row_keep h.tgs hf (fun k hk hx => rows_apart h.tgs hs (by decide) k hk hx)⟩
  obtain ⟨v, e1, e2, e3⟩ := h.at_ i r hr
  refine ⟨v, e1, row_keep e2 hf (fun k hk hx => e3 k hk hx), fun k hk hk2 => ?_⟩
  rcases ho with e | e
  · exact e3 k hk (by rw [← e]; exact hk2)
  · have := e k hk2; have := (e2.lt k hk).2; omega
/-- Rows of numbers stay where a row, or tags, are laid. -/
theorem OutR.keep (h : OutR w B cb C sv nv vals tv next tags) {B2 m m2 : Nat} {v s : Value} {e : TypeId} {xs ys : List Value} (hv : w.ownsRow B e 1 v m xs) (he : e ≠ 3) (hs : w.ownsRow B2 3 1 s m2 ys) (hf : Fr (fun k => v.ownBlock = some k ∨ k = cb) w w') : w'.ownsRow B2 3 1 s m2 ys :=
  row_keep hs hf (by
    rintro k hk (hx | rfl)
    · exact rows_apart hs hv (fun e2 => he e2.symm) k hk hx
    · exact row_off hs h.blk (by decide) hk)
theorem OutR.put (h : OutR w B cb C sv nv vals tv next tags) (hC : C.length = 256) {w5 : World} {xv : Value} {row : List Int} {g2 cap2 : Nat} (hrow : w.ownsRow B 3 1 xv row.length (intsV row)) (hx : ∀ k, xv.ownBlock = some k → sv.ownBlock ≠ some k)
    (hg : (w.alloc (.cells #[xv] 100)).grownBy w5 nv.ownBlock) (hown : w5.ownsRow B 100 1 (.slice (some ⟨g2, 0, none⟩) (next.length + 1) cap2) (next.length + 1) (vals ++ [xv]))
    (hat : nv.ownBlock = some g2 ∨ g2 = w.heap.size + 1) :
    OutR (w5.setCell ⟨cb, 256, none⟩ (.slice (some ⟨g2, 0, none⟩) (next.length + 1) cap2)) B cb C sv (.slice (some ⟨g2, 0, none⟩) (next.length + 1) cap2) (vals ++ [xv]) tv (next ++ [row]) tags ∧
      Fr (fun k => nv.ownBlock = some k ∨ k = cb) w (w5.setCell ⟨cb, 256, none⟩ (.slice (some ⟨g2, 0, none⟩) (next.length + 1) cap2)) := by
  have f5 : Fr (fun k => nv.ownBlock = some k) w w5 := ((Fr.refl _ w).alloc _).grown hg (fun k hk => .inl hk)
  have f6 : Fr (fun k => nv.ownBlock = some k ∨ k = cb) w (w5.setCell ⟨cb, 256, none⟩ (.slice (some ⟨g2, 0, none⟩) (next.length + 1) cap2)) := (f5.mono (fun k _ hk => .inl hk)).setCell (p := ⟨cb, 256, none⟩) (.inl (.inr rfl)) _
  have hncb : nv.ownBlock ≠ some cb := row_off h.row h.blk (by decide)
  have hblk5 : w5.heap[cb]? = some (.cells (C ++ [nv, tv]).toArray 38 (0, 0)) := f5.at_ h.blk hncb
  have hl : vals.length = next.length := by have := h.row.1; omega
  have hother : ∀ {base : Nat} {e : TypeId} {size n : Nat} {v : Value} {xs : List Value}, w.ownsRow base e size v n xs → e ≠ 100 → e ≠ 38 → ∀ k, v.ownBlock = some k → ¬ (nv.ownBlock = some k ∨ k = cb) := by
    rintro base e size n v xs hr h1 h2 k hk (hx | rfl)
    · exact rows_apart hr h.row h1 k hk hx
    · exact row_off hr h.blk (fun e => h2 e.symm) hk
  have hg2 : g2 ≠ cb := by
    rintro rfl
    rcases hat with e | e
    · exact hncb e
    · have := lt_of_block h.blk; omega
  refine ⟨⟨?_, ?_, ?_, row_keep h.tgs f6 (hother h.tgs (by decide) (by decide))⟩, f6⟩
  · have h1 := heap_setCell w5 hblk5 256 (.slice (some ⟨g2, 0, none⟩) (next.length + 1) cap2)
    rw [set_256 C hC] at h1
    exact h1
  · rw [List.length_append]
    refine ownsRow_same hown (fun k hk => Below.heap_setCell w5 ⟨cb, 256, none⟩ _ k (fun e => ?_))
    simp only [Value.ownBlock, Option.some.injEq] at hk
    exact hg2 (hk.trans e)
  · intro i r hr
    by_cases hi : i < next.length
    · rw [List.getElem?_append_left hi] at hr
      obtain ⟨v, q1, q2, q3⟩ := h.at_ i r hr
      exact ⟨v, by rw [List.getElem?_append_left (by omega)]; exact q1, row_keep q2 f6 (hother q2 (by decide) (by decide)), q3⟩
    · rw [List.getElem?_append_right (by omega)] at hr
      have hi2 : i - next.length = 0 := by
        rcases Nat.eq_zero_or_pos (i - next.length) with e | e
        · exact e
        · rw [List.getElem?_eq_none (by simp; omega)] at hr; simp at hr
      rw [hi2] at hr
      have e2 : row = r := by simpa using hr
      subst e2
      exact ⟨xv, by rw [List.getElem?_append_right (by omega), hl, hi2]; rfl, row_keep hrow f6 (hother hrow (by decide) (by decide)), hx⟩
/-- A tag more. -/
theorem OutR.tag (h : OutR w B cb C sv nv vals tv next tags) (hC : C.length = 256) {wd w5 : World} {z g2 cap2 : Nat} (hwd : Fr none_ w wd)
    (hg : wd.grownBy w5 tv.ownBlock) (hown : w5.ownsRow B 28 1 (.slice (some ⟨g2, 0, none⟩) (tags.length + 1) cap2) (tags.length + 1) (setsV tags ++ [.int .u64 (z : Int)]))
    (hat : tv.ownBlock = some g2 ∨ w.heap.size ≤ g2) :
    OutR (w5.setCell ⟨cb, 257, none⟩ (.slice (some ⟨g2, 0, none⟩) (tags.length + 1) cap2)) B cb C sv nv vals (.slice (some ⟨g2, 0, none⟩) (tags.length + 1) cap2) next (tags ++ [z]) ∧
      Fr (fun k => tv.ownBlock = some k ∨ k = cb) w (w5.setCell ⟨cb, 257, none⟩ (.slice (some ⟨g2, 0, none⟩) (tags.length + 1) cap2)) := by
  have f5 : Fr (fun k => tv.ownBlock = some k) w w5 := hwd.none.grown hg (fun k hk => .inl hk)
  have f6 : Fr (fun k => tv.ownBlock = some k ∨ k = cb) w (w5.setCell ⟨cb, 257, none⟩ (.slice (some ⟨g2, 0, none⟩) (tags.length + 1) cap2)) := (f5.mono (fun k _ hk => .inl hk)).setCell (p := ⟨cb, 257, none⟩) (.inl (.inr rfl)) _
  have hncb : tv.ownBlock ≠ some cb := row_off h.tgs h.blk (by decide)
  have hblk5 : w5.heap[cb]? = some (.cells (C ++ [nv, tv]).toArray 38 (0, 0)) := f5.at_ h.blk hncb
  have hother : ∀ {base : Nat} {e : TypeId} {size n : Nat} {v : Value} {xs : List Value}, w.ownsRow base e size v n xs → e ≠ 28 → e ≠ 38 → ∀ k, v.ownBlock = some k → ¬ (tv.ownBlock = some k ∨ k = cb) := by
    rintro base e size n v xs hr h1 h2 k hk (hx | rfl)
    · exact rows_apart hr h.tgs h1 k hk hx
    · exact row_off hr h.blk (fun e => h2 e.symm) hk
  have hg2 : g2 ≠ cb := by
    rintro rfl
    rcases hat with e | e
    · exact hncb e
    · have := lt_of_block h.blk; omega
  refine ⟨⟨?_, row_keep h.row f6 (hother h.row (by decide) (by decide)), fun i r hr => (h.at_ i r hr).elim fun v q => ⟨v, q.1, row_keep q.2.1 f6 (hother q.2.1 (by decide) (by decide)), q.2.2⟩, ?_⟩, f6⟩
  · have h1 := heap_setCell w5 hblk5 257 (.slice (some ⟨g2, 0, none⟩) (tags.length + 1) cap2)
    rw [set_257 C hC] at h1
    exact h1
  · have e2 : setsV (tags ++ [z]) = setsV tags ++ [.int .u64 (z : Int)] := by simp [setsV]
    rw [List.length_append, e2]
    refine ownsRow_same hown (fun k hk => Below.heap_setCell w5 ⟨cb, 257, none⟩ _ k (fun e => ?_))
    simp only [Value.ownBlock, Option.some.injEq] at hk
    exact hg2 (hk.trans e)
/-- It lies above all that was there. -/
theorem OutR.high (h : OutR w B cb C sv nv vals tv next tags) (hf : Fr (fun k => k < B) w w') : RowsIn w' nv next ∧ SetsIn w' tv tags := by
  have hn : NextD w' B nv vals next := ⟨row_keep h.row hf (fun k hk e => by have := (h.row.lt k hk).1; omega), fun i x hx => (h.at_ i x hx).elim fun v q => ⟨v, q.1, ⟨_, row_keep q.2.1 hf (fun k hk e => by have := (q.2.1.lt k hk).1; omega)⟩⟩⟩
  exact ⟨hn.rows, sets_in (row_keep h.tgs hf (fun k hk e => by have := (h.tgs.lt k hk).1; omega))⟩
theorem OutR.ones (h : OutR w B cb C sv nv vals tv next tags) : nv.oneCell' = true ∧ tv.oneCell' = true := by
  obtain ⟨a, c, rfl, _⟩ := ownsRow_slice h.row
  obtain ⟨b, e, rfl, _⟩ := ownsRow_slice h.tgs
  exact ⟨rfl, rfl⟩
end
/-- Within a row: the states found, and the row. -/
structure RowR (wb w : World) (B : Nat) (sv0 sv : Value) (S : List Int) (xv : Value) (row : List Int) : Prop where
  st : w.ownsRow B 3 1 sv S.length (intsV S)
  own : w.ownsRow wb.heap.size 3 1 xv row.length (intsV row)
  ne : ∀ k, xv.ownBlock = some k → sv.ownBlock ≠ some k
  old : sv.ownBlock = sv0.ownBlock ∨ ∀ k, sv.ownBlock = some k → wb.heap.size ≤ k
  fr : Fr (fun k => sv0.ownBlock = some k) wb w
section
variable {wb w w' w5 : World} {B : Nat} {sv0 sv xv : Value} {S row : List Int} {z : Int} {o : Obj} {g2 cap2 : Nat}
theorem RowR.move (h : RowR wb w B sv0 sv S xv row) (hf : Fr none_ w w') : RowR wb w' B sv0 sv S xv row :=
  ⟨row_keep h.st hf (fun _ _ h => h), row_keep h.own hf (fun _ _ h => h), h.ne, h.old, h.fr.trans hf (fun _ _ h => h.elim)⟩
theorem RowR.start (h : w.ownsRow B 3 1 sv S.length (intsV S)) : RowR w w B sv sv S (.slice none 0 0) [] :=
  ⟨h, World.ownsRow_nil _ _ _ _, fun k hk => by simp [Value.ownBlock] at hk, .inl rfl, Fr.refl _ _⟩
/-- A number more in the row. -/
theorem RowR.put (h : RowR wb w B sv0 sv S xv row) (hg : (w.alloc o).grownBy w5 xv.ownBlock) (hown : w5.ownsRow wb.heap.size 3 1 (.slice (some ⟨g2, 0, none⟩) (row.length + 1) cap2) (row.length + 1) (intsV row ++ [.int .i64 z]))
    (hat : xv.ownBlock = some g2 ∨ g2 = w.heap.size + 1) : RowR wb w5 B sv0 sv S (.slice (some ⟨g2, 0, none⟩) (row.length + 1) cap2) (row ++ [z]) := by
  have f5 : Fr (fun k => xv.ownBlock = some k) w w5 := ((Fr.refl _ w).alloc _).grown hg (fun k hk => .inl hk)
  refine ⟨row_keep h.st f5 (fun k hk hx => h.ne k hx hk), by rw [List.length_append, intsV_snoc]; exact hown, fun k hk hk2 => ?_, h.old, h.fr.trans f5 (fun k hk hx => by have := (h.own.lt k hx).1; omega)⟩
  obtain rfl : g2 = k := by simpa [Value.ownBlock] using hk
  rcases hat with e | e
  · exact h.ne g2 e hk2
  · have := (h.st.lt g2 hk2).2; omega
/-- A state more. -/
theorem RowR.more (h : RowR wb w B sv0 sv S xv row) (hg : (w.alloc o).grownBy w5 sv.ownBlock) (hown : w5.ownsRow B 3 1 (.slice (some ⟨g2, 0, none⟩) (S.length + 1) cap2) (S.length + 1) (intsV S ++ [.int .i64 z]))
    (hat : sv.ownBlock = some g2 ∨ g2 = w.heap.size + 1) : RowR wb w5 B sv0 (.slice (some ⟨g2, 0, none⟩) (S.length + 1) cap2) (S ++ [z]) xv row := by
  have f5 : Fr (fun k => sv.ownBlock = some k) w w5 := ((Fr.refl _ w).alloc _).grown hg (fun k hk => .inl hk)
  have hsz := h.fr.size
  refine ⟨by rw [List.length_append, intsV_snoc]; exact hown, row_keep h.own f5 (fun k hk hx => h.ne k hk hx), fun k hk hk2 => ?_, ?_, h.fr.trans f5 (fun k hk hx => ?_)⟩
  · obtain rfl : g2 = k := by simpa [Value.ownBlock] using hk2
    rcases hat with e | e
    · exact h.ne g2 hk e
    · have := (h.own.lt g2 hk).2; omega
  · rcases hat with e | e
    · rcases h.old with q | q
      · exact .inl (by rw [← q, e]; rfl)
      · exact .inr (fun k hk => by
          obtain rfl : g2 = k := by simpa [Value.ownBlock] using hk
          exact q g2 e)
    · exact .inr (fun k hk => by
        obtain rfl : g2 = k := by simpa [Value.ownBlock] using hk
        omega)
  · rcases h.old with q | q
    · rw [← q]; exact hx
    · have := q k hx; omega
end
end Go.Proofs.YtnenbihmokolpaaGreatDoor

namespace Go.Proofs.YtnenbihmokolpaaGreatDoor set_option linter.unusedVariables false set_option linter.unusedSimpArgs false
open Go.RowKit

set_option maxRecDepth 100000 in
set_option maxHeartbeats 4000000 in
theorem refvalid_any (D : Dfa) (n k : Nat) (v : Value) (w : World) (h : DfaIn w v D) (hv : DV D n k) (hn : n ≤ 10000) (hk : k ≤ 1000000) :
    Calls Tryz.prog 38 #[v] w fun e w' => e = .returned (.bool true) ∧ Fr none_ w w' := by
  obtain ⟨C, na, ta, ncap, tcap, rfl, hz, hCQ, h256, h257, hrow, htag⟩ := h.whole
  rw [hv.hn] at h256
  rw [hv.ht] at h257
  have hpos := hv.pos
  have HV := Lib.hid hv
  have HCLS := Lib.hid (show ∀ j, j < 256 → ∃ c : Nat, C.toArray[j]? = some (.int .i64 (c : Int)) ∧ c < k from fun j hj => by
    have hjl : j < D.cls.length := by rw [h.len]; exact hj
    have h1 := hv.cls _ (List.getElem_mem hjl)
    obtain ⟨c, hc⟩ := Int.eq_ofNat_of_zero_le h1.1
    refine ⟨c, ?_, by omega⟩
    rw [List.getElem?_toArray, hCQ, List.getElem?_append_left (by rw [intsV_length]; exact hjl)]
    simp [intsV, List.getElem?_eq_getElem hjl, hc])
  have B0 := Lib.hid (alloc_new w (.cells C.toArray 38))
  have F0 := Lib.hid ((Fr.refl none_ w).alloc (.cells C.toArray 38))
  have HROW := Lib.hid (show ∀ j r, D.next[j]? = some r → ∃ ad rv, na = some ad ∧ (w.alloc (.cells C.toArray 38)).cell? (ad.add j) = some rv ∧ NumsIn (w.alloc (.cells C.toArray 38)) rv r from fun j r hr => by
    obtain ⟨ad, rv, e1, e2, e3⟩ := hrow j r hr
    exact ⟨ad, rv, e1, cell_move F0.out e2, e3.move F0.out⟩)
  have f1 : (w.alloc (.cells C.toArray 38)).cell? ⟨w.heap.size, 256, none⟩ = some (.slice na n ncap) := cell_of_block B0.out (by simpa using h256)
  have f2 : (w.alloc (.cells C.toArray 38)).cell? ⟨w.heap.size, 257, none⟩ = some (.slice ta n tcap) := cell_of_block B0.out (by simpa using h257)
  obtain ⟨r0, hr0⟩ : ∃ r, D.next[0]? = some r := ⟨_, List.getElem?_eq_getElem (by rw [hv.hn]; exact hpos)⟩
  have hr0k : r0.length = k := (hv.row _ (List.mem_of_getElem? hr0)).1
  obtain ⟨ad, rv0, rfl, hc0, ra0, rcap0, rfl, _⟩ := HROW.out 0 r0 hr0
  rw [hr0k, Addr.add_zero'] at hc0
  have hn0 : ((n : Int) == 0) = false := by simp; omega
  have hn1 : (0 : Int) < (n : Int) := by omega
  have hnn : ((n : Int) != (n : Int)) = false := by simp
  have hkk : ((k : Int) != (k : Int)) = false := by simp
  clear h hrow htag hv hCQ h256 h257 hr0 hr0k
  go_enter Tryz.func38, Tryz.ntmps38
  go_wp2_with fail
  go_loopw [4] (fun x4 wr => ∃ i : Nat, i ≤ n ∧ x4 = .int .i64 i ∧ Aside (Fr none_ (w.alloc (.cells C.toArray 38)) wr)) (fun x4 _ => n - (intOf x4).toNat)
  case atStart => exact ⟨0, Nat.zero_le _, rfl, Fr.refl _ _⟩
  case round =>
    obtain ⟨i, hi', rfl, h'⟩ := hrel
    have HF := Lib.hid h'.out
    clear h'
    have hi0 : (0 : Int) ≤ (i : Int) := by omega
    have f1r := cell_move HF.out f1
    by_cases hlt : i < n
    case pos =>
      have hil : (i : Int) < (n : Int) := by omega
      obtain ⟨r, hr⟩ : ∃ r, D.next[i]? = some r := ⟨_, List.getElem?_eq_getElem (by rw [HV.out.hn]; exact hlt)⟩
      obtain ⟨hrk, hrt⟩ := HV.out.row _ (List.mem_of_getElem? hr)
      obtain ⟨ad2, rv, hada, hc1, ra, rcap, rfl, hrc⟩ := HROW.out i r hr
      injection hada with hada
      subst hada
      rw [hrk] at hc1
      have f3 := cell_move HF.out hc1
      have HRC := Lib.hid hrc
      have HRT := Lib.hid hrt
      have HRK := Lib.hid hrk
      clear hr hrc hrt hrk hc1
      go_wp2_with fail
      go_loopw [5] (fun x5 ws => ∃ c : Nat, c ≤ k ∧ x5 = .int .i64 c ∧ Aside (Fr none_ wr ws)) (fun x5 _ => k - (intOf x5).toNat)
      case atStart => exact ⟨0, Nat.zero_le _, rfl, Fr.refl _ _⟩
      case round =>
        rename_i ws
        obtain ⟨c, hc', rfl, h'⟩ := hrel
        have HG := Lib.hid h'.out
        clear h'
        have hc0' : (0 : Int) ≤ (c : Int) := by omega
        by_cases hlt2 : c < k
        case pos =>
          have hcl : (c : Int) < (k : Int) := by omega
          obtain ⟨t, ht⟩ : ∃ t, r[c]? = some t := ⟨_, List.getElem?_eq_getElem (by rw [HRK.out]; exact hlt2)⟩
          have htr := HRT.out t (List.mem_of_getElem? ht)
          obtain ⟨xd, rfl, hcx⟩ := HRC.out c t ht
          have g1 := cell_move HG.out f1r
          have g2 := cell_move HG.out f3
          have g3 := cell_move (HF.out.tr HG.out) hcx
          have b1 : decide (t < -1) = false := by simp; omega
          have b2 : decide ((n : Int) ≤ t) = false := by simp; omega
          clear ht hcx
          go_wp2_with fail
          go_quiet (fail)
          go_wp2_with fail
          go_roundw
          case rel => exact ⟨c + 1, by omega, by go_num, HG.out.drewN _⟩
          case measure => simp [intOf]; omega
        case neg =>
          have hcl : ¬ (c : Int) < (k : Int) := by omega
          go_wp2_with fail
          go_roundw
          case rel => exact ⟨i + 1, by omega, by go_num, HF.out.tr HG.out⟩
          case measure => simp [intOf]; omega
    case neg =>
      have hil : ¬ (i : Int) < (n : Int) := by omega
      go_wp2_with fail
      go_loop [6] (fun x6 => ∃ j : Nat, j ≤ 256 ∧ x6 = .int .i64 j) (fun x6 => 256 - (intOf x6).toNat)
      case atStart => exact ⟨0, by omega, rfl⟩
      case round =>
        obtain ⟨j, hj, rfl⟩ := hrel
        by_cases hlt2 : j < 256
        case pos =>
          have hjl : (j : Int) < 256 := by omega
          have hj0 : (0 : Int) ≤ (j : Int) := by omega
          obtain ⟨c, hc1, hc2⟩ := HCLS.out j hlt2
          have g1 : wr.cell? ⟨w.heap.size, j, none⟩ = some (.int .i64 (c : Int)) := cell_move HF.out (cell_of_block B0.out hc1)
          have hc3 : ¬ (k : Int) ≤ (c : Int) := by omega
          have hc4 : ¬ (c : Int) < 0 := by omega
          clear hc1
          go_wp2_with fail
          go_round
          case rel => exact ⟨j + 1, by omega, by go_num⟩
          case measure => simp [intOf]; omega
        case neg =>
          have hjl : ¬ (j : Int) < 256 := by omega
          go_wp2_with fail
          go_ret
          exact ⟨rfl, F0.out.tr HF.out⟩
end Go.Proofs.YtnenbihmokolpaaGreatDoor

namespace Go.Proofs.YtnenbihmokolpaaGreatDoor set_option linter.unusedVariables false set_option linter.unusedSimpArgs false
open Go.RowKit

theorem neq_ints (xs : List Int) (hx : xs.length = 256) (w : World) :
    (binOp .neq 22 (.agg (intsV xs).toArray) (.agg (intsV xs).toArray)).run Tryz.prog w = .ok (.bool false) w := by
  have h := eql_ints xs xs hx hx w
  rw [run_eql_struct, decide_eq_true rfl] at h
  rw [run_neq_struct]
  revert h
  generalize (Op.equalIn 10000 22 (.agg (intsV xs).toArray) (.agg (intsV xs).toArray)).run Tryz.prog w = R
  intro h
  cases R with
  | ok b w' =>
    simp only [Result.andThen] at h ⊢
    injection h with h1 h2
    injection h1 with h1
    subst h1; subst h2; rfl
  | _ => simp [Result.andThen] at h

set_option maxRecDepth 100000 in
set_option maxHeartbeats 4000000 in
theorem refsame_any (D : Dfa) (v u : Value) (w : World) (hA : DfaIn w v D) (hB : DfaIn w u D) (t1 : D.tags.length ≤ 9223372036854775807) :
    Calls Tryz.prog 16 #[v, u] w fun e w' => e = .returned (.bool true) ∧ Fr none_ w w' := by
  obtain ⟨C, na, ta, nc, tc, rfl, hz, hCQ, h256, h257, hrow, htag⟩ := hA.whole
  obtain ⟨E, nb, tb, nd, td, rfl, hy, hEQ, g256, g257, grow, gtag⟩ := hB.whole
  have HC := Lib.hid hCQ
  have HE := Lib.hid hEQ
  have HRA := Lib.hid hrow
  have HTA := Lib.hid htag
  have HRB := Lib.hid grow
  have HTB := Lib.hid gtag
  have SA := Lib.hid hA.small
  have hqa : (intsV D.cls).length = 256 := by rw [intsV_length, hA.len]
  have heq := neq_ints D.cls hA.len
  obtain ⟨WB, hWB⟩ : ∃ W, (w.alloc (.cells C.toArray 38)).alloc (.cells E.toArray 38) = W := ⟨_, rfl⟩
  have B0 := Lib.hid (show WB.heap[w.heap.size]? = some (.cells C.toArray 38 (0, 0)) by rw [← hWB]; exact ((Fr.refl none_ (w.alloc (.cells C.toArray 38))).alloc _).at_ (alloc_new w _) (fun h => h))
  have B1 := Lib.hid (show WB.heap[w.heap.size + 1]? = some (.cells E.toArray 38 (0, 0)) by
    have h1 := alloc_new (w.alloc (.cells C.toArray 38)) (.cells E.toArray 38)
    rw [show (w.alloc (.cells C.toArray 38)).heap.size = w.heap.size + 1 by simp, hWB] at h1
    exact h1)
  have FW := Lib.hid (show Fr none_ w WB by rw [← hWB]; exact ((Fr.refl none_ w).alloc _).alloc _)
  have R0 := Lib.hid (show WB.rangeAt w.heap.size 0 (intsV D.cls) from range_pre (D := [.slice na D.next.length nc, .slice ta D.tags.length tc]) (by rw [← HC.out]; exact range_of B0.out))
  have R1 := Lib.hid (show WB.rangeAt (w.heap.size + 1) 0 (intsV D.cls) from range_pre (D := [.slice nb D.next.length nd, .slice tb D.tags.length td]) (by rw [← HE.out]; exact range_of B1.out))
  obtain ⟨N, hN⟩ : ∃ N, D.next.length = N := ⟨_, rfl⟩
  obtain ⟨T, hT⟩ : ∃ T, D.tags.length = T := ⟨_, rfl⟩
  rw [hN] at h256 g256
  rw [hT] at h257 g257 t1
  have HN := Lib.hid hN
  have HTL := Lib.hid hT
  have hNb : N ≤ 9223372036854775807 := by rw [← hN]; exact hA.small.1
  have HT := Lib.hid (show ∀ wx, Fr none_ WB wx → wx.cell? ⟨w.heap.size, 256, none⟩ = some (.slice na N nc) ∧ wx.cell? ⟨w.heap.size, 257, none⟩ = some (.slice ta T tc) ∧ wx.cell? ⟨w.heap.size + 1, 256, none⟩ = some (.slice nb N nd) ∧ wx.cell? ⟨w.heap.size + 1, 257, none⟩ = some (.slice tb T td) from fun wx hf =>
    ⟨cell_of_block (hf.at_ B0.out (fun h => h)) (by simpa using h256), cell_of_block (hf.at_ B0.out (fun h => h)) (by simpa using h257), cell_of_block (hf.at_ B1.out (fun h => h)) (by simpa using g256), cell_of_block (hf.at_ B1.out (fun h => h)) (by simpa using g257)⟩)
  have hgd : Tryz.prog.eqGuardType Tryz.prog.depth 22 = false := by kernel_rfl
  obtain ⟨f1, f2, f3, f4⟩ := HT.out WB (Fr.refl _ _)
  obtain ⟨Q, hQ⟩ : ∃ Q, intsV D.cls = Q := ⟨_, rfl⟩
  rw [hQ] at hqa heq R0 R1
  have hNN : ((N : Int) != (N : Int)) = false := by simp
  have hTT : ((T : Int) != (T : Int)) = false := by simp
  clear hA hB hCQ hEQ h256 h257 g256 g257 hrow htag grow gtag hQ hN hT HC HE
  subst hWB
  go_enter Tryz.func16, Tryz.ntmps16
  go_wp2_with (first
    | (refine wpList_load_mid rfl 22 (.tmp 8) rfl w.heap.size 0 rfl Q _ R0.out Tryz.underlying22 rfl ?_ ?_; (rw [hqa]; exact arr_info))
    | (refine wpList_load_mid rfl 22 (.tmp 10) rfl (w.heap.size + 1) 0 rfl Q _ R1.out Tryz.underlying22 rfl ?_ ?_; (rw [hqa]; exact arr_info)))
  clear heq f1 f2 f3 f4
  obtain ⟨W0, hW0⟩ : ∃ W, (w.alloc (.cells C.toArray 38)).alloc (.cells E.toArray 38) = W := ⟨_, rfl⟩
  rw [hW0] at HT FW ⊢
  clear hW0 B0 B1 R0 R1
  go_loopw [5] (fun x5 wr => ∃ i : Nat, i ≤ T ∧ x5 = .int .i64 i ∧ Aside (Fr none_ W0 wr)) (fun x5 _ => T - (intOf x5).toNat)
  case atStart => exact ⟨0, Nat.zero_le _, rfl, Fr.refl _ _⟩
  case round =>
    obtain ⟨i, hi', rfl, h'⟩ := hrel
    have HF := Lib.hid h'.out
    clear h'
    have hi0 : (0 : Int) ≤ (i : Int) := by omega
    obtain ⟨f1, f2, f3, f4⟩ := HT.out wr HF.out
    by_cases hlt : i < T
    case pos =>
      have hil : (i : Int) < (T : Int) := by omega
      obtain ⟨z, hzz⟩ : ∃ z, D.tags[i]? = some z := ⟨_, List.getElem?_eq_getElem (by rw [HTL.out]; exact hlt)⟩
      obtain ⟨ad1, rfl, q1⟩ := HTA.out i z hzz
      obtain ⟨ad2, rfl, q2⟩ := HTB.out i z hzz
      replace q1 := cell_move (FW.out.tr HF.out) q1
      replace q2 := cell_move (FW.out.tr HF.out) q2
      have g1 : ((z : Int) != (z : Int)) = false := by simp
      clear hzz f1 f3
      go_wp2_with fail
      go_quiet (fail)
      go_wp2_with fail
      go_roundw
      case rel => exact ⟨i + 1, by omega, by go_num, HF.out.drewN _⟩
      case measure => simp [intOf]; omega
    case neg =>
      have hil : ¬ (i : Int) < (T : Int) := by omega
      go_wp2_with fail
      clear f1 f2 f3 f4
      obtain ⟨wo, hwo⟩ : ∃ x, x = wr := ⟨_, rfl⟩
      subst hwo
      go_loopw [6] (fun x6 ws => ∃ j : Nat, j ≤ N ∧ x6 = .int .i64 j ∧ Aside (Fr none_ W0 ws)) (fun x6 _ => N - (intOf x6).toNat)
      case atStart => exact ⟨0, Nat.zero_le _, rfl, HF.out⟩
      case round =>
        obtain ⟨j, hj', rfl, h'⟩ := hrel
        have HG := Lib.hid h'.out
        clear h'
        have hj0 : (0 : Int) ≤ (j : Int) := by omega
        obtain ⟨f1, f2, f3, f4⟩ := HT.out wr HG.out
        by_cases hlt2 : j < N
        case neg =>
          have hjl : ¬ (j : Int) < (N : Int) := by omega
          go_wp2_with fail
          go_ret
          exact ⟨rfl, FW.out.tr HG.out⟩
        case pos =>
          have hjl : (j : Int) < (N : Int) := by omega
          obtain ⟨r, hr⟩ : ∃ r, D.next[j]? = some r := ⟨_, List.getElem?_eq_getElem (by rw [HN.out]; exact hlt2)⟩
          have hrs := SA.out.2 _ (List.mem_of_getElem? hr)
          obtain ⟨ad1, rv1, rfl, q1, ra, rc, rfl, q3⟩ := HRA.out j r hr
          obtain ⟨ad2, rv2, rfl, q2, rb, rd, rfl, q4⟩ := HRB.out j r hr
          obtain ⟨K, hK⟩ : ∃ K, r.length = K := ⟨_, rfl⟩
          rw [hK] at q1 q2 hrs
          have HK := Lib.hid hK
          have HQ1 := Lib.hid q1
          have HQ2 := Lib.hid q2
          have HQ3 := Lib.hid q3
          have HQ4 := Lib.hid q4
          replace q1 := cell_move (FW.out.tr HG.out) q1
          replace q2 := cell_move (FW.out.tr HG.out) q2
          have g1 : ((K : Int) != (K : Int)) = false := by simp
          clear hr hK q3 q4 f2 f4
          go_wp2_with fail
          go_quiet (fail)
          go_wp2_with fail
          clear f1 f3 q1 q2
          have HG2 := Lib.hid (HG.out.drewN nq)
          obtain ⟨wp, hwp⟩ : ∃ x, x = wr := ⟨_, rfl⟩
          subst hwp
          go_loopw [7] (fun x7 wt => ∃ c : Nat, c ≤ K ∧ x7 = .int .i64 c ∧ Aside (Fr none_ W0 wt)) (fun x7 _ => K - (intOf x7).toNat)
          case atStart => exact ⟨0, Nat.zero_le _, rfl, HG2.out⟩
          case round =>
            obtain ⟨c, hc', rfl, h'⟩ := hrel
            have HI := Lib.hid h'.out
            clear h'
            have hc0 : (0 : Int) ≤ (c : Int) := by omega
            obtain ⟨f1, f2, f3, f4⟩ := HT.out wr HI.out
            have q1 := cell_move (FW.out.tr HI.out) HQ1.out
            have q2 := cell_move (FW.out.tr HI.out) HQ2.out
            by_cases hlt3 : c < K
            case pos =>
              have hcl : (c : Int) < (K : Int) := by omega
              obtain ⟨t, ht⟩ : ∃ t, r[c]? = some t := ⟨_, List.getElem?_eq_getElem (by rw [HK.out]; exact hlt3)⟩
              obtain ⟨xd1, rfl, q3⟩ := HQ3.out c t ht
              obtain ⟨xd2, rfl, q4⟩ := HQ4.out c t ht
              replace q3 := cell_move (FW.out.tr HI.out) q3
              replace q4 := cell_move (FW.out.tr HI.out) q4
              have g3 : (t != t) = false := by simp
              clear ht f2 f4
              go_wp2_with fail
              go_quiet (fail)
              go_wp2_with fail
              go_roundw
              case rel => exact ⟨c + 1, by omega, by go_num, HI.out.drewN _⟩
              case measure => simp [intOf]; omega
            case neg =>
              have hcl : ¬ (c : Int) < (K : Int) := by omega
              go_wp2_with fail
              go_roundw
              case rel => exact ⟨j + 1, by omega, by go_num, HI.out⟩
              case measure => simp [intOf]; omega
end Go.Proofs.YtnenbihmokolpaaGreatDoor

namespace Go.Proofs.YtnenbihmokolpaaGreatDoor set_option linter.unusedVariables false set_option linter.unusedSimpArgs false
open Go.RowKit

theorem results_r05 {fn : Func} {tm u : Nat} (h : fn.results = #[.cell tm 38, .tmp u]) {tmps : Array Value} {r : Nat} (hp : tmps.getD tm undef = .pointer (some ⟨r, 0, none⟩)) {w : World} {cs : List Value} {t : TypeId}
    (hb : w.heap[r]? = some (.cells cs.toArray t (0, 0))) (hz : cs.length = 258) : (results fn tmps).run Tryz.prog w = .ok (.tuple #[.agg cs.toArray, tmps.getD u undef]) w := by
  have hl := run_loadVar_mid (P := Tryz.prog) w r 0 38 cs _ (range_of hb) Tryz.underlying38 rfl (by rw [hz]; exact refD_info)
  rw [results_cell_tmp h, hp]
  simp [hl, asAddr, Result.andThen]

set_option maxRecDepth 100000 in
set_option maxHeartbeats 16000000 in
theorem refleast_any (D : Dfa) (n k : Nat) (v : Value) (w : World) (h : DfaIn w v D) (hv : DV D n k) (hn : n ≤ 10000) (hk : k ≤ 1000) (ht : ∀ t ∈ D.tags, t < 18446744073709551616) :
    Calls Tryz.prog 15 #[v] w fun e w' => ∃ u, e = .returned (.tuple #[u, .int .i64 0]) ∧ DfaIn w' u (leastM D) ∧ Fr none_ w w' := by
  obtain ⟨C, na, ta, ncap, tcap, rfl, hz, hCQ, h256, h257, hrow, htag⟩ := h.whole
  rw [hv.hn] at h256
  rw [hv.ht] at h257
  have hq : (intsV D.cls).length = 256 := by rw [intsV_length, h.len]
  have HLEN := Lib.hid h.len
  have HD := Lib.hid h
  have HV := Lib.hid hv
  have HT := Lib.hid ht
  have HROW := Lib.hid hrow
  have HTAG := Lib.hid htag
  have H256 := Lib.hid h256
  have H257 := Lib.hid h257
  have hpos := hv.pos
  have hqm : ∀ u ∈ intsV D.cls, u.oneCell' = true := fun u hu => by
    simp only [intsV, List.mem_map] at hu
    obtain ⟨m, _, rfl⟩ := hu
    rfl
  obtain ⟨Q, hQ⟩ : ∃ Q, intsV D.cls = Q := ⟨_, rfl⟩
  rw [hQ] at hq hCQ hqm
  have HCQ := Lib.hid hCQ
  have HQ := Lib.hid hQ
  obtain ⟨r0, hr0⟩ : ∃ r, D.next[0]? = some r := ⟨_, List.getElem?_eq_getElem (by rw [hv.hn]; exact hpos)⟩
  have hr0k : r0.length = k := (hv.row _ (List.mem_of_getElem? hr0)).1
  obtain ⟨ad, rv0, rfl, hc0, ra0, rcap0, rfl, _⟩ := hrow 0 r0 hr0
  rw [hr0k, Addr.add_zero'] at hc0
  have HC0 := Lib.hid hc0
  have B0 := Lib.hid (((Fr.refl none_ (w.alloc (.cells C.toArray 38))).alloc (.cells Tryz.zeroCells38 38)).at_ (alloc_new w (.cells C.toArray 38)) (fun h => h))
  have F0 := Lib.hid (((Fr.refl none_ w).alloc (.cells C.toArray 38)).alloc (.cells Tryz.zeroCells38 38))
  have hb1 := alloc_new (w.alloc (.cells C.toArray 38)) (.cells Tryz.zeroCells38 38)
  rw [show (w.alloc (.cells C.toArray 38)).heap.size = w.heap.size + 1 by simp] at hb1
  have B1 := Lib.hid hb1
  clear h hv ht hrow htag hCQ h256 h257 hr0 hr0k hc0 hb1 hQ
  go_enter Tryz.func15, Tryz.ntmps15
  go_wp2_with (refine wpList_load_row rfl 38 (.tmp 1) rfl w.heap.size 38 C _ rfl B0.out Tryz.underlying38 rfl (by rw [hz]; exact refD_info) ?_)
  refine (refvalid_any D n k _ _ (HD.out.move F0.out) HV.out hn (by omega)).mono ?_
  rintro e w1 ⟨rfl, F1⟩
  have B2 := Lib.hid (F1.at_ B0.out (fun h => h))
  have B3 := Lib.hid (F1.at_ B1.out (fun h => h))
  have FA := Lib.hid (F0.out.tr F1)
  clear F1 B0 B1 F0
  go_wp2_with (refine wpList_load_row rfl 38 (.tmp 1) rfl w.heap.size 38 C _ rfl B2.out Tryz.underlying38 rfl (by rw [hz]; exact refD_info) ?_)
  refine (apart_any D n k _ _ (HD.out.move FA.out) HV.out hn hk).mono ?_
  rintro e wA ⟨u, rfl, hend, F1⟩
  obtain ⟨BF, g, gcap, R, F, wf, tv0, rfl, hst, hup⟩ := hend
  have B4 := Lib.hid (F1.at_ B2.out (fun h => h))
  have B5 := Lib.hid (F1.at_ B3.out (fun h => h))
  have FB := Lib.hid (FA.out.tr F1)
  have HFB := Lib.hid (farB HV.out hup)
  have HCELL := Lib.hid (show ∀ i j, i ≤ n → j ≤ n → ∃ b, wA.cell? ⟨g, i, none⟩ = some (.slice (some ⟨b, 0, none⟩) (n + 1) (n + 1)) ∧ wA.cell? ⟨b, j, none⟩ = some (.bool (atF F i j)) from fun i j hi hj => by
    have hil : i < R.length := by rw [hst.len]; omega
    have hb := List.getElem?_eq_getElem hil
    exact ⟨_, hst.hdr hb, hst.cell hb (by omega)⟩)
  clear F1 hst hup B2 B3 FA
  have f1 : wA.cell? ⟨w.heap.size, 256, none⟩ = some (.slice (some ad) n ncap) := cell_of_block B4.out (by simpa using H256.out)
  obtain ⟨Bk, hBk⟩ : ∃ x, blocksM D = x := ⟨_, rfl⟩
  have HBK := Lib.hid hBk
  have HBQ := Lib.hid (show BQ D n Bk by rw [← hBk]; exact blocks_bq HV.out)
  rw [hBk] at HFB
  have HRG := Lib.hid (show wA.rangeAt w.heap.size 0 Q from range_pre (D := [.slice (some ad) D.next.length ncap, .slice ta D.tags.length tcap]) (by rw [← HCQ.out]; exact range_of B4.out))
  have hfold := fold_class Q hq
  rw [← zeroR_list] at hfold
  have hone2 := cls_one Q hqm (.slice none 0 0) (.slice none 0 0) rfl rfl
  have hz2 : (Q ++ [Value.slice none 0 0, Value.slice none 0 0]).toArray.size = 258 := by simp [hq]
  have LRW := laid_row wA Tryz.zeroCells38 38 (Q ++ [Value.slice none 0 0, Value.slice none 0 0]).toArray
  have LF := Lib.hid LRW.1
  have LB := Lib.hid LRW.2
  have HSZ := Lib.hid (setRow_size wA Tryz.zeroCells38 38 (Q ++ [Value.slice none 0 0, Value.slice none 0 0]).toArray)
  clear LRW hBk
  go_wp2_with (first
    | (refine wpList_load_mid rfl 22 (.tmp 25) rfl w.heap.size 0 rfl Q _ HRG.out Tryz.underlying22 rfl ?_ ?_; (rw [hq]; exact arr_info))
    | (refine wpList_store_row rfl 38 (.tmp 7) (.tmp 27) rfl wA.heap.size 38 Tryz.zeroCells38 (Q ++ [Value.slice none 0 0, Value.slice none 0 0]).toArray rfl rfl (alloc_new wA _) ?_ ?_ hone2 ?_; (rw [hz2]; exact refD_info); (rw [hz2, zeroR_list]; exact zeroD_size)))
  obtain ⟨W6, hW6⟩ : ∃ x, (wA.alloc (.cells Tryz.zeroCells38 38)).setRow wA.heap.size (Q ++ [Value.slice none 0 0, Value.slice none 0 0]).toArray = x := ⟨_, rfl⟩
  rw [hW6] at LF LB HSZ ⊢
  obtain ⟨cb, hcb⟩ : ∃ x, wA.heap.size = x := ⟨_, rfl⟩
  have HCBE := Lib.hid hcb
  rw [hcb] at LB HSZ ⊢
  have hs6 : W6.heap.size = cb + 1 := HSZ.out
  have HSTL := Lib.hid (show (W6.alloc (.cells #[.int .i64 0] 3)).ownsRow cb 3 1 (.slice (some ⟨cb + 1, 0, none⟩) 1 1) 1 (intsV [0]) by
    have h1 := World.ownsRow_lit (base := cb) (e := 3) (size := 1) W6 #[.int .i64 0] 1 (by omega) (by decide) rfl
    rw [hs6] at h1
    exact h1)
  have HOUT := Lib.hid (show OutR (W6.alloc (.cells #[.int .i64 0] 3)) cb cb Q (.slice (some ⟨cb + 1, 0, none⟩) 1 1) (.slice none 0 0) [] (.slice none 0 0) [] [] from
    ⟨((Fr.refl none_ W6).alloc _).at_ LB.out (fun h => h), World.ownsRow_nil _ _ _ _, fun i r h => by simp at h, World.ownsRow_nil _ _ _ _⟩)
  have HW7 := Lib.hid (LF.out.alloc (.cells #[.int .i64 0] 3))
  obtain ⟨W7, hW7⟩ : ∃ x, W6.alloc (.cells #[.int .i64 0] 3) = x := ⟨_, rfl⟩
  rw [hW7] at HSTL HOUT HW7 ⊢
  have HLR0 := Lib.hid (lround_zero HV.out HBQ.out)
  obtain ⟨E, hE⟩ : ∃ E, lend D Bk 100000 0 = E := ⟨_, rfl⟩
  have HEE := Lib.hid hE
  clear hW6 hcb hW7 hfold hone2 LB LF HSZ hE f1 HRG
  try go_wp2_with fail
  go_loopw [8, 9] (fun x8 x9 wr => ∃ i : Nat, x9 = .int .i64 i ∧ Aside (LR D n k Bk i (lround D Bk i) ∧ E = lend D Bk (100000 - i) i) ∧ Aside (∃ nv vals tv, wr.ownsRow cb 3 1 x8 (lround D Bk i).states.length (intsV (lround D Bk i).states) ∧ OutR wr cb cb Q x8 nv vals tv (lround D Bk i).next (lround D Bk i).tags ∧ Fr none_ wA wr)) (fun _ x9 _ => n - (intOf x9).toNat)
  case atStart => exact ⟨0, rfl, ⟨HLR0.out, HEE.out.symm⟩, ⟨_, _, _, HSTL.out, HOUT.out, HW7.out⟩⟩
  case round =>
    obtain ⟨i, rfl, h1', h2'⟩ := hrel
    obtain ⟨hlr, hend⟩ := h1'.out
    obtain ⟨nv, vals, tv, hpl, hol, hfr⟩ := h2'.out
    have HLRi := Lib.hid hlr
    have HEND := Lib.hid hend
    have HPL := Lib.hid hpl
    have HOL := Lib.hid hol
    have HFR := Lib.hid hfr
    have hSn := sts_len HV.out HBQ.out hlr.st
    clear h1' h2' hlr hend hol hfr HSTL HOUT HW7 HLR0
    obtain ⟨x, hx⟩ : ∃ x, lround D Bk i = x := ⟨_, rfl⟩
    have HX := Lib.hid hx
    rw [hx] at HLRi HPL HOL hpl hSn
    clear hx
    have hi0 : (0 : Int) ≤ (i : Int) := by omega
    obtain ⟨sa, scap, rfl, hscp⟩ := ownsRow_slice hpl
    obtain ⟨L, hL⟩ : ∃ L, x.states.length = L := ⟨_, rfl⟩
    have HLL := Lib.hid hL
    rw [hL] at HPL HOL hSn hscp hpl ⊢
    clear hpl hL
    have hcbw : cb + 1 ≤ wr.heap.size := by have := lt_of_block HOL.out.blk; omega
    by_cases hlt : i < L
    case neg =>
      have hiL : i = L := by have := HLRi.out.le; rw [HLL.out] at this; omega
      have hlt' : ¬ (i : Int) < (L : Int) := by omega
      have HFIN := Lib.hid (show leastM D = ⟨D.cls, x.next, x.tags⟩ by
        have h1 := HEND.out
        obtain ⟨f, hf⟩ : ∃ f, 100000 - i = f + 1 := ⟨99999 - i, by omega⟩
        rw [hf, lend, HX.out, HLL.out, if_neg hlt] at h1
        rw [leastM, leastOf, HBK.out, show lend D Bk 100000 0 = i by rw [← h1]; exact HEE.out, HX.out])
      have hone3 := HOL.out.ones
      have hone4 := cls_one Q hqm nv tv hone3.1 hone3.2
      have hz3 : (Q ++ [nv, tv]).toArray.size = 258 := by simp [hq]
      have hz4 : (Q ++ [nv, tv]).length = 258 := by simp [hq]
      have hb := HOL.out.blk
      have hr := HFR.out.at_ B5.out (fun h => h)
      clear hone3
      go_wp2_with (first
        | (refine wpList_load_row rfl 38 (.tmp 7) rfl cb 38 (Q ++ [nv, tv]) _ rfl hb Tryz.underlying38 rfl ?_ ?_; (rw [hz4]; exact refD_info))
        | (refine wpList_store_row rfl 38 (.tmp 2) (.tmp 115) rfl (w.heap.size + 1) 38 Tryz.zeroCells38 (Q ++ [nv, tv]).toArray rfl rfl hr ?_ ?_ hone4 ?_; (rw [hz3]; exact refD_info); (rw [hz3, zeroR_list]; exact zeroD_size)))
      refine bodyPost_ret (results_r05 rfl rfl (setRow_heap _ _ _ _ _ _ hr) hz4) rfl ?_
      have hfw : Fr none_ w (wr.setRow (w.heap.size + 1) (Q ++ [nv, tv]).toArray) := Fr.setRow (FB.out.tr HFR.out) (.inr (by omega)) _
      refine ⟨_, rfl, ?_, hfw⟩
      rw [HFIN.out]
      have hcb1 : w.heap.size + 1 < cb := by have := lt_of_block B5.out; rw [HCBE.out] at this; exact this
      have hdn := HOL.out.high (Fr.setRow (S := fun k => k < cb) (Fr.refl _ wr) (.inl (by show w.heap.size + 1 < cb; exact hcb1)) (Q ++ [nv, tv]).toArray)
      refine ⟨⟨nv, tv, by rw [dfaC]; show _ = Value.agg (intsV D.cls ++ _).toArray; rw [HQ.out], hdn.1, hdn.2⟩, HLEN.out, ?_, ?_⟩
      · show x.next.length ≤ _
        rw [HLRi.out.hn]; omega
      · intro r hr2
        obtain ⟨j, hj, rfl⟩ := List.getElem_of_mem hr2
        have h1 := HLRi.out.row j (by rw [← HLRi.out.hn]; exact hj)
        have h2 : x.next.getD j [] = x.next[j] := by simp [List.getD, List.getElem?_eq_getElem hj]
        rw [h2] at h1
        show x.next[j].length ≤ _
        omega
    case pos =>
      have hil : (i : Int) < (L : Int) := by omega
      have hqs := HLRi.out.st.lt _ (getD_mem (show i < x.states.length by rw [HLL.out]; exact hlt) 0)
      obtain ⟨p, hp⟩ := Int.eq_ofNat_of_zero_le hqs.1
      have hsx : x.states[i]? = some (p : Int) := by
        rw [← hp, List.getD, List.getElem?_eq_getElem (by rw [HLL.out]; exact hlt)]; rfl
      have hpn : p < n := by rw [hp] at hqs; omega
      have HQS := Lib.hid hp
      obtain ⟨r, hr⟩ : ∃ r, D.next[p]? = some r := ⟨_, List.getElem?_eq_getElem (by rw [HV.out.hn]; exact hpn)⟩
      obtain ⟨z, hzz⟩ : ∃ z, D.tags[p]? = some z := ⟨_, List.getElem?_eq_getElem (by rw [HV.out.ht]; exact hpn)⟩
      obtain ⟨td, rfl, hc2⟩ := HTAG.out p z hzz
      have hzl : z < 18446744073709551616 := HT.out z (List.mem_of_getElem? hzz)
      have HRT := Lib.hid (show ∀ t ∈ r, -1 ≤ t ∧ t < n from (HV.out.row r (List.mem_of_getElem? hr)).2)
      have hrk : r.length = k := (HV.out.row r (List.mem_of_getElem? hr)).1
      have HGR := Lib.hid (show D.next.getD p [] = r by rw [List.getD, hr]; rfl)
      have HGT := Lib.hid (show D.tags.getD p 0 = z by rw [List.getD, hzz]; rfl)
      have HRL := Lib.hid hrk
      have HTO := Lib.hid (show ∀ c, c < k → r.getD c 0 = plQ n (toP D n p c) from fun c hc => by
        rw [plQ_toP HV.out, plQ, if_pos hpn, to_at, HGR.out]
        have hcl : c < r.length := by rw [HRL.out]; exact hc
        simp [List.getD, List.getElem?_eq_getElem hcl])
      have HC2 := Lib.hid hc2
      have HIX := Lib.hid hsx
      have HRST := Lib.hid (RowR.start (by rw [HLL.out]; exact HPL.out : wr.ownsRow cb 3 1 (.slice sa L scap) x.states.length (intsV x.states)))
      have HST0 := Lib.hid (fun (j : Nat) (hj : j ≤ r.length) => lrow_ok HBQ.out (row := r) (fun c hc => HRT.out _ (getD_mem hc 0)) HLRi.out.st j hj)
      obtain ⟨wb, hwb⟩ : ∃ y, y = wr := ⟨_, rfl⟩
      subst hwb
      clear hr hzz hc2 hp hsx hqs hrk
      go_wp2_with fail
      go_loopw [8, 10, 11] (fun x8 x10 x11 wr => ∃ c : Nat, c ≤ k ∧ x11 = .int .i64 c ∧ Aside (RowR wb wr cb (.slice sa L scap) x8 (lrow Bk r x.states c).1 x10 (lrow Bk r x.states c).2)) (fun _ _ x11 _ => k - (intOf x11).toNat)
      case atStart => exact ⟨0, Nat.zero_le _, rfl, HRST.out⟩
      case round =>
        obtain ⟨c, hc', rfl, h1'⟩ := hrel
        have HRR := Lib.hid h1'.out
        obtain ⟨hst, hpre, hln, _⟩ := HST0.out c (by rw [HRL.out]; exact hc')
        have hsl := sts_len HV.out HBQ.out hst
        have HSTL := Lib.hid hst.lt
        have HNX := Lib.hid (show lrow Bk r x.states (c + 1) = ((plM Bk (lrow Bk r x.states c).1 (r.getD c 0)).1, (lrow Bk r x.states c).2 ++ [(plM Bk (lrow Bk r x.states c).1 (r.getD c 0)).2]) from rfl)
        obtain ⟨y, hy⟩ : ∃ y, lrow Bk r x.states c = y := ⟨_, rfl⟩
        have HY := Lib.hid hy
        rw [hy] at HRR HNX hln hsl HSTL hpre
        have HPRE := Lib.hid hpre
        clear hpre
        obtain ⟨xa, xcap, rfl, hxc⟩ := ownsRow_slice HRR.out.own
        obtain ⟨sb, sbcap, rfl, hsbc⟩ := ownsRow_slice HRR.out.st
        obtain ⟨M, hM⟩ : ∃ M, y.1.length = M := ⟨_, rfl⟩
        have HM := Lib.hid hM
        rw [hM] at HRR hsl hsbc ⊢
        rw [hln] at HRR hxc ⊢
        have hc0 : (0 : Int) ≤ (c : Int) := by omega
        have HFW := Lib.hid (show Fr none_ wA wr from HFR.out.fresh HRR.out.fr (fun k hk => by
          have h3 := (HPL.out.lt k hk).1
          have h4 := HCBE.out
          omega))
        have f1 : wr.cell? ⟨w.heap.size, 256, none⟩ = some (.slice (some ad) n ncap) := cell_of_block (HFW.out.at_ B4.out (fun h => h)) (by simpa using H256.out)
        have f2 := cell_move (FB.out.tr HFW.out) HC0.out
        clear h1' hy hst hM
        by_cases hlt2 : c < k
        case neg =>
          obtain rfl : c = k := by omega
          have hcl : ¬ (c : Int) < (c : Int) := by omega
          have HLRn := Lib.hid (lround_succ HV.out HBQ.out (i := i) (by rw [HX.out]; exact HLRi.out) (by rw [HX.out, HLL.out]; exact hlt))
          have HNXT := Lib.hid (show lround D Bk (i + 1) = ⟨y.1, x.next ++ [y.2], x.tags ++ [z]⟩ by
            simp only [lround, HX.out, HQS.out, Int.toNat_natCast, HGR.out, HGT.out, HRL.out, HY.out])
          have hOo := HOL.out.over HPL.out HRR.out.fr HRR.out.old
          obtain ⟨na2, ncap2, hnv, hncp⟩ := ownsRow_slice hOo.row
          obtain ⟨ta2, tcap2, htv, htcp⟩ := ownsRow_slice hOo.tgs
          rw [HLRi.out.hn] at hnv hncp
          rw [HLRi.out.ht] at htv htcp
          subst hnv
          subst htv
          have HOO := Lib.hid hOo
          have e256 : wr.cell? ⟨cb, 256, none⟩ = some (.slice na2 i ncap2) := cell_of_block hOo.blk (at_256 Q hq _ _)
          obtain ⟨i0, hi, hz0, hz1, hz3⟩ := info_parts row_info
          have HNR := Lib.hid (show wr.ownsRow cb 100 1 (.slice na2 i ncap2) i vals by have h1 := hOo.row; rw [HLRi.out.hn] at h1; exact h1)
          have HCB := Lib.hid (show ∀ (wn : World), (wr.alloc (.cells #[.slice xa c xcap] 100)).grownBy wn (Value.slice na2 i ncap2).ownBlock → wn.heap[cb]? = some (.cells (Q ++ [Value.slice na2 i ncap2, Value.slice ta2 i tcap2]).toArray 38 (0, 0)) from fun wn hg =>
            (((Fr.refl _ wr).alloc _).grown hg (fun k hk => .inl hk) : Fr (fun k => (Value.slice na2 i ncap2).ownBlock = some k) wr wn).at_ hOo.blk (row_off hOo.row hOo.blk (by decide)))
          have hbw : cb ≤ wr.heap.size := by have := HRR.out.fr.size; omega
          clear hOo
          go_wp2_with (at_builtin; refine wpList_append_lies _ rfl (.tmp 97) (.tmp 99) 23 rfl cb 100 i0 _ 1 24 Tryz.underlying23 hi hz0 hz1 hz3 rfl (by decide) _ i vals rfl (HNR.out.alloc _) ⟨wr.heap.size, 0, none⟩ 1 1 [.slice xa c xcap] rfl rfl (getElem_block (alloc_new _ _)) (by simp [Value.oneCell']) (by decide) (by unfold maxLen; omega) (by omega) (by first | omega | (simp; omega)) (wr.heap.size + 1) (by simp) ?_; intro g2 cap2 w9 hown9 hgrow9 hat9 hlt9; (have HB9 := Lib.hid (HCB.out w9 hgrow9)); (have c256 : w9.cell? ⟨cb, 256, none⟩ = some (.slice na2 i ncap2) := cell_of_block HB9.out (at_256 Q hq _ _)); (have f256 : w9.frozen? ⟨cb, 256, none⟩ = false := free_of_block HB9.out); (have HOW9 := Lib.hid hown9); (have HG9 := Lib.hid hgrow9); (have HA9 : Hid ((Value.slice na2 i ncap2).ownBlock = some g2 ∨ g2 = wr.heap.size + 1) := Lib.hid hat9); clear hown9 hgrow9 hat9 hlt9)
          have hput := OutR.put (row := y.2) (xv := .slice xa c xcap) (g2 := g2) (cap2 := cap2) HOO.out hq (ownsRow_base HRR.out.own (by omega)) HRR.out.ne HG9.out (by rw [HLRi.out.hn]; exact HOW9.out) HA9.out
          rw [HLRi.out.hn] at hput
          have HPq := Lib.hid (HOO.out.keep HOO.out.row (by decide) HRR.out.st hput.2)
          have HFq := Lib.hid (HFW.out.fresh hput.2 (by
            rintro k (hk | rfl)
            · have := (HOO.out.row.lt k hk).1; have := HCBE.out; omega
            · have := HCBE.out; omega))
          have HOq := Lib.hid hput.1
          have hsq : wr.heap.size ≤ (w9.setCell ⟨cb, 256, none⟩ (.slice (some ⟨g2, 0, none⟩) (i + 1) cap2)).heap.size := hput.2.size
          obtain ⟨wq, hwq⟩ : ∃ q, w9.setCell ⟨cb, 256, none⟩ (.slice (some ⟨g2, 0, none⟩) (i + 1) cap2) = q := ⟨_, rfl⟩
          rw [hwq] at HPq HFq HOq hsq ⊢
          have hyi : y.1[i]? = some (p : Int) := by
            obtain ⟨TT, hTT⟩ := HPRE.out
            rw [hTT, List.getElem?_append_left (by rw [HLL.out]; exact hlt)]; exact HIX.out
          obtain ⟨sg2, rfl, hsc3⟩ := row_at0 HPq.out (i := i) (x := .int .i64 (p : Int)) (by simp [intsV, hyi])
          have hiM : (i : Int) < (M : Int) := by
            have h1 := (List.getElem?_eq_some_iff.1 hyi).1
            rw [HM.out] at h1; omega
          have hp0 : (0 : Int) ≤ (p : Int) := by omega
          have hp1 : (p : Int) < (n : Int) := by omega
          have e1 : wq.drew.cell? ⟨w.heap.size, 257, none⟩ = some (.slice (some td) n tcap) := cell_of_block (w := wq.drew) (HFq.out.at_ B4.out (fun h => h)) (by simpa using H257.out)
          have e3 : wq.drew.cell? ⟨sg2, i, none⟩ = some (.int .i64 (p : Int)) := hsc3
          have e4 : wq.drew.cell? (td.add p) = some (.int .u64 z) := cell_move (w' := wq.drew) (FB.out.tr (HFq.out.drew)) HC2.out
          have e5 : wq.drew.cell? ⟨cb, 257, none⟩ = some (.slice ta2 i tcap2) := cell_of_block (w := wq.drew) HOq.out.blk (at_257 Q hq _ _)
          have e6 : (wq.alloc (.cells #[.int .u64 (z : Int)] 28)).cell? ⟨cb, 257, none⟩ = some (.slice ta2 i tcap2) := cell_of_block ((Fr.alloc (Fr.refl none_ wq) _).at_ HOq.out.blk (fun h => h)) (at_257 Q hq _ _)
          obtain ⟨j0, hj, hy0, hy1, hy2⟩ := info_parts set_info
          have HTR := Lib.hid (show wq.ownsRow cb 28 1 (.slice ta2 i tcap2) i (setsV x.tags) by have h1 := HOq.out.tgs; rw [HLRi.out.ht] at h1; exact h1)
          have HCB2 := Lib.hid (show ∀ (wn : World), (wq.drew.alloc (.cells #[.int .u64 (z : Int)] 28)).grownBy wn (Value.slice ta2 i tcap2).ownBlock → wn.heap[cb]? = some (.cells (Q ++ [Value.slice (some ⟨g2, 0, none⟩) (i + 1) cap2, Value.slice ta2 i tcap2]).toArray 38 (0, 0)) from fun wn hg =>
            (((Fr.refl _ wq).drew.alloc _).grown hg (fun k hk => .inl hk) : Fr (fun k => (Value.slice ta2 i tcap2).ownBlock = some k) wq wn).at_ HOq.out.blk (row_off HOq.out.tgs HOq.out.blk (by decide)))
          have hbq : cb ≤ wq.heap.size := by omega
          have HSF := Lib.hid (show ∀ (wn : World), Fr (fun k => (Value.slice ta2 i tcap2).ownBlock = some k ∨ k = cb) wq wn → (wn.cell? ⟨w.heap.size, 257, none⟩ = some (.slice (some td) n tcap) ∧ wn.cell? ⟨sg2, i, none⟩ = some (.int .i64 (p : Int)) ∧ wn.cell? (td.add p) = some (.int .u64 z)) from fun wn hf => by
            have g1 : Fr none_ wA wn := HFq.out.fresh hf (by
              rintro k (hk | rfl)
              · have := (HOq.out.tgs.lt k hk).1; have := HCBE.out; omega
              · have := HCBE.out; omega)
            have g3 := HOq.out.keep HOq.out.tgs (by decide) HPq.out hf
            obtain ⟨sg3, h3, h4⟩ := row_at0 g3 (i := i) (x := .int .i64 (p : Int)) (by simp [intsV, hyi])
            obtain rfl : sg2 = sg3 := by injection h3 with h3; injection h3
            exact ⟨cell_of_block (g1.at_ B4.out (fun h => h)) (by simpa using H257.out), h4, cell_move (FB.out.tr g1) HC2.out⟩)
          clear hput hwq HB9 HNR HCB HOW9 HG9 HA9 c256 f256 e256 hyi hsc3 f1 f2
          go_wp2_with fail
          refine wp_region_held_drew (S := fun wn => wn.cell? ⟨w.heap.size, 257, none⟩ = some (.slice (some td) n tcap) ∧ wn.cell? ⟨sg2, i, none⟩ = some (.int .i64 (p : Int)) ∧ wn.cell? (td.add p) = some (.int .u64 z)) (by kernel_rfl) ⟨e1, e3, e4⟩ (fun hHeld => ?_)
          refine wpAnyH_take (i := 0) (v := ?_) lot0 (by kernel_rfl) (by kernel_rfl) (by kernel_rfl) (fun _ _ _ h => h) (Or.inl ⟨by rfl, ?_⟩) (by assumption) ?_
          rotate_left
          · (intro wv hSw; (try dsimp only at hSw); go_simp) <;> with_reducible rfl
          try simp only [Act.put, List.setIfInBounds_toArray, List.set_cons_zero, List.set_cons_succ]
          refine wpAnyH_take (i := 2) (v := ?_) lot2 (by kernel_rfl) (by kernel_rfl) (by kernel_rfl) (fun _ _ _ h => h) (Or.inl ⟨by rfl, ?_⟩) (by assumption) ?_
          rotate_left
          · (intro wv hSw; (try dsimp only at hSw); go_simp) <;> with_reducible rfl
          try simp only [Act.put, List.setIfInBounds_toArray, List.set_cons_zero, List.set_cons_succ]
          refine wpAnyH_take (i := 3) (v := ?_) lot3 (by kernel_rfl) (by kernel_rfl) (by kernel_rfl) (fun _ _ _ h => h) (Or.inl ⟨by rfl, ?_⟩) (by assumption) ?_
          rotate_left
          · (intro wv hSw; (try dsimp only at hSw); go_simp) <;> with_reducible rfl
          try simp only [Act.put, List.setIfInBounds_toArray, List.set_cons_zero, List.set_cons_succ]
          refine wpAnyH_take (i := 4) (v := ?_) lot4 (by kernel_rfl) (by kernel_rfl) (by kernel_rfl) (fun _ _ _ h => h) (Or.inl ⟨by rfl, ?_⟩) (by assumption) ?_
          rotate_left
          · (intro wv hSw; (try dsimp only at hSw); go_simp) <;> with_reducible rfl
          try simp only [Act.put, List.setIfInBounds_toArray, List.set_cons_zero, List.set_cons_succ]
          refine wpAnyH_take (i := 5) (v := ?_) lot5 (by kernel_rfl) (by kernel_rfl) (by kernel_rfl) (fun _ _ _ h => h) (Or.inl ⟨by rfl, ?_⟩) (by assumption) ?_
          rotate_left
          · (intro wv hSw; (try dsimp only at hSw); go_simp) <;> with_reducible rfl
          try simp only [Act.put, List.setIfInBounds_toArray, List.set_cons_zero, List.set_cons_succ]
          refine wpAnyH_take (i := 6) (v := ?_) lot6 (by kernel_rfl) (by kernel_rfl) (by kernel_rfl) (fun _ _ _ h => h) (Or.inl ⟨by rfl, ?_⟩) (by assumption) ?_
          rotate_left
          · (intro wv hSw; (try dsimp only at hSw); go_simp) <;> with_reducible rfl
          try simp only [Act.put, List.setIfInBounds_toArray, List.set_cons_zero, List.set_cons_succ]
          refine wpAnyH_take (i := 7) (v := ?_) lot7 (by kernel_rfl) (by kernel_rfl) (by kernel_rfl) (fun _ _ _ h => h) (Or.inl ⟨by rfl, ?_⟩) (by assumption) ?_
          rotate_left
          · (intro wv hSw; (try dsimp only at hSw); go_simp) <;> with_reducible rfl
          try simp only [Act.put, List.setIfInBounds_toArray, List.set_cons_zero, List.set_cons_succ]
          refine wpAnyH_take (i := 8) (v := ?_) lot8 (by kernel_rfl) (by kernel_rfl) (by kernel_rfl) (fun _ _ _ h => h) (Or.inl ⟨by rfl, ?_⟩) (by assumption) ?_
          rotate_left
          · (intro wv hSw; (try dsimp only at hSw); go_simp) <;> with_reducible rfl
          try simp only [Act.put, List.setIfInBounds_toArray, List.set_cons_zero, List.set_cons_succ]
          refine wpAnyH_take (i := 9) (v := ?_) lot9 (by kernel_rfl) (by kernel_rfl) (by kernel_rfl) (fun _ _ _ h => h) (Or.inl ⟨by rfl, ?_⟩) (by assumption) ?_
          rotate_left
          · (intro wv hSw; (try dsimp only at hSw); go_simp) <;> with_reducible rfl
          try simp only [Act.put, List.setIfInBounds_toArray, List.set_cons_zero, List.set_cons_succ]
          refine wpAnyH_ready (rs := [1, 10]) (by kernel_rfl) (by simp) ?_
          refine AllReadyH.cons lot1 (fun K hK => ?gA) (AllReadyH.cons lot10 (fun K hK => ?gB) AllReadyH.nil)
          case' gA =>
            go_simp
            refine hK.out _ _ (HSF.out _ ((Fr.refl _ wq).drew)) (fun hHeld => ?_)
            clear hK K
            try simp only [Act.put, List.setIfInBounds_toArray, List.set_cons_zero, List.set_cons_succ]
            refine wpAnyH_ready (rs := [10]) (by kernel_rfl) (by simp) ?_
            refine AllReadyH.cons lot10 (fun K hK => ?_) AllReadyH.nil
            go_simp
            refine hK.out _ _ (HSF.out _ ((Fr.refl _ wq).drew.alloc (.cells #[.int .u64 (z : Int)] 28))) (fun hHeld => ?_)
            clear hK K
            try simp only [Act.put, List.setIfInBounds_toArray, List.set_cons_zero, List.set_cons_succ]
          case' gB =>
            go_simp
            refine hK.out _ _ (HSF.out _ ((Fr.refl _ wq).drew.alloc (.cells #[.int .u64 (z : Int)] 28))) (fun hHeld => ?_)
            clear hK K
            try simp only [Act.put, List.setIfInBounds_toArray, List.set_cons_zero, List.set_cons_succ]
            refine wpAnyH_ready (rs := [1]) (by kernel_rfl) (by simp) ?_
            refine AllReadyH.cons lot1 (fun K hK => ?_) AllReadyH.nil
            go_simp
            refine hK.out _ _ (HSF.out _ ((Fr.refl _ wq).drew.alloc (.cells #[.int .u64 (z : Int)] 28))) (fun hHeld => ?_)
            clear hK K
            try simp only [Act.put, List.setIfInBounds_toArray, List.set_cons_zero, List.set_cons_succ]
          all_goals
            refine wpAnyH_ready (rs := [11]) (by kernel_rfl) (by simp) ?_
            refine AllReadyH.cons lot11 (fun K hK => ?_) AllReadyH.nil
            refine step_append_lies _ rfl (.tmp 103) (.tmp 112) 24 rfl cb 28 j0 _ 1 8 Tryz.underlying24 hj hy0 hy1 hy2 rfl (by decide) _ i (setsV x.tags) rfl (HTR.out.drew.alloc _) ⟨wq.heap.size, 0, none⟩ 1 1 [.int .u64 (z : Int)] rfl rfl (getElem_block (w := wq.drew.alloc _) (alloc_new _ _)) (by simp [Value.oneCell']) (by decide) (by unfold maxLen; omega) (by omega) (by simp; omega) (wq.heap.size + 1) (by simp) ?_
            intro g3 cap3 wt hownt hgrowt hatt hltt
            have HBT := Lib.hid (HCB2.out wt hgrowt)
            have c257 : wt.cell? ⟨cb, 257, none⟩ = some (.slice ta2 i tcap2) := cell_of_block HBT.out (at_257 Q hq _ _)
            have f257 : wt.frozen? ⟨cb, 257, none⟩ = false := free_of_block HBT.out
            have HOWT := Lib.hid hownt
            have HGT2 := Lib.hid hgrowt
            have HATT : Hid ((Value.slice ta2 i tcap2).ownBlock = some g3 ∨ g3 = wq.heap.size + 1) := Lib.hid hatt
            have HFT := Lib.hid (show Fr (fun k => (Value.slice ta2 i tcap2).ownBlock = some k ∨ k = cb) wq wt from ((Fr.refl _ wq).drew.alloc (.cells #[.int .u64 (z : Int)] 28)).grown hgrowt (fun k hk => .inl (.inl hk)))
            clear hownt hgrowt hatt hltt
            refine hK.out _ _ (HSF.out _ HFT.out) (fun hHeld => ?_)
            clear hK K
            try simp only [Act.put, List.setIfInBounds_toArray, List.set_cons_zero, List.set_cons_succ]
            refine wpAnyH_take (i := 12) (v := ?_) lot12 (by kernel_rfl) (by kernel_rfl) (by kernel_rfl) (fun _ _ _ h => h) (Or.inl ⟨by rfl, ?_⟩) (by assumption) ?_
            rotate_left
            · (intro wv hSw; (try dsimp only at hSw); go_simp) <;> with_reducible rfl
            try simp only [Act.put, List.setIfInBounds_toArray, List.set_cons_zero, List.set_cons_succ]
            refine wpAnyH_ready (rs := [13]) (by kernel_rfl) (by simp) ?_
            refine AllReadyH.cons lot13 (fun K hK => ?_) AllReadyH.nil
            go_simp
            refine hK.out _ _ (HSF.out _ (HFT.out.setCell (p := ⟨cb, 257, none⟩) (.inl (.inr rfl)) _)) (fun hHeld => ?_)
            clear hK K
            try simp only [Act.put, List.setIfInBounds_toArray, List.set_cons_zero, List.set_cons_succ]
            refine wpAnyH_done (by kernel_rfl) ?_ _
            have htag := OutR.tag (z := z) (g2 := g3) (cap2 := cap3) HOq.out hq (wd := wq.drew.alloc (.cells #[.int .u64 (z : Int)] 28)) ((Fr.refl none_ wq).drew.alloc _) HGT2.out (by rw [HLRi.out.ht]; exact HOWT.out) (HATT.out.imp id (fun h => by omega))
            rw [HLRi.out.ht] at htag
            have HPt := Lib.hid (HOq.out.keep HOq.out.tgs (by decide) HPq.out htag.2)
            have HFt := Lib.hid (HFq.out.fresh htag.2 (by
              rintro k (hk | rfl)
              · have := (HOq.out.tgs.lt k hk).1; have := HCBE.out; omega
              · have := HCBE.out; omega))
            have HOt := Lib.hid htag.1
            clear htag c257 f257 HBT HOWT HGT2 HATT HFT
            go_wp2_with fail
            go_roundw
            case rel =>
              refine ⟨i + 1, by go_num, ⟨HLRn.out, ?_⟩, ?_⟩
              · have h1 := HEND.out
                obtain ⟨f, hf⟩ : ∃ f, 100000 - i = f + 1 := ⟨99999 - i, by omega⟩
                rw [hf, lend, HX.out, HLL.out, if_pos hlt] at h1
                rw [show 100000 - (i + 1) = f by omega]
                exact h1
              · show ∃ nv vals tv, _
                rw [HNXT.out]
                exact ⟨_, _, _, HPt.out, HOt.out, HFt.out⟩
            case measure => simp [intOf]; omega
        case pos =>
          have hcl : (c : Int) < (k : Int) := by omega
          obtain ⟨X, hX⟩ : ∃ X, toP D n p c = X := ⟨_, rfl⟩
          have hXn : X ≤ n := by rw [← hX]; exact toP_le HV.out p c
          have HNX2 := Lib.hid (show lrow Bk r x.states (c + 1) = ((plM Bk y.1 (plQ n X)).1, y.2 ++ [(plM Bk y.1 (plQ n X)).2]) by rw [HNX.out, HTO.out c hlt2, hX])
          have HXE := Lib.hid hX
          replace HNX := HNX2
          have hyi : y.1[i]? = some (p : Int) := by
            obtain ⟨TT, hTT⟩ := HPRE.out
            rw [hTT, List.getElem?_append_left (by rw [HLL.out]; exact hlt)]; exact HIX.out
          obtain ⟨sg, rfl, g1⟩ := row_at0 HRR.out.st (i := i) (x := .int .i64 (p : Int)) (by simp [intsV, hyi])
          have hiM : (i : Int) < (M : Int) := by
            have h1 := (List.getElem?_eq_some_iff.1 hyi).1
            rw [HM.out] at h1; omega
          have HSF := Lib.hid (show ∀ wn, Fr none_ wr wn → wn.rangeAt w.heap.size 0 C ∧ wn.cell? ⟨sg, i, none⟩ = some (.int .i64 (p : Int)) from fun wn hf =>
            ⟨range_of ((HFW.out.tr hf).at_ B4.out (fun h => h)), cell_move hf g1⟩)
          clear hX hyi HNX2
          go_wp2_with fail
          refine wp_region_held_drew (S := fun wn => wn.rangeAt w.heap.size 0 C ∧ wn.cell? ⟨sg, i, none⟩ = some (.int .i64 (p : Int))) (by kernel_rfl) (HSF.out _ (Fr.refl none_ wr).drew) (fun hHeld => ?_)
          refine wpAnyH_take (i := 0) lot0 (by kernel_rfl) (by kernel_rfl) (by kernel_rfl) (fun _ _ _ h => h) (yieldsIf_load_mid (by rfl) _ _ rfl _ _ rfl C _ (fun _ h => h.1) Tryz.underlying38 rfl (by rw [hz]; exact refD_info)) (by assumption) ?_
          try simp only [Act.put, List.setIfInBounds_toArray, List.set_cons_zero, List.set_cons_succ]
          refine wpAnyH_take (i := 1) (v := ?_) lot1 (by kernel_rfl) (by kernel_rfl) (by kernel_rfl) (fun _ _ _ h => h) (Or.inl ⟨by rfl, ?_⟩) (by assumption) ?_
          rotate_left
          · (intro wv hSw; (try dsimp only at hSw); go_simp) <;> with_reducible rfl
          try simp only [Act.put, List.setIfInBounds_toArray, List.set_cons_zero, List.set_cons_succ]
          refine wpAnyH_take (i := 2) (v := ?_) lot2 (by kernel_rfl) (by kernel_rfl) (by kernel_rfl) (fun _ _ _ h => h) (Or.inl ⟨by rfl, ?_⟩) (by assumption) ?_
          rotate_left
          · (intro wv hSw; (try dsimp only at hSw); go_simp) <;> with_reducible rfl
          try simp only [Act.put, List.setIfInBounds_toArray, List.set_cons_zero, List.set_cons_succ]
          refine wpAnyH_take (i := 3) (v := ?_) lot3 (by kernel_rfl) (by kernel_rfl) (by kernel_rfl) (fun _ _ _ h => h) (Or.inl ⟨by rfl, ?_⟩) (by assumption) ?_
          rotate_left
          · (intro wv hSw; (try dsimp only at hSw); go_simp) <;> with_reducible rfl
          try simp only [Act.put, List.setIfInBounds_toArray, List.set_cons_zero, List.set_cons_succ]
          refine wpAnyH_take (i := 4) (v := ?_) lot4 (by kernel_rfl) (by kernel_rfl) (by kernel_rfl) (fun _ _ _ h => h) (Or.inl ⟨by rfl, ?_⟩) (by assumption) ?_
          rotate_left
          · (intro wv hSw; (try dsimp only at hSw); go_simp) <;> with_reducible rfl
          try simp only [Act.put, List.setIfInBounds_toArray, List.set_cons_zero, List.set_cons_succ]
          refine wpAnyH_take (i := 5) (v := ?_) lot5 (by kernel_rfl) (by kernel_rfl) (by kernel_rfl) (fun _ _ _ h => h) (Or.inl ⟨by rfl, ?_⟩) (by assumption) ?_
          rotate_left
          · (intro wv hSw; (try dsimp only at hSw); go_simp) <;> with_reducible rfl
          try simp only [Act.put, List.setIfInBounds_toArray, List.set_cons_zero, List.set_cons_succ]
          refine wpAnyH_ready (rs := [6]) (by kernel_rfl) (by simp) ?_
          refine AllReadyH.cons lot6 (fun K hK => ?_) AllReadyH.nil
          go_simp
          go_at_call 40
          refine (to_any D n k _ p c _ (HD.out.move (FB.out.tr (HFW.out.drew))) HV.out (by omega) (by omega) hlt2).mono ?_
          rintro e wx ⟨rfl, Fx⟩
          rw [HXE.out]
          have Gx := Lib.hid (((Fr.refl none_ wr).drew).tr Fx)
          clear Fx
          refine hK.out _ _ (HSF.out _ Gx.out) (fun hHeld => ?_)
          clear hK K
          try simp only [Act.put, List.setIfInBounds_toArray, List.set_cons_zero, List.set_cons_succ]
          refine wpAnyH_take (i := 7) (v := ?_) lot7 (by kernel_rfl) (by kernel_rfl) (by kernel_rfl) (fun _ _ _ h => h) (Or.inl ⟨by rfl, ?_⟩) (by assumption) ?_
          rotate_left
          · (intro wv hSw; (try dsimp only at hSw); go_simp) <;> with_reducible rfl
          try simp only [Act.put, List.setIfInBounds_toArray, List.set_cons_zero, List.set_cons_succ]
          refine wpAnyH_done (by kernel_rfl) ?_ _
          have HRX := Lib.hid (HRR.out.move Gx.out)
          have HFX := Lib.hid (HFW.out.tr Gx.out)
          obtain ⟨b, q1, q2⟩ := HCELL.out X n hXn (Nat.le_refl _)
          replace q1 := cell_move HFX.out q1
          replace q2 := cell_move HFX.out q2
          have hX0 : (0 : Int) ≤ (X : Int) := by omega
          have hX1 : (X : Int) < (n : Int) + 1 := by omega
          have hn0 : (0 : Int) ≤ (n : Int) := by omega
          have hn1 : (n : Int) < (n : Int) + 1 := by omega
          clear g1 f1 f2 HSF HRR
          obtain ⟨fd, hfd⟩ : ∃ f, atF F X n = f := ⟨_, rfl⟩
          rw [hfd] at q2
          cases fd with
          | false =>
            have hdead := (HFB.out.dead X hXn).1 hfd
            have HPM := Lib.hid (show plM Bk y.1 (plQ n X) = (y.1, -1) by unfold plM; rw [if_pos hdead])
            rw [HPM.out] at HNX
            clear hfd hdead HPM
            have hwb8 : wb.heap.size ≤ wx.heap.size := HRX.out.fr.size
            have HOWN := Lib.hid (show wx.ownsRow wb.heap.size 3 1 (.slice xa c xcap) c (intsV y.2) by have h1 := HRX.out.own; rw [hln] at h1; exact h1)
            obtain ⟨i0, hi, hz0, hz1, hz3⟩ := info_parts int_info
            go_wp2_with (at_builtin; refine wpList_append_lies _ rfl (.tmp 59) (.tmp 60) 100 rfl wb.heap.size 3 i0 _ 1 8 Tryz.underlying100 hi hz0 hz1 hz3 rfl (by decide) _ c (intsV y.2) rfl (HOWN.out.alloc _) ⟨wx.heap.size, 0, none⟩ 1 1 [.int .i64 (-1)] rfl rfl (getElem_block (alloc_new _ _)) (by simp [Value.oneCell']) (by decide) (by unfold maxLen; omega) (by omega) (by first | omega | (simp; omega)) (wx.heap.size + 1) (by simp) ?_)
            intro g2 cap2 w9 hown9 hgrow9 hat9 hlt9
            have HNEW := Lib.hid (RowR.put (z := (-1)) (g2 := g2) (cap2 := cap2) (by have h1 := HRX.out; exact h1) hgrow9 (by rw [hln]; exact hown9) hat9)
            rw [hln] at HNEW
            clear hown9 hgrow9 hat9 hlt9
            go_wp2_with fail
            go_roundw
            case rel => exact ⟨c + 1, by omega, by go_num, by rw [HNX.out]; exact HNEW.out⟩
            case measure => simp [intOf]; omega
          | true =>
            have hlive : ¬ (plQ n X = -1 ∨ blkAt Bk (plQ n X) = -1) := fun h => by
              have h1 := (HFB.out.dead X hXn).2 h
              rw [hfd] at h1; cases h1
            have hXlt : X < n := by
              refine Nat.lt_of_not_le fun hge => hlive (.inl ?_)
              unfold plQ; rw [if_neg (by omega)]
            have hpq : plQ n X = (X : Int) := if_pos hXlt
            rw [hpq] at hlive HNX
            have hbl : blkAt Bk X ≠ -1 := fun h => hlive (.inr h)
            have HPY := Lib.hid (show blkAt Bk X ∈ y.1.map (blkAt Bk) → plM Bk y.1 (X : Int) = (y.1, ((idxM (y.1.map (blkAt Bk)) (blkAt Bk X) : Nat) : Int)) from fun h => by unfold plM; rw [if_neg hlive, if_pos h])
            have HPN := Lib.hid (show blkAt Bk X ∉ y.1.map (blkAt Bk) → plM Bk y.1 (X : Int) = (y.1 ++ [(X : Int)], (M : Int)) from fun h => by unfold plM; rw [if_neg hlive, if_neg h, HM.out])
            have HSAME := Lib.hid (show ∀ q : Nat, q < n → (atF F q X = false ↔ blkAt Bk q = blkAt Bk X) from fun q hq => HFB.out.same q X hq hXlt hbl)
            clear hfd hlive hpq hbl
            go_wp2_with fail
            clear q1 q2
            go_loop [13, 14] (fun x13 x14 => ∃ j : Nat, j ≤ M ∧ x14 = .int .i64 j ∧ x13 = .int .i64 (foundM Bk y.1 X j)) (fun _ x14 => M - (intOf x14).toNat)
            case atStart => exact ⟨0, Nat.zero_le _, rfl, by rw [found_zero]⟩
            case round =>
              obtain ⟨j, hj', rfl, rfl⟩ := hrel
              have hj0 : (0 : Int) ≤ (j : Int) := by omega
              have HFE := Lib.hid (show M ≤ j → foundM Bk y.1 X j = if blkAt Bk X ∈ y.1.map (blkAt Bk) then ((idxM (y.1.map (blkAt Bk)) (blkAt Bk X) : Nat) : Int) else -1 from fun h => found_end Bk y.1 X (by rw [HM.out]; exact h))
              have HFS := Lib.hid (show 0 ≤ foundM Bk y.1 X j → foundM Bk y.1 X j = ((idxM (y.1.map (blkAt Bk)) (blkAt Bk X) : Nat) : Int) ∧ blkAt Bk X ∈ y.1.map (blkAt Bk) from found_stay)
              have HFN := Lib.hid (show ∀ q : Int, foundM Bk y.1 X j < 0 → y.1[j]? = some q → foundM Bk y.1 X (j + 1) = if blkAt Bk q = blkAt Bk X then (j : Int) else -1 from fun q h1 h2 => found_next h1 h2)
              by_cases hf0 : 0 ≤ foundM Bk y.1 X j
              case pos =>
                -- it is there
                obtain ⟨e1, e2⟩ := HFS.out hf0
                rw [e1]
                rw [HPY.out e2] at HNX
                obtain ⟨Z, hZ⟩ : ∃ Z, idxM (y.1.map (blkAt Bk)) (blkAt Bk X) = Z := ⟨_, rfl⟩
                rw [hZ] at HNX ⊢
                have hZ0 : ¬ ((Z : Int) < 0) := by omega
                clear e1 e2 hf0 hZ HFE HFS HFN HPY HPN
                by_cases hjM : (j : Int) < (M : Int)
                · have hwb8 : wb.heap.size ≤ wx.heap.size := HRX.out.fr.size
                  have HOWN := Lib.hid (show wx.ownsRow wb.heap.size 3 1 (.slice xa c xcap) c (intsV y.2) by have h1 := HRX.out.own; rw [hln] at h1; exact h1)
                  obtain ⟨i0, hi, hz0, hz1, hz3⟩ := info_parts int_info
                  go_wp2_with (at_builtin; refine wpList_append_lies _ rfl (.tmp 92) (.tmp 94) 100 rfl wb.heap.size 3 i0 _ 1 8 Tryz.underlying100 hi hz0 hz1 hz3 rfl (by decide) _ c (intsV y.2) rfl (HOWN.out.alloc _) ⟨wx.heap.size, 0, none⟩ 1 1 [.int .i64 (Z : Int)] rfl rfl (getElem_block (alloc_new _ _)) (by simp [Value.oneCell']) (by decide) (by unfold maxLen; omega) (by omega) (by first | omega | (simp; omega)) (wx.heap.size + 1) (by simp) ?_)
                  intro g2 cap2 w9 hown9 hgrow9 hat9 hlt9
                  have HNEW := Lib.hid (RowR.put (z := (Z : Int)) (g2 := g2) (cap2 := cap2) (by have h1 := HRX.out; exact h1) hgrow9 (by rw [hln]; exact hown9) hat9)
                  rw [hln] at HNEW
                  clear hown9 hgrow9 hat9 hlt9
                  go_wp2_with fail
                  go_roundw
                  case rel => exact ⟨c + 1, by omega, by go_num, by rw [HNX.out]; exact HNEW.out⟩
                  case measure => simp [intOf]; omega
                · have hwb8 : wb.heap.size ≤ wx.heap.size := HRX.out.fr.size
                  have HOWN := Lib.hid (show wx.ownsRow wb.heap.size 3 1 (.slice xa c xcap) c (intsV y.2) by have h1 := HRX.out.own; rw [hln] at h1; exact h1)
                  obtain ⟨i0, hi, hz0, hz1, hz3⟩ := info_parts int_info
                  go_wp2_with (at_builtin; refine wpList_append_lies _ rfl (.tmp 92) (.tmp 94) 100 rfl wb.heap.size 3 i0 _ 1 8 Tryz.underlying100 hi hz0 hz1 hz3 rfl (by decide) _ c (intsV y.2) rfl (HOWN.out.alloc _) ⟨wx.heap.size, 0, none⟩ 1 1 [.int .i64 (Z : Int)] rfl rfl (getElem_block (alloc_new _ _)) (by simp [Value.oneCell']) (by decide) (by unfold maxLen; omega) (by omega) (by first | omega | (simp; omega)) (wx.heap.size + 1) (by simp) ?_)
                  intro g2 cap2 w9 hown9 hgrow9 hat9 hlt9
                  have HNEW := Lib.hid (RowR.put (z := (Z : Int)) (g2 := g2) (cap2 := cap2) (by have h1 := HRX.out; exact h1) hgrow9 (by rw [hln]; exact hown9) hat9)
                  rw [hln] at HNEW
                  clear hown9 hgrow9 hat9 hlt9
                  go_wp2_with fail
                  go_roundw
                  case rel => exact ⟨c + 1, by omega, by go_num, by rw [HNX.out]; exact HNEW.out⟩
                  case measure => simp [intOf]; omega
              case neg =>
                have hf1 : foundM Bk y.1 X j < 0 := by omega
                by_cases hjM : j < M
                case pos =>
                  have hjI : (j : Int) < (M : Int) := by omega
                  obtain ⟨q, hq'⟩ : ∃ q, y.1[j]? = some q := ⟨_, List.getElem?_eq_getElem (by rw [HM.out]; exact hjM)⟩
                  have hqr := HSTL.out q (List.mem_of_getElem? hq')
                  obtain ⟨q, rfl⟩ := Int.eq_ofNat_of_zero_le hqr.1
                  have hqn : q < n := by omega
                  have HN2 := Lib.hid (HFN.out _ hf1 hq')
                  obtain ⟨sg2, hsg2, c1⟩ := row_at0 HRX.out.st (i := j) (x := .int .i64 (q : Int)) (by simp [intsV, hq'])
                  obtain rfl : sg = sg2 := by injection hsg2 with h1; injection h1
                  obtain ⟨b2, c2, c3⟩ := HCELL.out q X (by omega) (by omega)
                  replace c2 := cell_move HFX.out c2
                  replace c3 := cell_move HFX.out c3
                  have hq0 : (0 : Int) ≤ (q : Int) := by omega
                  have hq1 : (q : Int) < (n : Int) + 1 := by omega
                  have HSM := Lib.hid (HSAME.out q hqn)
                  obtain ⟨fq, hfq⟩ : ∃ f, atF F q X = f := ⟨_, rfl⟩
                  rw [hfq] at c3 HSM
                  rw [found_neg hf1]
                  clear hq' hsg2 hfq hf0 hf1 HFE HFS HFN hqr
                  cases fq with
                  | false =>
                    have HV2 := Lib.hid (show foundM Bk y.1 X (j + 1) = (j : Int) by rw [HN2.out, if_pos (HSM.out.1 rfl)])
                    clear HN2 HSM
                    go_wp2_with fail
                    go_round
                    case rel => exact ⟨j + 1, by omega, by go_num, by rw [HV2.out]⟩
                    case measure => simp [intOf]; omega
                  | true =>
                    have HV2 := Lib.hid (show foundM Bk y.1 X (j + 1) = -1 by
                      rw [HN2.out, if_neg (fun h => by have := HSM.out.2 h; cases this)])
                    clear HN2 HSM
                    go_wp2_with fail
                    go_round
                    case rel => exact ⟨j + 1, by omega, by go_num, by rw [HV2.out]⟩
                    case measure => simp [intOf]; omega
                case neg =>
                  -- it is new
                  have hjI : ¬ (j : Int) < (M : Int) := by omega
                  have hE := HFE.out (by omega)
                  have hno : blkAt Bk X ∉ y.1.map (blkAt Bk) := fun h => by
                    rw [if_pos h] at hE
                    omega
                  rw [if_neg hno] at hE
                  rw [hE]
                  rw [HPN.out hno] at HNX
                  have HSTT := Lib.hid (show wx.ownsRow cb 3 1 (.slice (some ⟨sg, 0, none⟩) M sbcap) M (intsV y.1) by have h1 := HRX.out.st; rw [HM.out] at h1; exact h1)
                  have hsb8 : cb ≤ wx.heap.size := by have := HFX.out.size; have := HCBE.out; omega
                  obtain ⟨i0, hi, hz0, hz1, hz3⟩ := info_parts int_info
                  clear hE hno hf0 hf1 HFE HFS HFN HPY HPN
                  go_wp2_with (at_builtin; refine wpList_append_lies _ rfl (.tmp 88) (.tmp 90) 100 rfl cb 3 i0 _ 1 8 Tryz.underlying100 hi hz0 hz1 hz3 rfl (by decide) _ M (intsV y.1) rfl (HSTT.out.alloc _) ⟨wx.heap.size, 0, none⟩ 1 1 [.int .i64 (X : Int)] rfl rfl (getElem_block (alloc_new _ _)) (by simp [Value.oneCell']) (by decide) (by unfold maxLen; omega) (by omega) (by first | omega | (simp; omega)) (wx.heap.size + 1) (by simp) ?_)
                  intro g2 cap2 w8 hown9 hgrow9 hat9 hlt9
                  have HR8 := Lib.hid (RowR.more (z := (X : Int)) (g2 := g2) (cap2 := cap2) (by have h1 := HRX.out; exact h1) hgrow9 (by rw [HM.out]; exact hown9) hat9)
                  rw [HM.out] at HR8
                  clear hown9 hgrow9 hat9 hlt9
                  have hwb8 : wb.heap.size ≤ w8.heap.size := HR8.out.fr.size
                  have HOWN := Lib.hid (show w8.ownsRow wb.heap.size 3 1 (.slice xa c xcap) c (intsV y.2) by have h1 := HR8.out.own; rw [hln] at h1; exact h1)
                  obtain ⟨i0, hi, hz0, hz1, hz3⟩ := info_parts int_info
                  go_wp2_with (at_builtin; refine wpList_append_lies _ rfl (.tmp 92) (.tmp 94) 100 rfl wb.heap.size 3 i0 _ 1 8 Tryz.underlying100 hi hz0 hz1 hz3 rfl (by decide) _ c (intsV y.2) rfl (HOWN.out.alloc _) ⟨w8.heap.size, 0, none⟩ 1 1 [.int .i64 (M : Int)] rfl rfl (getElem_block (alloc_new _ _)) (by simp [Value.oneCell']) (by decide) (by unfold maxLen; omega) (by omega) (by first | omega | (simp; omega)) (w8.heap.size + 1) (by simp) ?_)
                  intro g2 cap2 w9 hown9 hgrow9 hat9 hlt9
                  have HNEW := Lib.hid (RowR.put (z := (M : Int)) (g2 := g2) (cap2 := cap2) (by have h1 := HR8.out; exact h1) hgrow9 (by rw [hln]; exact hown9) hat9)
                  rw [hln] at HNEW
                  clear hown9 hgrow9 hat9 hlt9
                  go_wp2_with fail
                  go_roundw
                  case rel => exact ⟨c + 1, by omega, by go_num, by rw [HNX.out]; exact HNEW.out⟩
                  case measure => simp [intOf]; omega
end Go.Proofs.YtnenbihmokolpaaGreatDoor

namespace Go.Proofs.YtnenbihmokolpaaGreatDoor set_option linter.unusedVariables false set_option linter.unusedSimpArgs false
open Go.RowKit

def errOf : Except Int Dfa → Int
  | .ok _ => 0
  | .error n => n
theorem OfD.parts {e : Ending} {w' : World} {m : Except Int Dfa} (h : OfD e w' m) : ∃ (C : List Value) (ev : Int), e = .returned (.tuple #[.agg C.toArray, .int .i64 ev]) ∧ C.length = 258 ∧ C.toArray.all (·.oneCell') = true ∧ ev = errOf m ∧ ∀ D, m = .ok D → DfaIn w' (.agg C.toArray) D := by
  cases m with
  | ok D =>
    obtain ⟨u, rfl, hd⟩ := h
    obtain ⟨C, rfl, hz, hone⟩ := hd.cells
    exact ⟨C, 0, rfl, hz, hone, rfl, fun E hE => by cases hE; exact hd⟩
  | error n =>
    have h : e = .returned (.tuple #[.agg Tryz.zeroCells26, .int .i64 n]) := h
    subst h
    refine ⟨(Tryz.zeroCells26).toList, n, by rw [Array.toArray_toList], ?_, ?_, rfl, fun E hE => by cases hE⟩
    · rw [Array.length_toList]; exact zeroD_size
    · rw [Array.toArray_toList]; exact zeroD_one
theorem ofM_none {zs : List ByteArray} {n : Int} (h : firstE zs = some n) : ofM zs = .error n := by unfold ofM; rw [h]
theorem firstE_ne {n : Int} : ∀ {zs : List ByteArray}, firstE zs = some n → n = 4 ∨ n = 5
  | [], h => by cases h
  | z :: zs, h => by
    simp only [firstE] at h
    cases hp : parseM z with
    | ok r => rw [hp] at h; exact firstE_ne h
    | error m =>
      rw [hp] at h
      obtain rfl := Option.some.inj h
      exact parseM_err hp
theorem firstE_all : ∀ {zs : List ByteArray}, firstE zs = none → ∀ z ∈ zs, ∃ r, parseM z = .ok r
  | [], _, z, hz => by cases hz
  | y :: zs, h, z, hz => by
    simp only [firstE] at h
    cases hp : parseM y with
    | error m => rw [hp] at h; cases h
    | ok r =>
      rw [hp] at h
      rcases List.mem_cons.1 hz with rfl | hz
      · exact ⟨r, hp⟩
      · exact firstE_all h z hz
def textsV (l : List ByteArray) : List Value := l.map Value.string
theorem textsV_snoc (l : List ByteArray) (z : ByteArray) : textsV (l ++ [z]) = textsV l ++ [.string z] := by simp [textsV]
theorem textsV_length (l : List ByteArray) : (textsV l).length = l.length := by simp [textsV]
theorem StrsAt.own {w : World} {B : Nat} {v : Value} {l : List ByteArray} (h : w.ownsRow B 9 1 v l.length (textsV l)) (hl : l.length ≤ 1000) (hs : ∀ z ∈ l, z.size ≤ 1000) : ∃ a cap, v = .slice a l.length cap ∧ StrsAt w a l.length l := by
  have e : maxLen = 9223372036854775807 := rfl
  rcases h.2 with ⟨rfl, h0⟩ | ⟨g, cap, cur, rfl, _⟩
  · obtain rfl : l = [] := List.eq_nil_of_length_eq_zero h0
    exact ⟨none, 0, rfl, rfl, Nat.zero_le _, fun i z h => by simp at h, fun z h => by cases h⟩
  · refine ⟨_, cap, rfl, rfl, by omega, fun i z hz => ⟨_, rfl, h.cells rfl i _ (by simp [textsV, hz])⟩, fun z hz => by have := hs z hz; omega⟩

set_option maxRecDepth 100000 in
set_option maxHeartbeats 4000000 in
theorem minitexts_over (a : Option Addr) (len cap : Nat) (zs : List ByteArray) (s : ByteArray) (w : World) (hzs : StrsAt w a len zs) (hf : ¬ Few zs) (hs : s.size ≤ 140737488351232) (hp : PowOk w) :
    Calls Tryz.prog 4 #[.slice a len cap, .string s] w fun e w' => e = .returned (.bool true) ∧ Fr none_ w w' := by
  have HP := Lib.hid hp
  have HZ := Lib.hid hzs
  clear hp hzs
  go_enter Tryz.func4, Tryz.ntmps4
  go_wp2_with fail
  refine (works6_any _ HP.out).mono ?_
  rintro e w1 ⟨rfl, F1⟩
  have FA := Lib.hid F1
  clear F1
  go_wp2_with fail
  refine (over_yes a len cap zs _ (HZ.out.move FA.out) hf).mono ?_
  rintro e w2 ⟨rfl, rfl⟩
  go_wp2_with fail
  go_ret
  exact ⟨rfl, FA.out⟩

set_option maxRecDepth 100000 in
set_option maxHeartbeats 4000000 in
theorem minitexts_long (a : Option Addr) (len cap : Nat) (zs : List ByteArray) (s : ByteArray) (w : World) (hzs : StrsAt w a len zs) (hf : Few zs) (hs : s.size ≤ 140737488351232) (h40 : 40 < s.size) (hp : PowOk w) :
    Calls Tryz.prog 4 #[.slice a len cap, .string s] w fun e w' => e = .returned (.bool true) ∧ Fr none_ w w' := by
  have hsi : (40 : Int) < (s.size : Int) := by omega
  have HP := Lib.hid hp
  have HZ := Lib.hid hzs
  clear hp hzs
  go_enter Tryz.func4, Tryz.ntmps4
  go_wp2_with fail
  refine (works6_any _ HP.out).mono ?_
  rintro e w1 ⟨rfl, F1⟩
  have FA := Lib.hid F1
  clear F1
  go_wp2_with fail
  refine (over_no a len cap zs _ (HZ.out.move FA.out) hf).mono ?_
  rintro e w2 ⟨rfl, rfl⟩
  go_wp2_with fail
  go_ret
  exact ⟨rfl, FA.out⟩

set_option maxRecDepth 100000 in
set_option maxHeartbeats 16000000 in
theorem minitexts_good (a : Option Addr) (len cap : Nat) (zs : List ByteArray) (s : ByteArray) (w : World) (hzs : StrsAt w a len zs) (hf : Few zs) (h40 : s.size ≤ 40) (hp : PowOk w) :
    Calls Tryz.prog 4 #[.slice a len cap, .string s] w fun e w' => e = .returned (.bool true) ∧ Fr none_ w w' := by
  have hsi : ¬ (40 : Int) < (s.size : Int) := by omega
  have hzl : zs.length = len := hzs.len_
  have hl8 : len ≤ 8 := by rw [← hzl]; exact hf.1
  have HFEW := Lib.hid hf
  have HZL := Lib.hid hzl
  have HP := Lib.hid hp
  have HZ := Lib.hid hzs
  clear hp hzs
  go_enter Tryz.func4, Tryz.ntmps4
  go_wp2_with fail
  refine (works6_any _ HP.out).mono ?_
  rintro e w1 ⟨rfl, F1⟩
  have FA := Lib.hid F1
  clear F1
  go_wp2_with fail
  refine (over_no a len cap zs _ (HZ.out.move FA.out) HFEW.out).mono ?_
  rintro e w2 ⟨rfl, rfl⟩
  go_wp2_with fail
  refine (miniof_any a len cap zs _ (HZ.out.move FA.out) (by omega) (fun z hz => by have := HFEW.out.2 z hz; omega) (HP.out.move FA.out)).mono ?_
  rintro e w2 ⟨hO, F1⟩
  obtain ⟨C1, ev, rfl, hz1, hone1, hev, hd1⟩ := hO.parts
  have HEV := Lib.hid hev
  have HD1 := Lib.hid hd1
  have LRW := laid_row w2 Tryz.zeroCells26 26 C1.toArray
  have LF := Lib.hid LRW.1
  have LB := Lib.hid LRW.2
  have FB := Lib.hid (FA.out.tr (F1.tr LF.out))
  have HD1b := Lib.hid (show ∀ D, ofM zs = .ok D → DfaIn ((w2.alloc (.cells Tryz.zeroCells26 26)).setRow w2.heap.size C1.toArray) (.agg C1.toArray) D from fun D hD => (HD1.out D hD).move LF.out)
  clear F1 LRW hev hd1 hO HD1 LF
  go_wp2_with (refine wpList_store_row rfl 26 (.tmp 6) (.tmp 31) rfl w2.heap.size 26 Tryz.zeroCells26 C1.toArray rfl rfl (alloc_new w2 _) ?_ ?_ hone1 ?_; (rw [List.size_toArray, hz1]; exact dfa_info); (rw [zeroD_size, List.size_toArray, hz1]))
  obtain ⟨b6, hb6⟩ : ∃ x, w2.heap.size = x := ⟨_, rfl⟩
  obtain ⟨wL, hwL⟩ : ∃ x, (w2.alloc (.cells Tryz.zeroCells26 26)).setRow w2.heap.size C1.toArray = x := ⟨_, rfl⟩
  rw [hwL] at LB FB HD1b ⊢
  rw [hb6] at LB ⊢
  clear hwL hb6
  obtain ⟨B, hB⟩ : ∃ x, wL.heap.size = x := ⟨_, rfl⟩
  have HB := Lib.hid hB
  have HE5 := Lib.hid (show ∀ n, firstE zs = some n → ((ev != 0) = true) from fun n hn => by
    have h1 := firstE_ne hn
    rw [HEV.out, ofM_none hn]
    rcases h1 with rfl | rfl <;> rfl)
  obtain ⟨i0, hi, hy0, hy1, hy2⟩ := info_parts str_info
  clear hB
  try go_wp2_with fail
  go_loopw [8, 9] (fun x8 x9 wr => ∃ (i : Nat) (tw : List ByteArray), i ≤ len ∧ x9 = .int .i64 i ∧ Aside (firstE (zs.take i) = none ∧ TwinS (zs.take i) tw) ∧ Aside (wr.ownsRow B 9 1 x8 i (textsV tw)) ∧ Aside (Fr none_ wL wr)) (fun _ x9 _ => len - (intOf x9).toNat)
  case atStart => exact ⟨0, [], Nat.zero_le _, rfl, ⟨rfl, .nil⟩, World.ownsRow_nil _ _ _ _, Fr.refl _ _⟩
  case round =>
    obtain ⟨i, tw, hi', rfl, h1', h2', h3'⟩ := hrel
    have HNO := Lib.hid h1'.out.1
    have HTW := Lib.hid h1'.out.2
    have HO := Lib.hid h2'.out
    have HF := Lib.hid h3'.out
    clear h1' h2' h3'
    have hi0' : (0 : Int) ≤ (i : Int) := by omega
    have htl : tw.length = i := by
      rw [← HTW.out.length, List.length_take, HZL.out]; omega
    by_cases hlt : i < len
    case pos =>
      have hil : (i : Int) < (len : Int) := by omega
      obtain ⟨z, hz⟩ : ∃ z, zs[i]? = some z := ⟨_, List.getElem?_eq_getElem (by rw [HZL.out]; exact hlt)⟩
      have hz40 := HFEW.out.2 z (List.mem_of_getElem? hz)
      have htk : zs.take (i + 1) = zs.take i ++ [z] := by rw [List.take_add_one, hz]; rfl
      have HTK := Lib.hid htk
      obtain ⟨ad, rfl, hc⟩ := (HZ.out.move (FB.out.tr HF.out)).cell i z hz
      have HCZ := Lib.hid hc
      have HAD := Lib.hid (show (ad.add i).block < B by obtain ⟨ad2, e2, h2⟩ := (HZ.out.move FB.out).cell i z hz; cases e2; rw [← HB.out]; exact World.block_lt_of_cell? _ _ h2)
      have HZS := Lib.hid (show zs = zs.take (i + 1) ++ zs.drop (i + 1) from (List.take_append_drop _ _).symm)
      clear htk
      cases hp : parseM z with
      | error n =>
        have hne : (n != 0) = true := by rcases parseM_err hp with rfl | rfl <;> rfl
        have hfn : firstE zs = some n := by
          rw [HZS.out, firstE_append, HTK.out, firstE_append, HNO.out]
          simp only [firstE, hp]
        have hev2 := HE5.out n hfn
        have HPP := Lib.hid hp
        clear hp hz hfn
        go_wp2_with fail
        refine (parse_no z (by omega) n HPP.out _).mono ?_
        rintro e w3 ⟨rfl, F1⟩
        have FC := Lib.hid ((FB.out.tr (HF.out.tr F1)).alloc (.cells #[.int .i64 0, .int .u64 0, .int .u64 0, .int .u64 0, .int .u64 0, .slice none 0 0] 53))
        clear F1 hc
        go_wp2_with fail
        go_ret
        exact ⟨rfl, FC.out⟩
      | ok r =>
        obtain ⟨k, b0, b1, b2, b3, kids⟩ := r
        have hrs : (Rx.mk k b0 b1 b2 b3 kids).size ≤ 500 := (parseM_size hp).1
        have HFE := Lib.hid (show firstE (zs.take (i + 1)) = none by rw [HTK.out, firstE_ok _ hp]; exact HNO.out)
        have HPP := Lib.hid hp
        clear hp hz
        go_wp2_with fail
        refine (parse_ok z (by omega) _ HPP.out _).mono ?_
        rintro e w3 ⟨v, rfl, hv, F1⟩
        obtain ⟨va, vcap, rfl, hvc, hvl⟩ := hv.open_
        have FR := Lib.hid (HF.out.tr (F1.alloc (.cells #[.int .i64 k, .int .u64 b0, .int .u64 b1, .int .u64 b2, .int .u64 b3, .slice va kids.length vcap] 53)))
        have HO2 := Lib.hid (row_keep HO.out (F1.alloc (.cells #[.int .i64 k, .int .u64 b0, .int .u64 b1, .int .u64 b2, .int .u64 b3, .slice va kids.length vcap] 53)) (fun _ _ h => h))
        have HVL := Lib.hid (RxL.move (w' := w3.alloc (.cells #[.int .i64 k, .int .u64 b0, .int .u64 b1, .int .u64 b2, .int .u64 b3, .slice va kids.length vcap] 53)) (fun i _ hlt => Below.heap_alloc _ _ _ hlt) _ _ _ hvl)
        have BR := Lib.hid (alloc_new w3 (.cells #[.int .i64 k, .int .u64 b0, .int .u64 b1, .int .u64 b2, .int .u64 b3, .slice va kids.length vcap] 53))
        have hc3 := cell_move (F1.alloc (.cells #[.int .i64 k, .int .u64 b0, .int .u64 b1, .int .u64 b2, .int .u64 b3, .slice va kids.length vcap] 53)) HCZ.out
        have hwB : B ≤ w3.heap.size + 1 := by
          have h1 := FR.out.size
          rw [HB.out] at h1
          simpa using h1
        have p1 : ¬ 9223372036854775807 < 1 + z.size := by omega
        have p2 : ¬ 9223372036854775807 < 1 + z.size + 3 := by omega
        have p3 : ¬ 9223372036854775807 < 1 + z.size + 3 + z.size := by omega
        have p4 : ¬ 9223372036854775807 < 1 + z.size + 3 + z.size + 1 := by omega
        have hwr : wr.heap.size ≤ w3.heap.size := F1.size
        have HLB := Lib.hid HO.out.lt
        clear F1 hv hvl hc HO HF
        go_wp2_with fail
        obtain ⟨wq, hwq⟩ : ∃ q, w3.alloc (.cells #[.int .i64 k, .int .u64 b0, .int .u64 b1, .int .u64 b2, .int .u64 b3, .slice va kids.length vcap] 53) = q := ⟨_, rfl⟩
        have hqs : wq.heap.size = w3.heap.size + 1 := by rw [← hwq]; simp
        rw [hwq] at FR HO2 HVL BR hc3 ⊢
        have hwB2 : B ≤ wq.heap.size := by omega
        clear hwq hqs hwB
        have HC3 := Lib.hid hc3
        have e1 : wq.drew.cell? (ad.add i) = some (.string z) := hc3
        clear hc3
        go_region_law (first
          | (refine step_append_lies _ rfl (.tmp 54) (.tmp 67) 44 rfl B 9 i0 _ 1 16 Tryz.underlying44 hi hy0 hy1 hy2 rfl (by decide) _ i (textsV tw) rfl ((HO2.out.alloc _).drew) ⟨wq.heap.size, 0, none⟩ 1 1 [.string (twiceS z)] rfl rfl (getElem_block (w := (wq.alloc _).drew) (alloc_new _ _)) (by simp [Value.oneCell']) (by decide) (by unfold maxLen; omega) (by omega) (by simp; omega) (wq.heap.size + 1) (by simp) ?_
             intro g3 cap3 wt hownt hgrowt hatt hltt
             have HT := Lib.hid (((Fr.refl (fun k => Value.ownBlock u8 = some k) wq).alloc _).drew.grown hgrowt (fun k hk => .inl hk))
             have HF2 := Lib.hid ((FR.out.alloc _).drew.grown hgrowt (fun k hk => .inr (by have h1 := (HLB.out k hk).1; rw [HB.out]; exact h1)))
             have HOWT := Lib.hid hownt
             clear hownt hgrowt hatt hltt))
        all_goals
          have BT := Lib.hid (HT.out.at_ BR.out (fun h => by have := (HLB.out _ h).2; omega))
          obtain ⟨z0, z1, z2, z3, z4, z5⟩ := six BT.out
          have RT := Lib.hid (RxL.move (fun k hk hlt => HT.out.block k hlt (fun h => by have h1 := (HLB.out _ h).2; have h2 : wr.heap.size ≤ k := hk; omega)) _ _ _ HVL.out)
          have HCT := Lib.hid (HT.out.cell HC3.out (fun h => by have h1 := (HLB.out _ h); have h2 := HAD.out; omega))
          clear e1 HT BR HVL HO2 FR
          go_wp2_with fail
          refine (show_any (.mk k b0 b1 b2 b3 kids) _ (fun k => wr.heap.size ≤ k) _ (by omega) (RxV.mk_ hvc RT.out)).mono ?_
          rintro e w5 ⟨rfl, F5⟩
          have HO5 := Lib.hid (ownsRow_same HOWT.out (fun b hb => F5.block b (HOWT.out.lt b hb).2 (fun h => h)))
          have HF5 := Lib.hid (HF2.out.tr F5)
          have HC5 := Lib.hid (F5.cell HCT.out (fun h => h))
          obtain ⟨sh, hsh⟩ : ∃ q, bstr (showL (.mk k b0 b1 b2 b3 kids)) = q := ⟨_, rfl⟩
          rw [hsh]
          clear hsh F5 BT RT HCT z0 z1 z2 z3 z4 z5 HOWT HF2
          have hi1 : (i : Int) < ((i + 1 : Nat) : Int) := by omega
          by_cases h200 : (200 : Int) < (sh.size : Int)
          · have hx : (textsV tw ++ [Value.string (twiceS z)])[i]? = some (.string (twiceS z)) := by rw [List.getElem?_append_right (by rw [textsV_length, htl]; exact Nat.le_refl _), textsV_length, htl]; simp
            obtain ⟨gx, hgx, c1⟩ := row_at0 HO5.out hx
            obtain rfl : gx = g3 := by injection hgx with h1; injection h1 with h1; exact h1.symm
            have f1 : w5.frozen? ⟨gx, i, none⟩ = false := HO5.out.frozenAt i
            have c2 := HC5.out
            have HS5 := Lib.hid (HO5.out.stored i (.string z)).1
            have hset : (textsV tw ++ [Value.string (twiceS z)]).set i (.string z) = textsV (tw ++ [z]) := by rw [List.set_append_right _ _ (by rw [textsV_length, htl]; exact Nat.le_refl _), textsV_length, htl, textsV_snoc]; simp
            rw [hset] at HS5
            have hgB : B ≤ gx := (HO5.out.lt gx rfl).1
            have HFS := Lib.hid (HF5.out.setCell (p := ⟨gx, i, none⟩) (.inr (by rw [HB.out]; exact hgB)) (.string z))
            clear hx hgx hset
            go_wp2_with fail
            go_roundw
            case rel => exact ⟨i + 1, tw ++ [z], by omega, by go_num, ⟨HFE.out, by rw [HTK.out]; exact TwinS.same z HTW.out⟩, HS5.out, HFS.out⟩
            case measure => simp [intOf]; omega
          · go_wp2_with fail
            go_roundw
            case rel => exact ⟨i + 1, tw ++ [twiceS z], by omega, by go_num, ⟨HFE.out, by rw [HTK.out]; exact TwinS.alt z HTW.out⟩, by rw [textsV_snoc]; exact HO5.out, HF5.out⟩
            case measure => simp [intOf]; omega
    case neg =>
      obtain rfl : i = len := by omega
      have htk : zs.take i = zs := List.take_of_length_le (by rw [HZL.out]; exact Nat.le_refl _)
      rw [htk] at HNO HTW
      have FD := Lib.hid (FB.out.tr HF.out)
      have HALL := firstE_all HNO.out
      have HOF := HTW.out.of (fun z hz => ⟨by have := HFEW.out.2 z hz; omega, HALL z hz⟩)
      have HTZ := Lib.hid (HTW.out.sizes (m := 40) (fun z hz => HFEW.out.2 z hz))
      clear htk HALL
      rcases HOF with h4 | ⟨D, hD, HOF⟩
      · obtain rfl : ev = 4 := by rw [HEV.out, h4]; rfl
        clear h4
        go_wp2_with fail
        go_ret
        exact ⟨rfl, FD.out⟩
      · obtain rfl : ev = 0 := by rw [HEV.out, hD]; rfl
        obtain ⟨nn, kk, hdv, hnn, hkk, htt, hcc, hleast⟩ := ofM_least hD
        have HDW := Lib.hid (HD1b.out D hD)
        have HDV := Lib.hid hdv
        have HTT := Lib.hid htt
        have HLEAST := Lib.hid hleast
        have htl2 : D.tags.length ≤ 9223372036854775807 := by rw [hdv.ht]; omega
        obtain ⟨a2, cap2, rfl, hs2⟩ := StrsAt.own (B := B) (l := tw) (by rw [htl]; exact HO.out) (by rw [htl]; omega) (fun z hz => by have := HTZ.out z hz; omega)
        have HS2 := Lib.hid hs2
        clear hs2 hdv htt hleast hD HE5
        go_wp2_with fail
        refine (miniof_any a2 _ cap2 tw _ (by have h1 := HS2.out; rw [htl] at h1; exact h1) (by omega) (fun z hz => by have := HTZ.out z hz; omega) (HP.out.move FD.out)).mono ?_
        rintro e w5 ⟨hO, F5⟩
        obtain ⟨C2, ev2, rfl, hz2, hone2, hev2, hd2⟩ := hO.parts
        have HD2 := Lib.hid hd2
        have HEV2 := Lib.hid hev2
        clear hev2
        have LRW := laid_row w5 Tryz.zeroCells26 26 C2.toArray
        have LF := Lib.hid LRW.1
        have L2 := Lib.hid LRW.2
        have FX := Lib.hid (F5.tr LF.out)
        have L1 := Lib.hid (FX.out.at_ (HF.out.at_ LB.out (fun h => h)) (fun h => h))
        have FE := Lib.hid (FD.out.tr FX.out)
        have HDX := Lib.hid (HDW.out.move (HF.out.tr FX.out))
        have HD3 := Lib.hid (show ∀ D', ofM tw = .ok D' → DfaIn ((w5.alloc (.cells Tryz.zeroCells26 26)).setRow w5.heap.size C2.toArray) (.agg C2.toArray) D' from fun D' hD' => (HD2.out D' hD').move LF.out)
        clear hO F5 LRW LF FX hd2 HD2 LB HDW
        rcases HOF with h4 | hD2
        · obtain rfl : ev2 = 4 := by rw [HEV2.out, h4]; rfl
          clear h4 HEV2
          go_wp2_with (refine wpList_store_row rfl 26 (.tmp 12) (.tmp 90) rfl w5.heap.size 26 Tryz.zeroCells26 C2.toArray rfl rfl (alloc_new w5 _) ?_ ?_ hone2 ?_; (rw [List.size_toArray, hz2]; exact dfa_info); (rw [zeroD_size, List.size_toArray, hz2]))
          go_ret
          exact ⟨rfl, FE.out⟩
        · obtain rfl : ev2 = 0 := by rw [HEV2.out, hD2]; rfl
          have HD4 := Lib.hid (HD3.out D hD2)
          clear HEV2 HD3 hD2
          go_wp2_with (first
            | (refine wpList_store_row rfl 26 (.tmp 12) (.tmp 90) rfl w5.heap.size 26 Tryz.zeroCells26 C2.toArray rfl rfl (alloc_new w5 _) ?_ ?_ hone2 ?_; (rw [List.size_toArray, hz2]; exact dfa_info); (rw [zeroD_size, List.size_toArray, hz2]))
            | (refine wpList_load_row rfl 26 (.tmp 6) rfl b6 26 C1 _ rfl L1.out Tryz.underlying26 rfl ?_ ?_; (rw [hz1]; exact dfa_info)))
          obtain ⟨b12, hb12⟩ : ∃ x, w5.heap.size = x := ⟨_, rfl⟩
          obtain ⟨wM, hwM⟩ : ∃ x, (w5.alloc (.cells Tryz.zeroCells26 26)).setRow w5.heap.size C2.toArray = x := ⟨_, rfl⟩
          rw [hwM] at L1 L2 FE HDX HD4 ⊢
          rw [hb12] at L2 ⊢
          clear hwM hb12
          refine (ofref_any D _ _ HDX.out).mono ?_
          rintro e w7 ⟨rfl, F7⟩
          have LRW := laid_row w7 Tryz.zeroCells38 38 C1.toArray
          have LF := Lib.hid LRW.1
          have L3 := Lib.hid LRW.2
          have FX := Lib.hid (F7.tr LF.out)
          have M1 := Lib.hid (FX.out.at_ L1.out (fun h => h))
          have M2 := Lib.hid (FX.out.at_ L2.out (fun h => h))
          have FG := Lib.hid (FE.out.tr FX.out)
          have E1 := Lib.hid (HDX.out.move FX.out)
          have E2 := Lib.hid (HD4.out.move FX.out)
          clear F7 LRW LF FX L1 L2 FE HDX HD4
          go_wp2_with (first
            | (refine wpList_store_row rfl 38 (.tmp 14) (.tmp 100) rfl w7.heap.size 38 Tryz.zeroCells38 C1.toArray rfl rfl (alloc_new w7 _) ?_ ?_ hone1 ?_; (rw [List.size_toArray, hz1]; exact refD_info); (rw [zeroR_list, zeroD_size, List.size_toArray, hz1]))
            | (refine wpList_load_row rfl 38 (.tmp 14) rfl w7.heap.size 38 C1 _ rfl L3.out Tryz.underlying38 rfl ?_ ?_; (rw [hz1]; exact refD_info)))
          obtain ⟨b14, hb14⟩ : ∃ x, w7.heap.size = x := ⟨_, rfl⟩
          obtain ⟨wN, hwN⟩ : ∃ x, (w7.alloc (.cells Tryz.zeroCells38 38)).setRow w7.heap.size C1.toArray = x := ⟨_, rfl⟩
          rw [hwN] at L3 M1 M2 FG E1 E2 ⊢
          rw [hb14] at L3 ⊢
          clear hwN hb14
          refine (refleast_any D nn kk _ _ E1.out HDV.out (by omega) (by omega) HTT.out).mono ?_
          rintro e w9 ⟨u, rfl, hu, F9⟩
          rw [HLEAST.out] at hu
          obtain ⟨C5, rfl, hz5, hone5⟩ := hu.cells
          have HU := Lib.hid hu
          have LRW := laid_row w9 Tryz.zeroCells38 38 C5.toArray
          have LF := Lib.hid LRW.1
          have N4 := Lib.hid LRW.2
          have FX := Lib.hid (F9.tr LF.out)
          have N1 := Lib.hid (FX.out.at_ M1.out (fun h => h))
          have N2 := Lib.hid (FX.out.at_ M2.out (fun h => h))
          have N3 := Lib.hid (FX.out.at_ L3.out (fun h => h))
          have FH := Lib.hid (FG.out.tr FX.out)
          have G1 := Lib.hid (E1.out.move FX.out)
          have G2 := Lib.hid (E2.out.move FX.out)
          have G3 := Lib.hid (HU.out.move LF.out)
          clear F9 LRW LF FX L3 M1 M2 FG E1 E2 hu HU
          go_wp2_with (refine wpList_store_row rfl 38 (.tmp 15) (.tmp 104) rfl w9.heap.size 38 Tryz.zeroCells38 C5.toArray rfl rfl (alloc_new w9 _) ?_ ?_ hone5 ?_; (rw [List.size_toArray, hz5]; exact refD_info); (rw [zeroR_list, zeroD_size, List.size_toArray, hz5]))
          obtain ⟨b15, hb15⟩ : ∃ x, w9.heap.size = x := ⟨_, rfl⟩
          obtain ⟨wP, hwP⟩ : ∃ x, (w9.alloc (.cells Tryz.zeroCells38 38)).setRow w9.heap.size C5.toArray = x := ⟨_, rfl⟩
          rw [hwP] at N1 N2 N3 N4 FH G1 G2 G3 ⊢
          rw [hb15] at N4 ⊢
          clear hwP hb15
          have HSX := Lib.hid (show ∀ wx, Fr none_ wP wx → (wx.rangeAt b6 0 C1 ∧ wx.rangeAt b12 0 C2 ∧ wx.rangeAt b14 0 C1 ∧ wx.rangeAt b15 0 C5) from fun wx hf =>
            ⟨range_of (hf.at_ N1.out (fun h => h)), range_of (hf.at_ N2.out (fun h => h)), range_of (hf.at_ N3.out (fun h => h)), range_of (hf.at_ N4.out (fun h => h))⟩)
          clear N1 N2 N3 N4
          refine wp_region_held_drew (S := fun wx => wx.rangeAt b6 0 C1 ∧ wx.rangeAt b12 0 C2 ∧ wx.rangeAt b14 0 C1 ∧ wx.rangeAt b15 0 C5) (by kernel_rfl) (HSX.out _ (Fr.refl none_ wP).drew) (fun hHeld => ?_)
          try simp only [Act.put, List.setIfInBounds_toArray, List.set_cons_zero, List.set_cons_succ]
          refine wpAnyH_take (i := 0) (v := ?_) lot0 (by kernel_rfl) (by kernel_rfl) (by kernel_rfl) (fun _ _ _ h => h) (Or.inl ⟨by rfl, ?_⟩) (by assumption) ?_
          rotate_left
          · (intro wv hSw; (try dsimp only at hSw); obtain ⟨s1, s2, s3, s4⟩ := hSw; go_simp) <;> with_reducible rfl
          try simp only [Act.put, List.setIfInBounds_toArray, List.set_cons_zero, List.set_cons_succ]
          refine wpAnyH_take (i := 1) (v := ?_) lot1 (by kernel_rfl) (by kernel_rfl) (by kernel_rfl) (fun _ _ _ h => h) (Or.inl ⟨by rfl, ?_⟩) (by assumption) ?_
          rotate_left
          · (intro wv hSw; (try dsimp only at hSw); obtain ⟨s1, s2, s3, s4⟩ := hSw; go_simp) <;> with_reducible rfl
          try simp only [Act.put, List.setIfInBounds_toArray, List.set_cons_zero, List.set_cons_succ]
          refine wpAnyH_take (i := 2) (v := ?_) lot2 (by kernel_rfl) (by kernel_rfl) (by kernel_rfl) (fun _ _ _ h => h) (Or.inl ⟨by rfl, ?_⟩) (by assumption) ?_
          rotate_left
          · (intro wv hSw; (try dsimp only at hSw); obtain ⟨s1, s2, s3, s4⟩ := hSw; go_simp) <;> with_reducible rfl
          try simp only [Act.put, List.setIfInBounds_toArray, List.set_cons_zero, List.set_cons_succ]
          refine wpAnyH_take (i := 3) (v := ?_) lot3 (by kernel_rfl) (by kernel_rfl) (by kernel_rfl) (fun _ _ _ h => h) (Or.inl ⟨by rfl, ?_⟩) (by assumption) ?_
          rotate_left
          · (intro wv hSw; (try dsimp only at hSw); obtain ⟨s1, s2, s3, s4⟩ := hSw; go_simp) <;> with_reducible rfl
          try simp only [Act.put, List.setIfInBounds_toArray, List.set_cons_zero, List.set_cons_succ]
          refine wpAnyH_take (i := 4) (v := ?_) lot4 (by kernel_rfl) (by kernel_rfl) (by kernel_rfl) (fun _ _ _ h => h) (Or.inl ⟨by rfl, ?_⟩) (by assumption) ?_
          rotate_left
          · (intro wv hSw; (try dsimp only at hSw); obtain ⟨s1, s2, s3, s4⟩ := hSw; go_simp) <;> with_reducible rfl
          try simp only [Act.put, List.setIfInBounds_toArray, List.set_cons_zero, List.set_cons_succ]
          refine wpAnyH_take (i := 5) (v := ?_) lot5 (by kernel_rfl) (by kernel_rfl) (by kernel_rfl) (fun _ _ _ h => h) (Or.inl ⟨by rfl, ?_⟩) (by assumption) ?_
          rotate_left
          · (intro wv hSw; (try dsimp only at hSw); obtain ⟨s1, s2, s3, s4⟩ := hSw; go_simp) <;> with_reducible rfl
          try simp only [Act.put, List.setIfInBounds_toArray, List.set_cons_zero, List.set_cons_succ]
          refine wpAnyH_take (i := 6) lot6 (by kernel_rfl) (by kernel_rfl) (by kernel_rfl) (fun _ _ _ h => h) (yieldsIf_load_mid (by rfl) _ _ rfl _ _ rfl C1 _ (fun _ h => h.2.2.1) Tryz.underlying38 rfl (by rw [hz1]; exact refD_info)) (by assumption) ?_
          try simp only [Act.put, List.setIfInBounds_toArray, List.set_cons_zero, List.set_cons_succ]
          refine wpAnyH_take (i := 7) lot7 (by kernel_rfl) (by kernel_rfl) (by kernel_rfl) (fun _ _ _ h => h) (yieldsIf_load_mid (by rfl) _ _ rfl _ _ rfl C5 _ (fun _ h => h.2.2.2) Tryz.underlying38 rfl (by rw [hz5]; exact refD_info)) (by assumption) ?_
          try simp only [Act.put, List.setIfInBounds_toArray, List.set_cons_zero, List.set_cons_succ]
          refine wpAnyH_ready (rs := [8]) (by kernel_rfl) (by simp) ?_
          refine AllReadyH.cons lot8 (fun K hK => ?_) AllReadyH.nil
          go_simp
          go_at_call 16
          refine (refsame_any D _ _ _ (G1.out.move (Fr.refl none_ wP).drew) (G3.out.move (Fr.refl none_ wP).drew) htl2).mono ?_
          rintro e wa ⟨rfl, Fwa⟩
          skip
          have Gwa := Lib.hid (((Fr.refl none_ wP).drew).tr Fwa)
          clear Fwa
          refine hK.out _ _ (HSX.out _ Gwa.out) (fun hHeld => ?_)
          clear hK K
          try simp only [Act.put, List.setIfInBounds_toArray, List.set_cons_zero, List.set_cons_succ]
          refine wpAnyH_take (i := 9) (v := ?_) lot9 (by kernel_rfl) (by kernel_rfl) (by kernel_rfl) (fun _ _ _ h => h) (Or.inl ⟨by rfl, ?_⟩) (by assumption) ?_
          rotate_left
          · (intro wv hSw; (try dsimp only at hSw); obtain ⟨s1, s2, s3, s4⟩ := hSw; go_simp) <;> with_reducible rfl
          try simp only [Act.put, List.setIfInBounds_toArray, List.set_cons_zero, List.set_cons_succ]
          refine wpAnyH_take (i := 10) (v := ?_) lot10 (by kernel_rfl) (by kernel_rfl) (by kernel_rfl) (fun _ _ _ h => h) (Or.inl ⟨by rfl, ?_⟩) (by assumption) ?_
          rotate_left
          · (intro wv hSw; (try dsimp only at hSw); obtain ⟨s1, s2, s3, s4⟩ := hSw; go_simp) <;> with_reducible rfl
          try simp only [Act.put, List.setIfInBounds_toArray, List.set_cons_zero, List.set_cons_succ]
          refine wpAnyH_take (i := 11) lot11 (by kernel_rfl) (by kernel_rfl) (by kernel_rfl) (fun _ _ _ h => h) (yieldsIf_load_mid (by rfl) _ _ rfl _ _ rfl C2 _ (fun _ h => h.2.1) Tryz.underlying26 rfl (by rw [hz2]; exact dfa_info)) (by assumption) ?_
          try simp only [Act.put, List.setIfInBounds_toArray, List.set_cons_zero, List.set_cons_succ]
          refine wpAnyH_take (i := 12) lot12 (by kernel_rfl) (by kernel_rfl) (by kernel_rfl) (fun _ _ _ h => h) (yieldsIf_load_mid (by rfl) _ _ rfl _ _ rfl C1 _ (fun _ h => h.1) Tryz.underlying26 rfl (by rw [hz1]; exact dfa_info)) (by assumption) ?_
          try simp only [Act.put, List.setIfInBounds_toArray, List.set_cons_zero, List.set_cons_succ]
          refine wpAnyH_ready (rs := [13]) (by kernel_rfl) (by simp) ?_
          refine AllReadyH.cons lot13 (fun K hK => ?_) AllReadyH.nil
          go_simp
          go_at_call 17
          refine (same_any D D _ _ _ (G2.out.move Gwa.out) (G1.out.move Gwa.out) htl2 htl2).mono ?_
          rintro e wb ⟨rfl, Fwb⟩
          rw [sameM_refl]
          have Gwb := Lib.hid ((Gwa.out).tr Fwb)
          clear Fwb
          refine hK.out _ _ (HSX.out _ Gwb.out) (fun hHeld => ?_)
          clear hK K
          try simp only [Act.put, List.setIfInBounds_toArray, List.set_cons_zero, List.set_cons_succ]
          refine wpAnyH_take (i := 14) (v := ?_) lot14 (by kernel_rfl) (by kernel_rfl) (by kernel_rfl) (fun _ _ _ h => h) (Or.inl ⟨by rfl, ?_⟩) (by assumption) ?_
          rotate_left
          · (intro wv hSw; (try dsimp only at hSw); obtain ⟨s1, s2, s3, s4⟩ := hSw; go_simp) <;> with_reducible rfl
          try simp only [Act.put, List.setIfInBounds_toArray, List.set_cons_zero, List.set_cons_succ]
          refine wpAnyH_take (i := 15) (v := ?_) lot15 (by kernel_rfl) (by kernel_rfl) (by kernel_rfl) (fun _ _ _ h => h) (Or.inl ⟨by rfl, ?_⟩) (by assumption) ?_
          rotate_left
          · (intro wv hSw; (try dsimp only at hSw); obtain ⟨s1, s2, s3, s4⟩ := hSw; go_simp) <;> with_reducible rfl
          try simp only [Act.put, List.setIfInBounds_toArray, List.set_cons_zero, List.set_cons_succ]
          refine wpAnyH_take (i := 16) lot16 (by kernel_rfl) (by kernel_rfl) (by kernel_rfl) (fun _ _ _ h => h) (yieldsIf_load_mid (by rfl) _ _ rfl _ _ rfl C1 _ (fun _ h => h.1) Tryz.underlying26 rfl (by rw [hz1]; exact dfa_info)) (by assumption) ?_
          try simp only [Act.put, List.setIfInBounds_toArray, List.set_cons_zero, List.set_cons_succ]
          refine wpAnyH_take (i := 17) (v := ?_) lot17 (by kernel_rfl) (by kernel_rfl) (by kernel_rfl) (fun _ _ _ h => h) (Or.inl ⟨by rfl, ?_⟩) (by assumption) ?_
          rotate_left
          · (intro wv hSw; (try dsimp only at hSw); obtain ⟨s1, s2, s3, s4⟩ := hSw; go_simp) <;> with_reducible rfl
          try simp only [Act.put, List.setIfInBounds_toArray, List.set_cons_zero, List.set_cons_succ]
          refine wpAnyH_take (i := 19) lot19 (by kernel_rfl) (by kernel_rfl) (by kernel_rfl) (fun _ _ _ h => h) (yieldsIf_load_mid (by rfl) _ _ rfl _ _ rfl C1 _ (fun _ h => h.2.2.1) Tryz.underlying38 rfl (by rw [hz1]; exact refD_info)) (by assumption) ?_
          try simp only [Act.put, List.setIfInBounds_toArray, List.set_cons_zero, List.set_cons_succ]
          refine wpAnyH_take (i := 20) (v := ?_) lot20 (by kernel_rfl) (by kernel_rfl) (by kernel_rfl) (fun _ _ _ h => h) (Or.inl ⟨by rfl, ?_⟩) (by assumption) ?_
          rotate_left
          · (intro wv hSw; (try dsimp only at hSw); obtain ⟨s1, s2, s3, s4⟩ := hSw; go_simp) <;> with_reducible rfl
          try simp only [Act.put, List.setIfInBounds_toArray, List.set_cons_zero, List.set_cons_succ]
          refine wpAnyH_ready (rs := [18]) (by kernel_rfl) (by simp) ?_
          refine AllReadyH.cons lot18 (fun K hK => ?_) AllReadyH.nil
          go_simp
          go_at_call 18
          refine (drun_any D _ s _ (G1.out.move Gwb.out) (by omega)).mono ?_
          rintro e wc ⟨rfl, Fwc⟩
          skip
          have Gwc := Lib.hid ((Gwb.out).tr Fwc)
          clear Fwc
          refine hK.out _ _ (HSX.out _ Gwc.out) (fun hHeld => ?_)
          clear hK K
          try simp only [Act.put, List.setIfInBounds_toArray, List.set_cons_zero, List.set_cons_succ]
          refine wpAnyH_ready (rs := [21]) (by kernel_rfl) (by simp) ?_
          refine AllReadyH.cons lot21 (fun K hK => ?_) AllReadyH.nil
          go_simp
          go_at_call 19
          refine (refrun_any D _ s _ (G1.out.move Gwc.out) (by omega)).mono ?_
          rintro e wd ⟨rfl, Fwd⟩
          skip
          have Gwd := Lib.hid ((Gwc.out).tr Fwd)
          clear Fwd
          refine hK.out _ _ (HSX.out _ Gwd.out) (fun hHeld => ?_)
          clear hK K
          try simp only [Act.put, List.setIfInBounds_toArray, List.set_cons_zero, List.set_cons_succ]
          refine wpAnyH_take (i := 22) (v := ?_) lot22 (by kernel_rfl) (by kernel_rfl) (by kernel_rfl) (fun _ _ _ h => h) (Or.inl ⟨by rfl, ?_⟩) (by assumption) ?_
          rotate_left
          · (intro wv hSw; (try dsimp only at hSw); obtain ⟨s1, s2, s3, s4⟩ := hSw; go_simp) <;> with_reducible rfl
          try simp only [Act.put, List.setIfInBounds_toArray, List.set_cons_zero, List.set_cons_succ]
          refine wpAnyH_take (i := 23) (v := ?_) lot23 (by kernel_rfl) (by kernel_rfl) (by kernel_rfl) (fun _ _ _ h => h) (Or.inl ⟨by rfl, ?_⟩) (by assumption) ?_
          rotate_left
          · (intro wv hSw; (try dsimp only at hSw); obtain ⟨s1, s2, s3, s4⟩ := hSw; go_simp) <;> with_reducible rfl
          try simp only [Act.put, List.setIfInBounds_toArray, List.set_cons_zero, List.set_cons_succ]
          refine wpAnyH_take (i := 24) (v := ?_) lot24 (by kernel_rfl) (by kernel_rfl) (by kernel_rfl) (fun _ _ _ h => h) (Or.inl ⟨by rfl, ?_⟩) (by assumption) ?_
          rotate_left
          · (intro wv hSw; (try dsimp only at hSw); obtain ⟨s1, s2, s3, s4⟩ := hSw; go_simp) <;> with_reducible rfl
          try simp only [Act.put, List.setIfInBounds_toArray, List.set_cons_zero, List.set_cons_succ]
          refine wpAnyH_done (by kernel_rfl) ?_ _
          go_wp2_with fail
          go_ret
          exact ⟨rfl, FH.out.tr Gwd.out⟩
theorem minitexts_any (a : Option Addr) (len cap : Nat) (zs : List ByteArray) (s : ByteArray) (w : World) (hzs : StrsAt w a len zs) (hs : s.size ≤ 140737488351232) (hp : PowOk w) :
    Calls Tryz.prog 4 #[.slice a len cap, .string s] w fun e w' => e = .returned (.bool true) ∧ Below w.heap.size w w' := by
  by_cases hf : Few zs
  · by_cases h40 : 40 < s.size
    · exact (minitexts_long a len cap zs s w hzs hf hs h40 hp).mono fun e w' h => ⟨h.1, h.2.below⟩
    · exact (minitexts_good a len cap zs s w hzs hf (by omega) hp).mono fun e w' h => ⟨h.1, h.2.below⟩
  · exact (minitexts_over a len cap zs s w hzs hf hs hp).mono fun e w' h => ⟨h.1, h.2.below⟩
end Go.Proofs.YtnenbihmokolpaaGreatDoor
