/-
  A machine of regexes as plain data: how it runs.
-/
import Derived.Test.YtjbmppbciiemkaaNw
namespace Go.Proofs.Ytjbmppbciiemkaa set_option linter.unusedVariables false set_option linter.unusedSimpArgs false

def freeOf (l : List St) (i : Nat) : List Nat := match l[i]? with | some s => s.free | none => []
theorem freeOf_some {G : List St} {i : Nat} {s : St} (h : G[i]? = some s) : freeOf G i = s.free := by simp [freeOf, h]
def Rx.has : Rx → Nat → Bool
  | .mk kind b0 b1 b2 b3 _, b => decide (kind = 1) && (match b / 64 with | 0 => b0 | 1 => b1 | 2 => b2 | _ => b3).testBit (b % 64)

/-- Who is come to: from a stack of places, those that are none left out. -/
def dfsM (l : List St) : Nat → List Nat → List Int → List Nat
  | 0, out, _ => out
  | f + 1, out, work =>
    match work.getLast? with
    | none => out
    | some a =>
      if 0 ≤ a ∧ a < l.length ∧ a.toNat ∉ out then dfsM l f (out ++ [a.toNat]) (work.dropLast ++ (freeOf l a.toNat).map fun (n : Nat) => (n : Int))
      else dfsM l f out work.dropLast
def todo (l : List St) (out : List Nat) : Nat := ((List.range l.length).map fun i => if i ∈ out then 0 else 1 + (freeOf l i).length).sum
def meas (l : List St) (out : List Nat) (work : List Int) : Nat := work.length + todo l out
def visit (l : List St) (work : List Int) : List Nat := dfsM l (meas l [] work) [] work
def closedM (l : List St) (work : List Int) : List Nat := (List.range l.length).filter fun i => decide (i ∈ visit l work)

def stepW (l : List St) (at_ : List Int) (b : Nat) : List Int :=
  at_.filterMap fun n => if 0 ≤ n then match l[n.toNat]? with | some s => if s.bytes.has b then some s.to else none | none => none else none
def stepM (l : List St) (at_ : List Int) (b : Nat) : List Nat := closedM l (stepW l at_ b)
def bitM (n : Int) : Nat := if 0 ≤ n ∧ n < 64 then 2 ^ n.toNat else 0
def tagsM (l : List St) (at_ : List Int) : Nat :=
  at_.foldl (fun s n => if 0 ≤ n then match l[n.toNat]? with | some x => s ||| bitM x.tag | none => s else s) 0
def ints (l : List Nat) : List Int := l.map fun (n : Nat) => (n : Int)
def atM (l : List St) (starts : List Nat) (bs : List Nat) : List Nat := bs.foldl (fun a b => stepM l (ints a) b) (closedM l (ints starts))
def runM (l : List St) (starts : List Nat) (bs : List Nat) : Nat := tagsM l (ints (atM l starts bs))

theorem sum_except (f g : Nat → Nat) (i d : Nat) : ∀ n, (∀ j, j ≠ i → f j = g j) → f i = g i + d → i < n → ((List.range n).map f).sum = ((List.range n).map g).sum + d
  | 0, _, _, h => by omega
  | n + 1, h1, h2, h => by
    simp only [List.range_succ, List.map_append, List.sum_append, List.map_cons, List.map_nil, List.sum_cons, List.sum_nil]
    by_cases hn : i = n
    · subst hn
      have : (List.range i).map f = (List.range i).map g := List.map_congr_left (fun j hj => h1 j (by simp at hj; omega))
      rw [this, h2]
      omega
    · have := sum_except f g i d n h1 h2 (by omega)
      have e := h1 n (fun e => hn e.symm)
      omega
theorem todo_visit (l : List St) (out : List Nat) (i : Nat) (hi : i < l.length) (ho : i ∉ out) : todo l out = todo l (out ++ [i]) + (1 + (freeOf l i).length) := by
  unfold todo
  refine sum_except _ _ i _ _ (fun j hj => ?_) ?_ hi
  · simp [hj]
  · simp [ho]

/-- Come to by nothing. -/
inductive Rch (l : List St) (work : List Int) : Nat → Prop where
  | base (i : Nat) (h : (i : Int) ∈ work) (hi : i < l.length) : Rch l work i
  | step (i j : Nat) (h : Rch l work i) (hj : j ∈ freeOf l i) (hl : j < l.length) : Rch l work j
theorem Rch.lt {l : List St} {work : List Int} {i : Nat} (h : Rch l work i) : i < l.length := by cases h <;> assumption
theorem Rch.mono {l : List St} {a b : List Int} (hs : ∀ x ∈ a, x ∈ b) {i : Nat} (h : Rch l a i) : Rch l b i := by
  induction h with
  | base i h hi => exact .base i (hs _ h) hi
  | step i j _ hj hl ih => exact .step i j ih hj hl

theorem mem_getLast_cases {work : List Int} {a : Int} (h : work.getLast? = some a) : work = work.dropLast ++ [a] := by
  obtain ⟨hne, he⟩ := List.getLast?_eq_some_iff.1 h
  rw [he]; simp

theorem dfs_sound (l : List St) (W : List Int) : ∀ (f : Nat) (out : List Nat) (work : List Int), (∀ i ∈ out, Rch l W i) → (∀ a ∈ work, ∀ i : Nat, a = i → i < l.length → Rch l W i) → ∀ i ∈ dfsM l f out work, Rch l W i
  | 0, out, work, ho, _, i, hi => ho i (by simpa [dfsM] using hi)
  | f + 1, out, work, ho, hw, i, hi => by
    rw [dfsM] at hi
    cases hl : work.getLast? with
    | none => rw [hl] at hi; exact ho i hi
    | some a =>
      rw [hl] at hi
      simp only [] at hi
      have he := mem_getLast_cases hl
      have hd : ∀ x ∈ work.dropLast, x ∈ work := fun x hx => by rw [he]; exact List.mem_append_left _ hx
      split at hi
      · rename_i hc
        have ha : Rch l W a.toNat := hw a (by rw [he]; simp) a.toNat (by omega) (by omega)
        refine dfs_sound l W f _ _ (fun x hx => ?_) (fun x hx n hn hlt => ?_) i hi
        · rcases List.mem_append.1 hx with hx | hx
          · exact ho x hx
          · simp at hx; subst hx; exact ha
        · rcases List.mem_append.1 hx with hx | hx
          · exact hw x (hd x hx) n hn hlt
          · simp only [List.mem_map] at hx
            obtain ⟨m, hm, rfl⟩ := hx
            have : m = n := by omega
            subst this
            exact .step _ _ ha hm hlt
      · exact dfs_sound l W f _ _ ho (fun x hx => hw x (hd x hx)) i hi

theorem dfs_complete (l : List St) : ∀ (f : Nat) (out : List Nat) (work : List Int), meas l out work ≤ f → (∀ i ∈ out, ∀ j ∈ freeOf l i, j < l.length → j ∈ out ∨ (j : Int) ∈ work) →
    (∀ i ∈ out, i ∈ dfsM l f out work) ∧ (∀ i : Nat, (i : Int) ∈ work → i < l.length → i ∈ dfsM l f out work) ∧ (∀ i ∈ dfsM l f out work, ∀ j ∈ freeOf l i, j < l.length → j ∈ dfsM l f out work)
  | 0, out, work, hm, hc => by
    have : work = [] := by
      cases work with
      | nil => rfl
      | cons a w => simp [meas] at hm
    subst this
    simp only [dfsM]
    refine ⟨fun _ h => h, by simp, fun i hi j hj hl => ?_⟩
    rcases hc i hi j hj hl with h | h
    · exact h
    · simp at h
  | f + 1, out, work, hm, hc => by
    rw [dfsM]
    cases hl : work.getLast? with
    | none =>
      have : work = [] := List.getLast?_eq_none_iff.1 hl
      subst this
      refine ⟨fun _ h => h, by simp, fun i hi j hj hlt => ?_⟩
      rcases hc i hi j hj hlt with h | h
      · exact h
      · simp at h
    | some a =>
      have he := mem_getLast_cases hl
      have hne : work ≠ [] := fun e => by simp [e] at hl
      have hlen : 0 < work.length := List.length_pos_iff.2 hne
      simp only []
      split
      · rename_i hx
        have ht := todo_visit l out a.toNat (by omega) hx.2.2
        obtain ⟨h1, h2, h3⟩ := dfs_complete l f (out ++ [a.toNat]) (work.dropLast ++ (freeOf l a.toNat).map fun (n : Nat) => (n : Int)) (by
          simp only [meas, List.length_append, List.length_dropLast, List.length_map] at hm ⊢
          omega) (by
          intro i hi j hj hlt
          rcases List.mem_append.1 hi with hi | hi
          · rcases hc i hi j hj hlt with h | h
            · exact .inl (List.mem_append_left _ h)
            · rw [he] at h
              rcases List.mem_append.1 h with h | h
              · exact .inr (List.mem_append_left _ h)
              · simp at h
                have : a.toNat = j := by omega
                exact .inl (by simp [this])
          · simp at hi
            subst hi
            exact .inr (List.mem_append_right _ (List.mem_map.2 ⟨j, hj, rfl⟩)))
        refine ⟨fun i hi => h1 i (List.mem_append_left _ hi), fun i hi hlt => ?_, h3⟩
        rw [he] at hi
        rcases List.mem_append.1 hi with hi | hi
        · exact h2 i (List.mem_append_left _ hi) hlt
        · simp at hi
          have : a.toNat = i := by omega
          exact h1 i (by simp [this])
      · rename_i hx
        obtain ⟨h1, h2, h3⟩ := dfs_complete l f out work.dropLast (by
          simp only [meas, List.length_dropLast] at hm ⊢
          omega) (by
          intro i hi j hj hlt
          rcases hc i hi j hj hlt with h | h
          · exact .inl h
          · rw [he] at h
            rcases List.mem_append.1 h with h | h
            · exact .inr h
            · simp at h
              left
              have : a.toNat = j := by omega
              subst this
              exact Classical.byContradiction fun hn => hx ⟨by omega, by omega, hn⟩)
        refine ⟨h1, fun i hi hlt => ?_, h3⟩
        rw [he] at hi
        rcases List.mem_append.1 hi with hi | hi
        · exact h2 i hi hlt
        · simp at hi
          have : a.toNat = i := by omega
          subst this
          exact h1 _ (Classical.byContradiction fun hn => hx ⟨by omega, by omega, hn⟩)

theorem mem_visit (l : List St) (work : List Int) (i : Nat) : i ∈ visit l work ↔ Rch l work i := by
  constructor
  · exact dfs_sound l work _ [] work (by simp) (fun a ha n hn hlt => .base n (hn ▸ ha) hlt) i
  · intro h
    obtain ⟨_, h2, h3⟩ := dfs_complete l (meas l [] work) [] work (Nat.le_refl _) (by simp)
    induction h with
    | base i h hi => exact h2 i h hi
    | step i j _ hj hl ih => exact h3 i ih j hj hl
theorem mem_closed (l : List St) (work : List Int) (i : Nat) : i ∈ closedM l work ↔ Rch l work i := by
  unfold closedM
  rw [List.mem_filter, decide_eq_true_iff, mem_visit]
  exact ⟨fun h => h.2, fun h => ⟨List.mem_range.2 h.lt, h⟩⟩
end Go.Proofs.Ytjbmppbciiemkaa
