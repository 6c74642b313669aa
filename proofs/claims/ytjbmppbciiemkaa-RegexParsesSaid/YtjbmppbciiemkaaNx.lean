/-
  Bytes of texts put together; append of a row of whole numbers.
-/
import Derived.Test.YtjbmppbciiemkaaNp
import Derived.Test.YtjbmppbciiemkaaNu
namespace Go.Proofs.Ytjbmppbciiemkaa set_option linter.unusedVariables false set_option linter.unusedSimpArgs false
open Go.RowKit

/-- 'append(v, x...)' of a row of whole numbers, nil or not. -/
theorem wpList_append_ints {P : Program} (w : World) {ops : Array Oper} {rest : List Oper} {o : Oper} {a : Act} {Q : Exit → Act → World → Prop} (hgd : o.guard = none) (s x : Operand) (t : TypeId)
    (ho : o.op = .call { callee := .builtin .append, args := #[s, x], argTypes := #[t, t] })
    (base : Nat) (e : TypeId) (i : TypeInfo) (z : Value) (bytes : Nat) (ht : P.underlying t = some (.slice e)) (hi : P.info? e = some i) (hz : i.zero = some z)
    (hsize : i.size = 1) (hby : i.bytes = bytes) (hzs : z.cells.size = 1)
    (v : Value) (n : Nat) (xs : List Value) (hs : a.eval s = v) (hown : w.ownsRow base e 1 v n xs)
    (xv : Value) (B : List Int) (base2 : Nat) (hx : a.eval x = xv) (hI : w.ownsRow base2 e 1 xv B.length (intsV B))
    (h63 : n + B.length ≤ maxLen) (hbytes : (n + B.length) * bytes ≤ 140737488355328) (hbase : base ≤ w.heap.size)
    (h : ∀ v' w', w'.ownsRow base e 1 v' (n + B.length) (xs ++ intsV B) → w.grownBy w' v.ownBlock → wpList P ops Q rest (a.put o.dst v') w') : wpList P ops Q (o :: rest) a w := by
  have hI2 := hI
  rcases hI.2 with ⟨rfl, hn0⟩ | ⟨g, cap, cur, rfl, _⟩
  · have hB : B = [] := List.eq_nil_of_length_eq_zero hn0
    subst hB
    refine wpList_append_own_none hgd s x t ho base e i 1 ht hi v n xs hs hown hx ?_
    refine h v w ?_ ⟨rfl, rfl, rfl, Nat.le_refl _, fun _ _ _ => rfl⟩
    simpa [intsV] using hown
  · refine wpList_append_own w hgd s x t ho base e i z 1 bytes ht hi hz hsize hby hzs (by decide) v n xs hs hown ⟨g, 0, none⟩ B.length cap (intsV B) hx (by rw [intsV_length, Nat.mul_one]) (hI2.cells rfl) ?_ h63 hbytes hbase (fun v' w' h1 h2 _ => h v' w' h1 h2)
    intro u hu
    simp only [intsV, List.mem_map] at hu
    obtain ⟨n, _, rfl⟩ := hu
    rfl
end Go.Proofs.Ytjbmppbciiemkaa
