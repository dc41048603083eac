import Derived.Test.YtlhblkpdfdpiaaaOwW
import Derived.Laws.OwnMore
namespace Go.Proofs.Ytlhblkpdfdpiaaa
open Go.RowKit Go.ChangeMaps Go.MapKept
set_option linter.unusedVariables false
set_option linter.unusedSimpArgs false
set_option linter.unnecessarySimpa false

theorem flatMap_inv {α : Type} {size : Nat} {enc : α → List Value} (he : ∀ x, (enc x).length = size) {l : List α} {j : Nat} {u : Value} (h : (l.flatMap enc)[j]? = some u) : ∃ i x r, l[i]? = some x ∧ (enc x)[r]? = some u ∧ j = i * size + r := by
  induction l generalizing j with
  | nil => simp at h
  | cons y l ih =>
    rw [List.flatMap_cons] at h
    by_cases hj : j < size
    · rw [List.getElem?_append_left (by rw [he]; exact hj)] at h
      exact ⟨0, y, j, rfl, h, by omega⟩
    · rw [List.getElem?_append_right (by rw [he]; omega), he] at h
      obtain ⟨i, x, r, h1, h2, h3⟩ := ih h
      exact ⟨i + 1, x, r, by simpa using h1, h2, by rw [Nat.add_mul]; omega⟩

theorem newsB {w : World} {b : Nat} {cs : List Value} {t : TypeId} {f : Nat × Nat} (h : w.heap[b]? = some (.cells cs.toArray t f)) : ∀ j u, cs[j]? = some u → w.cell? ((⟨b, 0, none⟩ : Addr).add j) = some u := fun j u hu => by
  have e1 : (⟨b, 0, none⟩ : Addr).add j = ⟨b, j, none⟩ := by unfold Addr.add; split <;> simp_all
  rw [e1, cell_blk h]; simpa using hu
section
variable {P : Program} {w : World} {ops : Array Oper} {rest : List Oper} {o : Oper} {a : Act} {Q : Exit → Act → World → Prop} {e : TypeId} {size n : Nat} {v : Value} {xs : List Value}
/-- append of one element, just laid into the block b, behind a guard that holds. -/
theorem step_app1w {t : TypeId} {z : Value} {bytes : Nat} (T : SlT P t e z size bytes) (hg : Region.wanted o (yielded ops a.tmps) = true) (s x : Operand) (hop : o.op = .call { callee := .builtin .append, args := #[s, x], argTypes := #[t, t] })
    {base : Nat} (hown : w.ownsRow base e size v n xs) (hs : a.eval s = v) (b : Nat) (cs : List Value) (hx : a.eval x = .slice (some ⟨b, 0, none⟩) 1 1)
    {c : Array Value} {e' : TypeId} {f : Nat × Nat} (hb : w.heap[b]? = some (.cells c e' f)) (hc : c = cs.toArray) (hl : cs.length = size) (h1 : ∀ u ∈ cs, u.oneCell' = true)
    (hn : (n + 1) * bytes ≤ 140737488355328) (hn2 : n + 1 ≤ maxLen) (hbase : base ≤ w.heap.size)
    (hK : ∀ v' w', w'.ownsRow base e size v' (n + 1) (xs ++ cs) → Chg (OwnB v) w w' → (∀ i, OwnB v' i → OwnB v i ∨ w.heap.size ≤ i) → wpList P ops Q rest (a.put o.dst v') w') : wpList P ops Q (o :: rest) a w := by
  subst hc
  obtain ⟨v', w', hr, h2, h3, h4, h5⟩ := run_app T o.type hown ⟨b, 0, none⟩ 1 1 cs (by omega) (newsB hb) h1 hn hn2 hbase
  refine step_run hg ?_ (hK v' w' h2 h3 h4)
  simp [execOp, hop, resolve, invoke, builtin, hs, hx, hr, Result.andThen]
/-- append of a slice that is read as a list. -/
theorem step_appR {t : TypeId} {z : Value} {bytes : Nat} (T : SlT P t e z size bytes) (hg : o.guard = none) (s x : Operand) (hop : o.op = .call { callee := .builtin .append, args := #[s, x], argTypes := #[t, t] })
    (hown : OwW w e size v n xs) (hs : a.eval s = v) {α : Type} {enc : α → List Value} (he : ∀ x, (enc x).length = size) (h1 : ∀ x, ∀ u ∈ enc x, u.oneCell' = true) {v2 : Value} {l2 : List α} (hr : Rd w size enc v2 l2) (hx : a.eval x = v2)
    (hn : (n + l2.length) * bytes ≤ 140737488355328) (hn2 : n + l2.length ≤ maxLen)
    (hK : ∀ v' w', OwW w' e size v' (n + l2.length) (xs ++ l2.flatMap enc) → Chg (OwnB v) w w' → (∀ i, OwnB v' i → OwnB v i ∨ w.heap.size ≤ i) → wpList P ops Q rest (a.put o.dst v') w') : wpList P ops Q (o :: rest) a w := by
  obtain ⟨ad, c, rfl, hc, hm, hcell⟩ := hr
  have hfl : (l2.flatMap enc).length = l2.length * size := by
    clear hcell hn hn2 hK hc hm hx
    induction l2 with
    | nil => simp
    | cons y l ih => rw [List.flatMap_cons, List.length_append, he, ih, List.length_cons, Nat.add_mul]; omega
  cases ad with
  | none =>
    have h0 : l2 = [] := by
      cases l2 with
      | nil => rfl
      | cons y l => obtain ⟨b, off, h, _⟩ := hcell 0 y rfl; cases h
    subst h0
    have hrun : (Builtin.append_ #[t, t] o.type #[v, .slice none 0 c]).run P w = .ok v w := by
      obtain ⟨i, hi, hz0, hz1, hz2⟩ := info_parts T.inf
      rcases hown.2 with ⟨rfl, rfl⟩ | ⟨g, cap, cur, rfl, _, hnc, _⟩
      · simp [Builtin.append_, run_underlying T.und, sizeOf, typeInfo, hi, Builtin.lenOf, Builtin.firstCells]
      · simp [Builtin.append_, run_underlying T.und, sizeOf, typeInfo, hi, Builtin.lenOf, Builtin.firstCells, hnc, storeCells]
    refine step_run (wanted_none hg) ?_ (hK v w (by simpa using hown) (Chg.refl _ _) (fun i hi => .inl hi))
    simp [execOp, hop, resolve, invoke, builtin, hs, hx, hrun, Result.andThen]
  | some ad =>
    refine step_appW T hg s x hop hown hs ad l2.length c (l2.flatMap enc) hx hfl (fun j u hj => ?_) (fun u hu => ?_) hn hn2 hK
    · obtain ⟨i, y, r, g1, g2, rfl⟩ := flatMap_inv he hj
      obtain ⟨b, off, hb, g3⟩ := hcell i y g1
      cases hb
      have e1 : (⟨b, off, none⟩ : Addr).add (i * size + r) = ⟨b, off + i * size + r, none⟩ := by unfold Addr.add; split <;> simp_all [Nat.add_assoc]
      rw [e1]
      exact g3 r u g2
    · obtain ⟨y, _, hy⟩ := List.mem_flatMap.1 hu
      exact h1 y u hy
end

end Go.Proofs.Ytlhblkpdfdpiaaa
