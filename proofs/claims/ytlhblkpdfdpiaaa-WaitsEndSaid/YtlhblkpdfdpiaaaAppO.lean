import Derived.Test.YtlhblkpdfdpiaaaAppR
namespace Go.Proofs.Ytlhblkpdfdpiaaa
open Go.RowKit Go.ChangeMaps Go.MapKept
set_option linter.unusedVariables false
set_option linter.unusedSimpArgs false
set_option linter.unnecessarySimpa false
section
variable {P : Program} {w : World} {ops : Array Oper} {rest : List Oper} {o : Oper} {a : Act} {Q : Exit → Act → World → Prop} {e : TypeId} {size n : Nat} {v : Value} {xs : List Value}
/-- append of a slice that is read as a list, to a row of one's own. -/
theorem step_appO {t : TypeId} {z : Value} {bytes : Nat} (T : SlT P t e z size bytes) (hg : o.guard = none) (s x : Operand) (hop : o.op = .call { callee := .builtin .append, args := #[s, x], argTypes := #[t, t] })
    {base : Nat} (hown : w.ownsRow base e size v n xs) (hbase : base ≤ w.heap.size) (hs : a.eval s = v) {α : Type} {enc : α → List Value} (he : ∀ x, (enc x).length = size) {v2 : Value} {l2 : List α} (h1 : ∀ x ∈ l2, ∀ u ∈ enc x, u.oneCell' = true) (hr : Rd w size enc v2 l2) (hx : a.eval x = v2)
    (hn : (n + l2.length) * bytes ≤ 140737488355328) (hn2 : n + l2.length ≤ maxLen)
    (hK : ∀ v' w', w'.ownsRow base e size v' (n + l2.length) (xs ++ l2.flatMap enc) → Chg (OwnB v) w w' → (∀ i, OwnB v' i → OwnB v i ∨ w.heap.size ≤ i) → wpList P ops Q rest (a.put o.dst v') w') : wpList P ops Q (o :: rest) a w := by
  obtain ⟨ad, c, rfl, hc, hm, hcell⟩ := hr
  have hfl : (l2.flatMap enc).length = l2.length * size := by
    clear hcell hn hn2 hK hc hm hx h1
    induction l2 with
    | nil => simp
    | cons y l ih => rw [List.flatMap_cons, List.length_append, he, ih, List.length_cons, Nat.add_mul]; omega
  cases ad with
  | none =>
    have h0 : l2 = [] := by
      cases l2 with
      | nil => rfl
      | cons y l => obtain ⟨b, off, h, _⟩ := hcell 0 y rfl; cases h
    subst h0
    have hrun : (Builtin.append_ #[t, t] o.type #[v, .slice none 0 c]).run P w = .ok v w := by
      obtain ⟨i, hi, hz0, hz1, hz2⟩ := info_parts T.inf
      rcases hown.2 with ⟨rfl, rfl⟩ | ⟨g, cap, cur, rfl, _, _, hnc, _⟩
      · simp [Builtin.append_, run_underlying T.und, sizeOf, typeInfo, hi, Builtin.lenOf, Builtin.firstCells]
      · simp [Builtin.append_, run_underlying T.und, sizeOf, typeInfo, hi, Builtin.lenOf, Builtin.firstCells, hnc, storeCells]
    refine step_run (wanted_none hg) ?_ (hK v w (by simpa using hown) (Chg.refl _ _) (fun i hi => .inl hi))
    simp [execOp, hop, resolve, invoke, builtin, hs, hx, hrun, Result.andThen]
  | some ad =>
    refine step_app T hg s x hop hown hs ad l2.length c (l2.flatMap enc) hx hfl (fun j u hj => ?_) (fun u hu => ?_) hn hn2 hbase fun v' w' g1 g2 g3 g4 => hK v' w' g1 g2 g3
    · obtain ⟨i, y, r, g1, g2, rfl⟩ := flatMap_inv he hj
      obtain ⟨b, off, hb, g3⟩ := hcell i y g1
      cases hb
      have e1 : (⟨b, off, none⟩ : Addr).add (i * size + r) = ⟨b, off + i * size + r, none⟩ := by unfold Addr.add; split <;> simp_all [Nat.add_assoc]
      rw [e1]
      exact g3 r u g2
    · obtain ⟨y, hy0, hy⟩ := List.mem_flatMap.1 hu
      exact h1 y hy0 u hy
/-- append of a slice that is read as a list, to a row of one's own, behind a guard that holds. -/
theorem step_appOw {t : TypeId} {z : Value} {bytes : Nat} (T : SlT P t e z size bytes) (hg : Region.wanted o (yielded ops a.tmps) = true) (s x : Operand) (hop : o.op = .call { callee := .builtin .append, args := #[s, x], argTypes := #[t, t] })
    {base : Nat} (hown : w.ownsRow base e size v n xs) (hbase : base ≤ w.heap.size) (hs : a.eval s = v) {α : Type} {enc : α → List Value} (he : ∀ x, (enc x).length = size) {v2 : Value} {l2 : List α} (h1 : ∀ x ∈ l2, ∀ u ∈ enc x, u.oneCell' = true) (hr : Rd w size enc v2 l2) (hx : a.eval x = v2)
    (hn : (n + l2.length) * bytes ≤ 140737488355328) (hn2 : n + l2.length ≤ maxLen)
    (hK : ∀ v' w', w'.ownsRow base e size v' (n + l2.length) (xs ++ l2.flatMap enc) → Chg (OwnB v) w w' → (∀ i, OwnB v' i → OwnB v i ∨ w.heap.size ≤ i) → wpList P ops Q rest (a.put o.dst v') w') : wpList P ops Q (o :: rest) a w := by
  obtain ⟨ad, c, rfl, hc, hm, hcell⟩ := hr
  have hfl : (l2.flatMap enc).length = l2.length * size := by
    clear hcell hn hn2 hK hc hm hx h1
    induction l2 with
    | nil => simp
    | cons y l ih => rw [List.flatMap_cons, List.length_append, he, ih, List.length_cons, Nat.add_mul]; omega
  cases ad with
  | none =>
    have h0 : l2 = [] := by
      cases l2 with
      | nil => rfl
      | cons y l => obtain ⟨b, off, h, _⟩ := hcell 0 y rfl; cases h
    subst h0
    have hrun : (Builtin.append_ #[t, t] o.type #[v, .slice none 0 c]).run P w = .ok v w := by
      obtain ⟨i, hi, hz0, hz1, hz2⟩ := info_parts T.inf
      rcases hown.2 with ⟨rfl, rfl⟩ | ⟨g, cap, cur, rfl, _, _, hnc, _⟩
      · simp [Builtin.append_, run_underlying T.und, sizeOf, typeInfo, hi, Builtin.lenOf, Builtin.firstCells]
      · simp [Builtin.append_, run_underlying T.und, sizeOf, typeInfo, hi, Builtin.lenOf, Builtin.firstCells, hnc, storeCells]
    refine step_run hg ?_ (hK v w (by simpa using hown) (Chg.refl _ _) (fun i hi => .inl hi))
    simp [execOp, hop, resolve, invoke, builtin, hs, hx, hrun, Result.andThen]
  | some ad =>
    obtain ⟨v', w', hr, h2, h3, h4, h5⟩ := run_app T o.type hown ad l2.length c (l2.flatMap enc) hfl (fun j u hj => by
      obtain ⟨i, y, r, g1, g2, rfl⟩ := flatMap_inv he hj
      obtain ⟨b, off, hb, g3⟩ := hcell i y g1
      cases hb
      have e1 : (⟨b, off, none⟩ : Addr).add (i * size + r) = ⟨b, off + i * size + r, none⟩ := by unfold Addr.add; split <;> simp_all [Nat.add_assoc]
      rw [e1]
      exact g3 r u g2) (fun u hu => by
      obtain ⟨y, hy0, hy⟩ := List.mem_flatMap.1 hu
      exact h1 y hy0 u hy) hn hn2 hbase
    refine step_run hg ?_ (hK v' w' h2 h3 h4)
    simp [execOp, hop, resolve, invoke, builtin, hs, hx, hr, Result.andThen]
end
end Go.Proofs.Ytlhblkpdfdpiaaa
