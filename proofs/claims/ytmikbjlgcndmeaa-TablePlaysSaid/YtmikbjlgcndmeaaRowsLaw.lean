import Derived.Test.YtmikbjlgcndmeaaWalkTableNeed
namespace Go.Proofs.Ytmikbjlgcndmeaa
set_option linter.unusedVariables false
set_option linter.unusedSimpArgs false
set_option linter.unnecessarySimpa false

/-- No first record is behind the last one. -/
def rOk (T : TTab) : Prop := ∀ s ∈ T, 0 ≤ s.last ∧ s.first ≤ s.last
theorem rOk_begin {T : TTab} (h : rOk T) (n : Int) : rOk (tBegin T n).2 := by
  unfold tBegin
  split
  · exact h
  · split
    · exact h
    · split
      · exact h
      · intro s hs
        rcases List.mem_append.1 hs with hs | hs
        · exact h s hs
        · have : s = ⟨n, 0, 0, 0, []⟩ := by simpa using hs
          subst this
          exact ⟨Int.le_refl _, Int.le_refl _⟩
theorem rOk_log {T : TTab} (h : rOk T) (n a : Int) : rOk (tLog T n a).2 := by
  unfold tLog
  cases hf : tFind T n with
  | none => exact h
  | some s0 =>
    dsimp only
    have h0 := h s0 (tFind_txn hf).2
    split
    · exact h
    · rename_i ha
      intro s hs
      unfold tUpd at hs
      obtain ⟨x, hx, rfl⟩ := List.mem_map.1 hs
      split
      · dsimp only
        split <;> exact ⟨by omega, by omega⟩
      · exact h x hx
theorem rOk_end {T : TTab} (h : rOk T) (n : Int) : rOk (tEnd T n).2 := by
  unfold tEnd
  split
  · exact h
  · intro s hs
    exact h s (List.mem_filter.1 hs).1

theorem rowOf_some {T : TTab} {n : Int} {r : Row3} (h : rowOf T n = some r) : ∃ s, tFind T n = some s ∧ 0 < s.last ∧ r = (s.txn, s.first, s.last) ∧ s.txn = n := by
  unfold rowOf at h
  cases hf : tFind T n with
  | none => rw [hf] at h; simp at h
  | some s =>
    rw [hf] at h
    simp only [Option.bind_some] at h
    split at h
    · rename_i hl
      cases h
      exact ⟨s, rfl, hl, rfl, (tFind_txn hf).1⟩
    · cases h

theorem rows_facts {T : TTab} (hr : rOk T) {i : Nat} {x y z : Int} (h : (tRows' T)[i]? = some (x, y, z)) : (∃ lf, tRow T x = ((x, y, z), lf, 0)) ∧ y ≤ z ∧ 1 ≤ z := by
  have hm := List.mem_of_getElem? h
  unfold tRows' at hm
  obtain ⟨n, hn, hrow⟩ := List.mem_filterMap.1 hm
  obtain ⟨s, h1, h2, h3, h4⟩ := rowOf_some hrow
  cases h3
  have h5 := hr s (tFind_txn h1).2
  refine ⟨⟨s.left, ?_⟩, h5.2, h2⟩
  unfold tRow
  rw [h4, h1]
  dsimp only
  rw [h4]

theorem rows_rise {T : TTab} (hn : (T.map (·.txn)).Nodup) {i : Nat} {a b : Row3} (h1 : (tRows' T)[i]? = some a) (h2 : (tRows' T)[i + 1]? = some b) : a.1 < b.1 := by
  have hs : (sortI (T.map (·.txn))).Pairwise (· < ·) := by
    have tr : ∀ a b c : Int, decide (a ≤ b) = true → decide (b ≤ c) = true → decide (a ≤ c) = true := fun a b c h1 h2 => by simp only [decide_eq_true_eq] at *; omega
    have tot : ∀ a b : Int, (decide (a ≤ b) || decide (b ≤ a)) = true := fun a b => by simp only [Bool.or_eq_true, decide_eq_true_eq]; omega
    have p1 := List.pairwise_mergeSort tr tot (T.map (·.txn))
    have p2 : (sortI (T.map (·.txn))).Nodup := (List.mergeSort_perm _ _).nodup_iff.2 hn
    unfold sortI at p2 ⊢
    refine (p1.and p2).imp fun {a b} h => ?_
    have := h.1
    simp only [decide_eq_true_eq] at this
    have := h.2
    omega
  have hp : (tRows' T).Pairwise (fun a b => a.1 < b.1) := by
    unfold tRows'
    refine hs.filterMap _ fun a a' hlt b hb b' hb' => ?_
    obtain ⟨s, _, _, e1, e2⟩ := rowOf_some hb
    obtain ⟨s', _, _, e3, e4⟩ := rowOf_some hb'
    rw [e1, e3]
    dsimp only
    omega
  rw [List.pairwise_iff_getElem] at hp
  obtain ⟨k1, e1⟩ := List.getElem?_eq_some_iff.1 h1
  obtain ⟨k2, e2⟩ := List.getElem?_eq_some_iff.1 h2
  have := hp i (i + 1) k1 k2 (by omega)
  rw [e1, e2] at this
  exact this
theorem rows_few {T : TTab} (h : T.length ≤ 4) : (tRows' T).length ≤ 4 := by
  unfold tRows'
  have h1 := List.length_filterMap_le (rowOf T) (sortI (T.map (·.txn)))
  rw [sortI_len] at h1
  simp at h1
  omega
end Go.Proofs.Ytmikbjlgcndmeaa
