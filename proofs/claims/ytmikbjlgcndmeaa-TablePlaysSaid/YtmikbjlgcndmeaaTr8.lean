import Derived.Test.YtmikbjlgcndmeaaTr7
namespace Go.Proofs.Ytmikbjlgcndmeaa
open Go.RowKit Go.ChangeMaps Go.MapKept
set_option linter.unusedVariables false
set_option linter.unusedSimpArgs false
set_option linter.unnecessarySimpa false
set_option maxHeartbeats 8000000

/-- Where a new one is laid. -/
def rAt (xs : List (TxS × Value)) (n : Int) : Nat := (xs.takeWhile (fun x => decide (x.1.txn < n))).length
theorem rAt_le (xs : List (TxS × Value)) (n : Int) : rAt xs n ≤ xs.length := (List.takeWhile_sublist _).length_le
theorem rAt_lt {xs : List (TxS × Value)} {n : Int} {j : Nat} (h : j < rAt xs n) : ∃ h2 : j < xs.length, xs[j].1.txn < n := by
  refine ⟨Nat.lt_of_lt_of_le h (rAt_le xs n), ?_⟩
  have h3 : (xs.takeWhile (fun x => decide (x.1.txn < n)))[j]'h = xs[j]'(Nat.lt_of_lt_of_le h (rAt_le xs n)) := (List.takeWhile_prefix (fun x : TxS × Value => decide (x.1.txn < n))).getElem h
  have h4 := List.getElem_mem h
  rw [h3] at h4
  have := List.all_eq_true.1 (List.all_takeWhile (l := xs) (p := fun x : TxS × Value => decide (x.1.txn < n))) _ h4
  simpa using this
theorem rAt_stop : ∀ {xs : List (TxS × Value)} {n : Int} (h : rAt xs n < xs.length), ¬ xs[rAt xs n].1.txn < n
  | [], n, h => by simp at h
  | y :: ys, n, h => by
    by_cases hy : y.1.txn < n
    · have e : rAt (y :: ys) n = rAt ys n + 1 := by simp [rAt, hy]
      simp only [e, List.getElem_cons_succ]
      exact rAt_stop (by simp [e] at h; omega)
    · have e : rAt (y :: ys) n = 0 := by simp [rAt, hy]
      simp only [e, List.getElem_cons_zero]
      exact hy
/-- The reference's Begin. -/
def rBegin (xs : List (TxS × Value)) (n : Int) : Int × List (TxS × Value) := if n < 1 ∨ 2147483647 < n then (1, xs) else if (tFind (xs.map (·.1)) n).isSome then (9, xs) else if 4 ≤ xs.length then (5, xs) else (0, xs.take (rAt xs n) ++ [(⟨n, 0, 0, 0, []⟩, .slice none 0 0)] ++ xs.drop (rAt xs n))
theorem rBegin_srt {xs : List (TxS × Value)} (h : xs.Pairwise (fun a b => a.1.txn < b.1.txn)) {n : Int} (hn : tFind (xs.map (·.1)) n = none) (x : TxS × Value) (hx : x.1.txn = n) : (xs.take (rAt xs n) ++ [x] ++ xs.drop (rAt xs n)).Pairwise (fun a b => a.1.txn < b.1.txn) := by
  have hnot : ∀ y ∈ xs, y.1.txn ≠ n := fun y hy e => by
    unfold tFind at hn
    rw [List.find?_eq_none] at hn
    have := hn y.1 (List.mem_map.2 ⟨y, hy, rfl⟩)
    simp [e] at this
  have h2 := h
  rw [← List.take_append_drop (rAt xs n) xs] at h2
  rw [List.pairwise_append] at h2
  obtain ⟨p1, p2, p3⟩ := h2
  have hlo : ∀ z ∈ xs.take (rAt xs n), z.1.txn < n := fun z hz => by
    obtain ⟨j, hj, rfl⟩ := List.getElem_of_mem hz
    rw [List.length_take] at hj
    rw [List.getElem_take]
    exact (rAt_lt (by omega)).2
  have hhi : ∀ z ∈ xs.drop (rAt xs n), n < z.1.txn := fun z hz => by
    obtain ⟨j, hj, rfl⟩ := List.getElem_of_mem hz
    rw [List.length_drop] at hj
    rw [List.getElem_drop]
    have h0 : rAt xs n < xs.length := by omega
    have h1 := rAt_stop h0
    have h3 : xs[rAt xs n].1.txn ≤ xs[rAt xs n + j].1.txn := by
      rcases Nat.eq_zero_or_pos j with rfl | hp
      · simp
      · have := List.pairwise_iff_getElem.1 h (rAt xs n) (rAt xs n + j) h0 (by omega) (by omega)
        omega
    have h4 : xs[rAt xs n].1.txn ≠ n := hnot _ (List.getElem_mem _)
    omega
  rw [List.pairwise_append, List.pairwise_append]
  refine ⟨⟨p1, by simp, fun a ha b hb => ?_⟩, p2, fun a ha b hb => ?_⟩
  · obtain rfl := List.mem_singleton.1 hb; rw [hx]; exact hlo a ha
  · rcases List.mem_append.1 ha with ha | ha
    · exact p3 a ha b hb
    · obtain rfl := List.mem_singleton.1 ha; rw [hx]; exact hhi b hb
theorem rBegin_perm (xs : List (TxS × Value)) (n : Int) (x : TxS × Value) : ((xs.take (rAt xs n) ++ [x] ++ xs.drop (rAt xs n)).map (·.1)).Perm (xs.map (·.1) ++ [x.1]) := by
  have h1 : (xs.take (rAt xs n) ++ [x] ++ xs.drop (rAt xs n)).Perm (xs ++ [x]) := by
    have h2 : (xs.take (rAt xs n) ++ [x] ++ xs.drop (rAt xs n)).Perm (xs.take (rAt xs n) ++ (xs.drop (rAt xs n) ++ [x])) := by
      rw [List.append_assoc]
      exact List.Perm.append_left _ List.perm_append_comm
    rw [← List.append_assoc, List.take_append_drop] at h2
    exact h2
  have := h1.map (fun y : TxS × Value => y.1)
  simpa using this
end Go.Proofs.Ytmikbjlgcndmeaa
