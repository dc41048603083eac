import Derived.Test.YtlhblkpdfdpiaaaSrt
namespace Go.Proofs.Ytlhblkpdfdpiaaa
open Go.RowKit Go.ChangeMaps Go.MapKept
set_option linter.unusedVariables false
set_option linter.unusedSimpArgs false
set_option linter.unnecessarySimpa false

/-! ### an int laid into a rising list -/
def insAt (ys : List Int) (x : Int) : Nat := (ys.takeWhile (fun y => decide (y < x))).length
def insI (ys : List Int) (x : Int) : List Int := ys.take (insAt ys x) ++ [x] ++ ys.drop (insAt ys x)
theorem insAt_le (ys : List Int) (x : Int) : insAt ys x ≤ ys.length := (List.takeWhile_sublist _).length_le
theorem insAt_lt {ys : List Int} {x : Int} {j : Nat} (h : j < insAt ys x) : ∃ h2 : j < ys.length, ys[j] < x := by
  refine ⟨Nat.lt_of_lt_of_le h (insAt_le ys x), ?_⟩
  have h3 : (ys.takeWhile (fun y => decide (y < x)))[j]'h = ys[j]'(Nat.lt_of_lt_of_le h (insAt_le ys x)) := (List.takeWhile_prefix (fun y => decide (y < x))).getElem h
  have h4 := List.getElem_mem h
  rw [h3] at h4
  have := List.all_eq_true.1 (List.all_takeWhile (l := ys) (p := fun y => decide (y < x))) _ h4
  simpa using this
theorem insAt_stop : ∀ {ys : List Int} {x : Int} (h : insAt ys x < ys.length), ¬ ys[insAt ys x] < x
  | [], x, h => by simp at h
  | y :: ys, x, h => by
    by_cases hy : y < x
    · have e : insAt (y :: ys) x = insAt ys x + 1 := by simp [insAt, hy]
      simp only [e, List.getElem_cons_succ]
      exact insAt_stop (by simp [e] at h; omega)
    · have e : insAt (y :: ys) x = 0 := by simp [insAt, hy]
      simp only [e, List.getElem_cons_zero]
      exact hy
theorem insI_mem {ys : List Int} {x z : Int} : z ∈ insI ys x ↔ z = x ∨ z ∈ ys := by
  unfold insI
  have h := List.take_append_drop (insAt ys x) ys
  constructor
  · intro hz
    simp only [List.mem_append, List.mem_singleton] at hz
    rcases hz with (hz | hz) | hz
    · exact .inr (List.mem_of_mem_take hz)
    · exact .inl hz
    · exact .inr (List.mem_of_mem_drop hz)
  · rintro (rfl | hz)
    · simp
    · rw [← h] at hz
      simp only [List.mem_append, List.mem_singleton] at hz ⊢
      rcases hz with hz | hz
      · exact .inl (.inl hz)
      · exact .inr hz
theorem insI_len (ys : List Int) (x : Int) : (insI ys x).length = ys.length + 1 := by
  have := insAt_le ys x
  unfold insI
  simp
  omega
theorem insI_lt {ys : List Int} {x : Int} (h : ys.Pairwise (fun a b => a < b)) (hx : x ∉ ys) : (insI ys x).Pairwise (fun a b => a < b) := by
  have h2 := h
  rw [← List.take_append_drop (insAt ys x) ys] at h2
  rw [List.pairwise_append] at h2
  obtain ⟨p1, p2, p3⟩ := h2
  have hlo : ∀ z ∈ ys.take (insAt ys x), z < x := fun z hz => by
    obtain ⟨j, hj, rfl⟩ := List.getElem_of_mem hz
    rw [List.length_take] at hj
    rw [List.getElem_take]
    exact (insAt_lt (by omega)).2
  have hhi : ∀ z ∈ ys.drop (insAt ys x), x < z := fun z hz => by
    obtain ⟨j, hj, rfl⟩ := List.getElem_of_mem hz
    rw [List.length_drop] at hj
    rw [List.getElem_drop]
    have h0 : insAt ys x < ys.length := by omega
    have h1 := insAt_stop h0
    have h3 : ys[insAt ys x] ≤ ys[insAt ys x + j] := by
      rcases Nat.eq_zero_or_pos j with rfl | hp
      · simp
      · have := List.pairwise_iff_getElem.1 h (insAt ys x) (insAt ys x + j) h0 (by omega) (by omega)
        omega
    have h4 : ys[insAt ys x] ≠ x := fun e => hx (by rw [← e]; exact List.getElem_mem _)
    omega
  unfold insI
  rw [List.pairwise_append, List.pairwise_append]
  refine ⟨⟨p1, by simp, fun a ha b hb => ?_⟩, p2, fun a ha b hb => ?_⟩
  · obtain rfl := List.mem_singleton.1 hb; exact hlo a ha
  · rcases List.mem_append.1 ha with ha | ha
    · exact p3 a ha b hb
    · obtain rfl := List.mem_singleton.1 ha; exact hhi b hb
theorem insAll {l : List Int} (h : l.Nodup) : l.foldl insI [] = sortI l := by
  have key : ∀ (l ys : List Int), ys.Pairwise (fun a b => a < b) → l.Nodup → (∀ x ∈ l, x ∉ ys) → (l.foldl insI ys).Pairwise (fun a b => a < b) ∧ ∀ z, z ∈ l.foldl insI ys ↔ z ∈ ys ∨ z ∈ l := by
    intro l
    induction l with
    | nil => intro ys h1 _ _; exact ⟨h1, by simp⟩
    | cons x l ih =>
      intro ys h1 h2 h3
      rw [List.nodup_cons] at h2
      obtain ⟨g1, g2⟩ := ih (insI ys x) (insI_lt h1 (h3 x (by simp))) h2.2 (fun y hy hm => by
        rcases insI_mem.1 hm with rfl | hm
        · exact h2.1 hy
        · exact h3 y (List.mem_cons_of_mem _ hy) hm)
      refine ⟨g1, fun z => ?_⟩
      rw [List.foldl_cons, g2 z, insI_mem, List.mem_cons]
      constructor
      · rintro ((rfl | h) | h)
        · exact .inr (.inl rfl)
        · exact .inl h
        · exact .inr (.inr h)
      · rintro (h | rfl | h)
        · exact .inl (.inr h)
        · exact .inl (.inl rfl)
        · exact .inr h
  obtain ⟨g1, g2⟩ := key l [] List.Pairwise.nil h (by simp)
  exact lt_ext g1 (sortI_lt h) (fun z => by rw [g2 z, sortI_mem]; simp)
theorem foldl_ins_len (l : List Int) : ∀ ys : List Int, (l.foldl insI ys).length = ys.length + l.length := by
  induction l with
  | nil => simp
  | cons x l ih => intro ys; rw [List.foldl_cons, ih, insI_len, List.length_cons]; omega
end Go.Proofs.Ytlhblkpdfdpiaaa
