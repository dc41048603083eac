import Derived.Test.YtekjchphlphecaaSb24
import Derived.Test.YtekjchphlphecaaA3
namespace Go.Proofs.Ytekjchphlphecaa
open Go.RowKit Go.ChangeMaps Go.MapKept
set_option linter.unusedVariables false
set_option linter.unusedSimpArgs false
set_option linter.unnecessarySimpa false

/-! ### what a rising list does -/
theorem sStep_le {u : Int × SS} {x : Ent} : sUpto u.2.L ≤ sUpto (sStep u x).2.L := by
  unfold sStep
  split
  · show _ ≤ sUpto (u.2.L ++ [x])
    rw [sUpto_snoc]; omega
  · exact Int.le_refl _
theorem sStep_has {u : Int × SS} {x : Ent} : x.at_ ≤ sUpto (sStep u x).2.L := by
  unfold sStep
  split
  · show _ ≤ sUpto (u.2.L ++ [x])
    rw [sUpto_snoc]; omega
  · show x.at_ ≤ sUpto u.2.L
    omega
theorem fold_le (l : List Ent) : ∀ u : Int × SS, sUpto u.2.L ≤ sUpto (l.foldl sStep u).2.L ∧ ∀ x ∈ l, x.at_ ≤ sUpto (l.foldl sStep u).2.L := by
  induction l with
  | nil => intro u; simp
  | cons y l ih =>
    intro u
    obtain ⟨h1, h2⟩ := ih (sStep u y)
    have h3 := sStep_le (u := u) (x := y)
    have h4 := sStep_has (u := u) (x := y)
    rw [List.foldl_cons]
    refine ⟨by omega, fun x hx => ?_⟩
    rcases List.mem_cons.1 hx with rfl | hx
    · omega
    · exact h2 x hx
theorem fold_skip {l : List Ent} : ∀ {u : Int × SS}, (∀ x ∈ l, x.at_ ≤ sUpto u.2.L) → l.foldl sStep u = u := by
  induction l with
  | nil => intro u _; rfl
  | cons y l ih =>
    intro u h
    have h1 : sStep u y = u := by
      unfold sStep
      rw [if_neg (by have := h y (by simp); omega)]
    rw [List.foldl_cons, h1]
    exact ih fun x hx => h x (List.mem_cons_of_mem _ hx)
theorem fold_any (l : List Ent) : ∀ (c c' : Int) (s : SS), (l.foldl sStep (c, s)).2 = (l.foldl sStep (c', s)).2 := by
  induction l with
  | nil => intro c c' s; rfl
  | cons y l ih =>
    intro c c' s
    simp only [List.foldl_cons]
    unfold sStep
    dsimp only
    split
    · exact ih _ _ _
    · exact ih _ _ _
theorem fold_lag (l : List Ent) : ∀ (c : Int) (s : SS), l.Pairwise (fun a b => a.at_ < b.at_) → (l.foldl sStep (c, s)).1 = c + sLag s.L l := by
  intro c s hp
  have key : ∀ (l : List Ent) (c : Int) (s : SS) (B : Int), l.Pairwise (fun a b => a.at_ < b.at_) → (sUpto s.L ≤ B ∨ ∀ x ∈ l, sUpto s.L < x.at_) → (∀ x ∈ l, B < x.at_ ↔ sUpto s.L < x.at_) → (l.foldl sStep (c, s)).1 = c + (l.countP (fun x => decide (B < x.at_)) : Nat) := by
    intro l
    induction l with
    | nil => intro c s B _ _ _; simp
    | cons y l ih =>
      intro c s B hp hB hE
      rw [List.pairwise_cons] at hp
      rw [List.foldl_cons, List.countP_cons]
      have hy := hE y (by simp)
      by_cases h : sUpto s.L < y.at_
      · have h1 : sStep (c, s) y = (c + 1, sTake s y) := by unfold sStep; rw [if_pos h]
        rw [h1, ih (c + 1) (sTake s y) B hp.2 (.inr fun x hx => by
          show sUpto (s.L ++ [y]) < _
          rw [sUpto_snoc]; exact hp.1 x hx) (fun x hx => by
          show _ ↔ sUpto (s.L ++ [y]) < _
          rw [sUpto_snoc]
          have := hp.1 x hx
          have := hy.2 h
          exact ⟨fun _ => by omega, fun _ => by omega⟩)]
        have h2 : decide (B < y.at_) = true := decide_eq_true (hy.2 h)
        rw [h2]; simp; omega
      · have h1 : sStep (c, s) y = (c, s) := by unfold sStep; rw [if_neg h]
        rw [h1, ih c s B hp.2 (hB.imp id (fun h2 x hx => h2 x (List.mem_cons_of_mem _ hx))) (fun x hx => hE x (List.mem_cons_of_mem _ hx))]
        have h2 : decide (B < y.at_) = false := decide_eq_false (fun h3 => h (hy.1 h3))
        rw [h2]; simp
  exact key l c s (sUpto s.L) hp (.inl (Int.le_refl _)) (fun x _ => Iff.rfl)
theorem lag_zero {L l : List Ent} (h : ∀ x ∈ l, x.at_ ≤ sUpto L) : sLag L l = 0 := by
  unfold sLag
  have : l.countP (fun x => decide (sUpto L < x.at_)) = 0 := by
    rw [List.countP_eq_zero]
    intro x hx
    have := h x hx
    simp; omega
  rw [this]; rfl
/-- A rising list is taken as it lags. -/
theorem feed_lag {s : SS} {l : List Ent} (h : risesB l = true) : (sFeed s l).1 = sLag s.L l ∧ (sFeed s l).2.1 = 0 ∧ sLag (sFeed s l).2.2.L l = 0 := by
  unfold sFeed
  rw [if_pos h]
  refine ⟨?_, rfl, lag_zero fun x hx => (fold_le l (0, s)).2 x hx⟩
  have := fold_lag l 0 s (rises_pair h)
  simpa using this
/-- What the first m of a list make of a standby. -/
def upTo (s : SS) (l : List Ent) (m : Nat) : SS := ((l.take m).foldl sStep (0, s)).2
theorem feed_take {s : SS} {l : List Ent} (h : risesB l = true) (m n : Nat) : (sFeed (upTo s l m) (l.take n)).2 = (0, upTo s l (max m n)) := by
  have hp := rises_pair h
  have hr : risesB (l.take n) = true := risesB_iff.2 fun i hi => by
    have hi' : i + 1 < l.length := by rw [List.length_take] at hi; omega
    rw [List.getElem_take, List.getElem_take]
    exact risesB_iff.1 h i hi'
  unfold sFeed
  rw [if_pos hr]
  refine Prod.ext rfl ?_
  show ((l.take n).foldl sStep (0, upTo s l m)).2 = upTo s l (max m n)
  by_cases hmn : n ≤ m
  · rw [Nat.max_eq_left hmn, fold_skip (u := (0, upTo s l m)) fun x hx => ?_]
    have : x ∈ l.take m := by
      have e : l.take n = (l.take m).take n := by rw [List.take_take, Nat.min_eq_left hmn]
      rw [e] at hx; exact List.mem_of_mem_take hx
    exact (fold_le (l.take m) (0, s)).2 x this
  · have hmn' : m ≤ n := by omega
    rw [Nat.max_eq_right hmn']
    have e : l.take n = l.take m ++ (l.take n).drop m := by
      have e2 : l.take m = (l.take n).take m := by rw [List.take_take, Nat.min_eq_left hmn']
      rw [e2, List.take_append_drop]
    unfold upTo
    rw [e, List.foldl_append, fold_skip (l := l.take m) (u := (0, ((l.take m).foldl sStep (0, s)).2)) (fun x hx => (fold_le (l.take m) (0, s)).2 x hx), List.foldl_append]
    exact fold_any _ _ _ _
end Go.Proofs.Ytekjchphlphecaa
