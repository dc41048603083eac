import Derived.Test.YtlhblkpdfdpiaaaBase
namespace Go.Proofs.Ytlhblkpdfdpiaaa
set_option linter.unusedVariables false
set_option linter.unusedSimpArgs false
set_option linter.unnecessarySimpa false

def sortI (l : List Int) : List Int := l.mergeSort (fun x y => decide (x ≤ y))
/-! ### sorted -/
theorem sortI_mem {l : List Int} {x : Int} : x ∈ sortI l ↔ x ∈ l := by unfold sortI; simp
theorem sortI_len (l : List Int) : (sortI l).length = l.length := by unfold sortI; simp
theorem sortI_pw (l : List Int) : (sortI l).Pairwise (fun a b => a ≤ b) := by
  unfold sortI
  have := List.pairwise_mergeSort (le := fun x y : Int => decide (x ≤ y)) (fun a b c h1 h2 => by simp at *; omega) (fun a b => by simp; omega) l
  exact this.imp fun h => by simpa using h
theorem sortI_nodup {l : List Int} (h : l.Nodup) : (sortI l).Nodup := by
  unfold sortI
  exact (List.mergeSort_perm _ _).nodup_iff.2 h
theorem sortI_lt {l : List Int} (h : l.Nodup) : (sortI l).Pairwise (fun a b => a < b) := by
  have h1 := sortI_pw l
  have h2 := sortI_nodup h
  exact (List.Pairwise.and h1 h2).imp fun ⟨a, b⟩ => by omega
theorem lt_ext : ∀ {a b : List Int}, a.Pairwise (fun x y => x < y) → b.Pairwise (fun x y => x < y) → (∀ x, x ∈ a ↔ x ∈ b) → a = b := by
  intro a
  induction a with
  | nil =>
    intro b _ _ h
    cases b with
    | nil => rfl
    | cons y b => exact absurd ((h y).2 (by simp)) (by simp)
  | cons x a ih =>
    intro b ha hb h
    cases b with
    | nil => exact absurd ((h x).1 (by simp)) (by simp)
    | cons y b =>
      rw [List.pairwise_cons] at ha hb
      have hxy : x = y := by
        have h1 := (h x).1 (by simp)
        have h2 := (h y).2 (by simp)
        simp only [List.mem_cons] at h1 h2
        rcases h1 with h1 | h1
        · exact h1
        · rcases h2 with h2 | h2
          · exact h2.symm
          · have := hb.1 x h1
            have := ha.1 y h2
            omega
      subst hxy
      congr 1
      refine ih ha.2 hb.2 fun z => ?_
      have h1 := h z
      simp only [List.mem_cons] at h1
      constructor
      · intro hz
        rcases h1.1 (.inr hz) with e | e
        · have := ha.1 z hz; omega
        · exact e
      · intro hz
        rcases h1.2 (.inr hz) with e | e
        · have := hb.1 z hz; omega
        · exact e
theorem sortI_ext {a b : List Int} (ha : a.Nodup) (hb : b.Nodup) (h : ∀ x, x ∈ a ↔ x ∈ b) : sortI a = sortI b :=
  lt_ext (sortI_lt ha) (sortI_lt hb) fun x => by rw [sortI_mem, sortI_mem]; exact h x
end Go.Proofs.Ytlhblkpdfdpiaaa
