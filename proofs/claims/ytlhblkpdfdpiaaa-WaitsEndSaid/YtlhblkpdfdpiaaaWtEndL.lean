import Derived.Test.YtlhblkpdfdpiaaaWtAw
namespace Go.Proofs.Ytlhblkpdfdpiaaa.Wt
open Go.RowKit Go.ChangeMaps Go.MapKept Go.Shelf
set_option linter.unusedVariables false
set_option linter.unusedSimpArgs false
set_option linter.unnecessarySimpa false

theorem nodupPut {m : List (Int × Int)} (h : (m.map (·.1)).Nodup) (k v : Int) : ((mput m k v).map (·.1)).Nodup := Go.Proofs.Ytlhblkpdfdpiaaa.nodup_mput h k v
theorem mgetPutAny {m : List (Int × Int)} (hn : (m.map (·.1)).Nodup) (k v j : Int) : mget (mput m k v) j = if j = k then some v else mget m j := by
  apply Option.ext
  intro a
  rw [Go.Proofs.Ytlhblkpdfdpiaaa.mget_iff (nodupPut hn k v) j a, mem_mput_iff]
  by_cases hj : j = k
  · subst hj; simp [eq_comm]
  · rw [if_neg hj, Go.Proofs.Ytlhblkpdfdpiaaa.mget_iff hn j a]; simp [hj]
/-- How often each came. -/
structure Gone (m : List (Int × Int)) (L : List Int) : Prop where
  get : ∀ z, (mget m z).getD 0 = (L.count z : Int)
  none : L = [] → m = []
theorem Gone.nil : Gone [] [] := ⟨fun z => rfl, fun _ => rfl⟩
theorem Gone.snoc {m : List (Int × Int)} {L : List Int} (h : Gone m L) (hn : (m.map (·.1)).Nodup) (n : Int) : Gone (mput m n ((L.count n : Int) + 1)) (L ++ [n]) := by
  refine ⟨fun z => ?_, fun e => by simp at e⟩
  rw [mgetPutAny hn, List.count_append]
  by_cases hz : z = n
  · subst hz; simp
  · rw [if_neg hz, h.get, List.count_singleton]
    have : (n == z) = false := by simp; exact fun e => hz e.symm
    simp [this]
theorem gone_test {L : List Int} {a b : Int} : ((L.count a : Int) + (L.count b : Int) == 0) = (!L.contains a && !L.contains b) := by
  rw [Bool.eq_iff_iff, beq_iff_eq, Bool.and_eq_true, Bool.not_eq_true', Bool.not_eq_true', ← Bool.not_eq_true, ← Bool.not_eq_true, List.contains_iff_mem, List.contains_iff_mem]
  have h1 := List.count_pos_iff (a := a) (l := L)
  have h2 := List.count_pos_iff (a := b) (l := L)
  constructor
  · intro h; exact ⟨fun e => by have := h1.2 e; omega, fun e => by have := h2.2 e; omega⟩
  · rintro ⟨g1, g2⟩
    have : ¬ 0 < L.count a := fun e => g1 (h1.1 e)
    have : ¬ 0 < L.count b := fun e => g2 (h2.1 e)
    omega
theorem vic_len {f : Nat} : ∀ {e : Edges}, (vic f e).length ≤ f := by
  induction f with
  | zero => intro e; simp [vic]
  | succ f ih =>
    intro e
    unfold vic
    split
    · simp
    · have := ih (e := wo e (maxL ‹_› ‹_›))
      simp; omega
/-- Those that stay. -/
def stay (e : Edges) (x : Int × Int) : Bool := !(victims e).contains x.1 && !(victims e).contains x.2
theorem stay_free (e : Edges) : cyc (e.filter (stay e)) = [] := victims_free e.length e (Nat.le_refl _)

/-- Where each stands. -/
structure AtP (m : List (Int × Int)) (O : List Int) (j : Nat) : Prop where
  get : ∀ i, i < j → ∀ z, O[i]? = some z → (mget m z).getD 0 = (i : Int) + 1
theorem AtP.nil (O : List Int) : AtP [] O 0 := ⟨fun i h => by omega⟩
theorem AtP.snoc {m : List (Int × Int)} {O : List Int} {j : Nat} (h : AtP m O j) (hn : (m.map (·.1)).Nodup) (hO : O.Nodup) {n : Int} (hj : O[j]? = some n) : AtP (mput m n ((j : Int) + 1)) O (j + 1) := by
  refine ⟨fun i hi z hz => ?_⟩
  rw [mgetPutAny hn]
  obtain ⟨h1, h2⟩ := List.getElem?_eq_some_iff.1 hz
  obtain ⟨h3, h4⟩ := List.getElem?_eq_some_iff.1 hj
  by_cases hij : i = j
  · subst hij
    rw [hz] at hj
    cases hj
    simp
  · have hne : z ≠ n := by
      rintro rfl
      exact hij ((List.getElem_inj hO).1 (h2.trans h4.symm))
    rw [if_neg hne]
    exact h.get i (by omega) z hz
theorem at_law {e : Edges} (hc : cyc e = []) {m : List (Int × Int)} (h : AtP m (ord e) (ord e).length) {a b : Int} (hab : (a, b) ∈ e) :
    ((mget m b).getD 0 == 0) = false ∧ ¬ (mget m b).getD 0 ≥ (mget m a).getD 0 := by
  have ha : a ∈ ord e := (ord_perm hc).mem_iff.2 (nm_fst hab)
  obtain ⟨i, hi, he⟩ := List.getElem_of_mem ha
  have hb := ord_behind hc i hi b (by rw [he]; exact hab)
  obtain ⟨i2, hi2, he2⟩ := List.getElem_of_mem hb
  rw [List.getElem_take] at he2
  rw [List.length_take] at hi2
  have g1 := h.get i hi a (by rw [List.getElem?_eq_getElem hi, he])
  have g2 := h.get i2 (by omega) b (by rw [List.getElem?_eq_getElem (by omega), he2])
  rw [g1, g2]
  refine ⟨by simp; omega, by omega⟩
end Go.Proofs.Ytlhblkpdfdpiaaa.Wt
