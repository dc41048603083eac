import Derived.Test.YtlhblkpdfdpiaaaLock3
namespace Go.Proofs.Ytlhblkpdfdpiaaa
open Go.RowKit Go.ChangeMaps

/-! ### Free -/
def lkHas (txn : Int) (m : List (Int × Int)) : Bool := decide (0 < (mget m txn).getD 0)
def lkFreeM (txn : Int) (m : List (Int × Int)) : List (Int × Int) := if lkHas txn m then mdel m txn else m
def lkFree (t : LTab) (txn : Int) : LTab := t.map (lkFreeM txn)
def lkCount (t : LTab) (txn : Int) : Int := ((t.filter (lkHas txn)).length : Int)

def lkFreeK (t : LTab) (txn : Int) (k : Nat) : LTab := (t.take k).map (lkFreeM txn) ++ t.drop k
theorem lkFreeK_zero (t : LTab) (txn : Int) : lkFreeK t txn 0 = t := by simp [lkFreeK]
theorem lkFreeK_all (t : LTab) (txn : Int) (h : t.length = 8) : lkFreeK t txn 8 = lkFree t txn := by simp [lkFreeK, lkFree, ← h]
theorem lkFreeK_at (t : LTab) (txn : Int) (k : Nat) (h : k < t.length) : (lkFreeK t txn k).getD k [] = t.getD k [] := by
  simp [lkFreeK, List.getElem?_append, h, Nat.min_eq_left (Nat.le_of_lt h)]
theorem lkFreeK_succ (t : LTab) (txn : Int) (k : Nat) (h : k < t.length) : (lkFreeK t txn k).set k (lkFreeM txn (t.getD k [])) = lkFreeK t txn (k + 1) := by
  have h1 : t = t.take k ++ t[k] :: t.drop (k + 1) := by rw [List.getElem_cons_drop, List.take_append_drop]
  have h2 : t.getD k [] = t[k] := by simp [h]
  have h3 : t.drop k = t[k] :: t.drop (k + 1) := by rw [List.getElem_cons_drop]
  have h4 : t.take (k + 1) = t.take k ++ [t[k]] := by rw [List.take_succ_eq_append_getElem h]
  unfold lkFreeK
  rw [h2, h3, h4, List.set_append_right _ _ (by simp; omega), List.length_map, List.length_take, Nat.min_eq_left (Nat.le_of_lt h), Nat.sub_self, List.set_cons_zero, List.map_append, List.append_assoc]
  rfl
theorem lkFreeK_same (t : LTab) (txn : Int) (k : Nat) (h : k < t.length) (hh : lkHas txn (t.getD k []) = false) : lkFreeK t txn k = lkFreeK t txn (k + 1) := by
  rw [← lkFreeK_succ t txn k h]
  apply List.ext_getElem?
  intro i
  by_cases hi : k = i
  · subst hi
    have h0 := lkFreeK_at t txn k h
    have hl : k < (lkFreeK t txn k).length := by simp [lkFreeK]; omega
    rw [List.getElem?_set_self hl]
    simp only [lkFreeM, hh]
    simp at h0 ⊢
    rw [List.getElem?_eq_getElem hl] at h0 ⊢
    simpa using h0
  · rw [List.getElem?_set_ne hi]
def lkCountK (t : LTab) (txn : Int) (k : Nat) : Int := (((t.take k).filter (lkHas txn)).length : Int)
theorem lkCountK_succ (t : LTab) (txn : Int) (k : Nat) (h : k < t.length) : lkCountK t txn (k + 1) = lkCountK t txn k + if lkHas txn (t.getD k []) then 1 else 0 := by
  unfold lkCountK
  rw [List.take_succ_eq_append_getElem h, List.filter_append]
  have : t.getD k [] = t[k] := by simp [h]
  rw [this]
  cases hh : lkHas txn t[k] <;> simp [hh]
theorem lkCountK_bd (t : LTab) (txn : Int) (k : Nat) : 0 ≤ lkCountK t txn k ∧ lkCountK t txn k ≤ k := by
  unfold lkCountK
  have := List.length_filter_le (lkHas txn) (t.take k)
  have h2 := List.length_take_le k t
  omega

structure FreeRel (p : Nat) (rs : List Nat) (t : LTab) (txn : Int) (w : World) (k : Nat) (wr : World) : Prop where
  at_ : LockAt wr p rs (lkFreeK t txn k)
  chg : Chg (InB rs) w wr

end Go.Proofs.Ytlhblkpdfdpiaaa
