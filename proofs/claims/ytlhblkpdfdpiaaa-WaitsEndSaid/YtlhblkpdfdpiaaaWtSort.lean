import Derived.Test.YtlhblkpdfdpiaaaKeysB
import Derived.Test.YtlhblkpdfdpiaaaOwW
import Derived.Test.YtlhblkpdfdpiaaaWtLaw
import Derived.Lib.SortBridge
namespace Go.Proofs.Ytlhblkpdfdpiaaa.Wt
open Go.RowKit Go.ChangeMaps Go.MapKept Go.Sort Go.Shelf Go.Lib
set_option linter.unusedVariables false
set_option linter.unusedSimpArgs false
set_option linter.unnecessarySimpa false

theorem _root_.Go.Proofs.Ytlhblkpdfdpiaaa.Chg.grow {S : Nat → Prop} {a w : World} (h : Chg S a w) (os : Array Obj) : Chg S a (Go.Sort.grow w os) :=
  h.trans (T := S) ⟨rfl, rfl, rfl, by simp, fun k hk _ => heap_grow_old w os hk⟩ fun _ h => .inl h
theorem blk_grow {w : World} {b : Nat} {o : Obj} (h : w.heap[b]? = some o) (os : Array Obj) : (Go.Sort.grow w os).heap[b]? = some o := by
  rw [heap_grow_old w os (lt_of_block h)]; exact h
theorem own_holds {w : World} {B b n cap : Nat} {e : TypeId} {xs : List Int} (ho : w.ownsRow B e 1 (.slice (some ⟨b, 0, none⟩) n cap) n (xs.map (Value.int .i64))) : Holds (Value.int .i64) w b 0 xs.toArray ∧ xs.length = n ∧ n ≤ cap ∧ cap ≤ maxLen ∧ b < w.heap.size := by
  obtain ⟨h0, h⟩ := ho
  rcases h with ⟨h, _⟩ | ⟨g, cap', cur, h1, h2, h3, h4, h5, h6, h7⟩
  · cases h
  · cases h1
    have hl : xs.length = n := by simpa using h0
    refine ⟨fun j hj => ?_, hl, h4, h5, lt_of_block h3⟩
    have hj' : j < xs.length := by simpa using hj
    rw [Nat.zero_add, cell_blk h3, frozen_blk h3]
    refine ⟨?_, rfl⟩
    have h8 : (xs.map (Value.int .i64))[j]? = some (.int .i64 xs[j]) := by rw [List.getElem?_map, List.getElem?_eq_getElem hj']; rfl
    rw [← h7, List.getElem?_take] at h8
    split at h8
    · rw [getElem!_pos xs.toArray j hj]
      simpa using h8
    · cases h8
/-- Behind a call that lays another list of the same length into the row, of which k elements are kept. -/
theorem own_put {w : World} {B b n cap q k : Nat} {e : TypeId} {xs ys : List Int} (ho : w.ownsRow B e 1 (.slice (some ⟨b, 0, none⟩) n cap) n (xs.map (Value.int .i64))) (hy : ys.length = n) (hk : k ≤ n) (os : Array Obj) :
    (Go.Sort.grow (putRow (Value.int .i64) (Sort.ahead w q) b 0 ys.toArray) os).ownsRow B e 1 (.slice (some ⟨b, 0, none⟩) k cap) k ((ys.take k).map (Value.int .i64)) ∧ Chg (OneB b) w (Go.Sort.grow (putRow (Value.int .i64) (Sort.ahead w q) b 0 ys.toArray) os) := by
  obtain ⟨hH, hl, _, _, _⟩ := own_holds ho
  have e1 := sorted_world (Value.int .i64) w b 0 q xs.toArray ys os hH (by simp; omega)
  rw [e1]
  refine ⟨?_, (Chg.setCells _ _ _ ((Chg.refl (OneB b) w).drewN q) (.inl rfl)).grow os⟩
  obtain ⟨h0, h⟩ := ho
  rcases h with ⟨h, _⟩ | ⟨g, cap', cur, h1, h2, h3, h4, h5, h6, h7⟩
  · cases h
  · cases h1
    have hb := blk_grow (setCells_blk (ys.map (Value.int .i64)) 0 (w.drewN q) cur h3) os
    refine ⟨by rw [List.length_map, List.length_take]; omega, .inr ⟨_, _, _, rfl, h2, hb, by omega, h5, by rw [setL_size]; exact h6, ?_⟩⟩
    rw [setL_list _ _ _ (by simp; omega)]
    simp only [List.take_zero, List.nil_append, Nat.zero_add, Nat.mul_one]
    rw [List.take_append_of_le_length (by simp; omega), List.map_take]

theorem sort_own {w : World} {B n : Nat} {v : Value} {xs : List Int} (ho : w.ownsRow B 3 1 v n (xs.map (Value.int .i64))) (hn : n ≤ 1000000) :
    Calls Try.prog 43 #[v] w fun e w' => e = .returned (.tuple #[]) ∧ w'.ownsRow B 3 1 v n ((sortI xs).map (Value.int .i64)) ∧ Chg (OwnB v) w w' := by
  have hh := ho
  obtain ⟨h0, h⟩ := ho
  rcases h with ⟨rfl, rfl⟩ | ⟨g, cap, cur, rfl, h2, h3, h4, h5, h6, h7⟩
  · have hx : xs = [] := by simpa using h0
    subst hx
    refine (AnyM.slices_Sort_int_none Try.sortA none 0 w).mono ?_
    rintro e w' ⟨rfl, rfl⟩
    exact ⟨rfl, by simpa [sortI] using hh, Chg.refl _ _⟩
  · obtain ⟨hH, hl, _, _, hb⟩ := own_holds hh
    subst hl
    refine (AnyM.slices_Sort_int Try.sortA g 0 cap xs w hH hb (by omega)).mono ?_
    rintro e w' ⟨rfl, q, os, rfl⟩
    obtain ⟨p1, p2⟩ := own_put (k := xs.length) (q := q) (ys := xs.mergeSort fun x y => decide (x ≤ y)) hh (by simp) (Nat.le_refl _) os
    refine ⟨rfl, ?_, p2.mono fun i hi => .inl (by have h' : i = g := hi; simp [OwnB, Value.ownBlock, h'])⟩
    have : (xs.mergeSort fun x y => decide (x ≤ y)).take xs.length = sortI xs := by rw [List.take_of_length_le (by simp)]; rfl
    rwa [this] at p1

theorem compact_own {w : World} {B n : Nat} {v : Value} {xs : List Int} (ho : w.ownsRow B 3 1 v n (xs.map (Value.int .i64))) :
    Calls Try.prog 44 #[v] w fun e w' => ∃ v', e = .returned v' ∧ w'.ownsRow B 3 1 v' (Lib.compact xs).length ((Lib.compact xs).map (Value.int .i64)) ∧ Chg (OwnB v) w w' ∧ (∀ i, OwnB v' i → OwnB v i) ∧ ∃ a c, v' = .slice a (Lib.compact xs).length c := by
  have hh := ho
  obtain ⟨h0, h⟩ := ho
  rcases h with ⟨rfl, rfl⟩ | ⟨g, cap, cur, rfl, h2, h3, h4, h5, h6, h7⟩
  · have hx : xs = [] := by simpa using h0
    subst hx
    refine (AnyG.slices_Compact_int_empty Try.compactA none 0 w).mono ?_
    rintro e w' ⟨rfl, rfl⟩
    exact ⟨_, rfl, hh, Chg.refl _ _, fun i hi => hi, _, _, rfl⟩
  · obtain ⟨hH, hl, _, hm, hb⟩ := own_holds hh
    subst hl
    have hcl : (Lib.compact xs).length ≤ xs.length := by
      unfold Lib.compact Lib.compactUpTo
      rw [List.length_map]
      refine Nat.le_trans (List.length_filter_le _ _) ?_
      simp
    refine (AnyG.slices_Compact_int Try.compactA g 0 cap xs w hH (by unfold maxLen at hm; omega) h4).mono ?_
    rintro e w' ⟨rfl, q, rfl⟩
    obtain ⟨p1, p2⟩ := own_put (k := (Lib.compact xs).length) (q := q) (ys := Lib.compact xs ++ List.replicate (xs.length - (Lib.compact xs).length) 0) hh (by simp; omega) hcl #[]
    have hg : ∀ w : World, Go.Sort.grow w #[] = w := fun w => by simp [Go.Sort.grow]
    rw [hg] at p1 p2
    rw [List.take_left'  rfl] at p1
    exact ⟨_, rfl, p1, p2.mono fun i hi => .inl (by have h' : i = g := hi; simp [OwnB, Value.ownBlock, h']), fun i hi => by simpa [OwnB, Value.ownBlock] using hi, _, _, rfl⟩

/-- Sorted, and each once. -/
theorem compact_sort (xs : List Int) : Lib.compact (sortI xs) = uset xs := by
  have hs : (sortI xs).Pairwise (fun a b => a ≤ b) := by
    unfold sortI
    exact (List.pairwise_mergeSort (le := fun x y : Int => decide (x ≤ y)) (fun a b c h1 h2 => by simp at *; omega) (fun a b => by simp; omega) _).imp fun h => by simpa using h
  have hm : ∀ z, z ∈ sortI xs ↔ z ∈ xs := fun z => (List.mergeSort_perm _ _).mem_iff
  generalize sortI xs = ys at hs hm
  have key : ∀ m, m ≤ ys.length → (Lib.compactUpTo ys.toArray m).Pairwise (· < ·) ∧ ∀ z, z ∈ Lib.compactUpTo ys.toArray m ↔ z ∈ ys.take m := by
    intro m
    induction m with
    | zero => intro _; simp [Lib.compactUpTo]
    | succ m ih =>
      intro hm1
      obtain ⟨i1, i2⟩ := ih (by omega)
      have hlt : m < ys.length := by omega
      have hg : ys.toArray[m]! = ys[m] := by rw [getElem!_pos _ _ (by simpa using hlt)]; simp
      have hle : ∀ z ∈ ys.take m, z ≤ ys[m] := fun z hz => by
        obtain ⟨j, hj, rfl⟩ := List.getElem_of_mem hz
        rw [List.length_take] at hj
        rw [List.getElem_take]
        exact List.pairwise_iff_getElem.1 hs j m (by omega) hlt (by omega)
      rw [Lib.compactUpTo_succ, List.take_succ_eq_append_getElem hlt, hg]
      by_cases hk : Lib.keeps ys.toArray m = true
      · rw [if_pos hk]
        have hlt2 : ∀ z ∈ ys.take m, z < ys[m] := fun z hz => by
          have h1 := hle z hz
          rcases Nat.eq_zero_or_pos m with h0 | h0
          · subst h0; simp at hz
          · have hp : ys.toArray[m - 1]! = ys[m - 1] := by rw [getElem!_pos _ _ (by simp; omega)]; simp
            have hne : ys[m] ≠ ys[m - 1] := by
              intro he
              have : Lib.keeps ys.toArray m = false := Lib.keeps_neg h0 (by rw [hg, hp, he])
              rw [this] at hk; cases hk
            have hpr : ys[m - 1] ≤ ys[m] := List.pairwise_iff_getElem.1 hs (m - 1) m (by omega) hlt (by omega)
            obtain ⟨j, hj, rfl⟩ := List.getElem_of_mem hz
            rw [List.length_take] at hj
            rw [List.getElem_take] at h1 ⊢
            have hj2 : ys[j] ≤ ys[m - 1] := by
              rcases Nat.lt_or_ge j (m - 1) with h2 | h2
              · exact List.pairwise_iff_getElem.1 hs j (m - 1) (by omega) (by omega) h2
              · have : j = m - 1 := by omega
                subst this; exact Int.le_refl _
            omega
        refine ⟨?_, fun z => by rw [List.mem_append, List.mem_append, i2 z]⟩
        rw [List.pairwise_append]
        refine ⟨i1, by simp, fun a ha b hb => ?_⟩
        obtain rfl := List.mem_singleton.1 hb
        exact hlt2 a ((i2 a).1 ha)
      · rw [if_neg hk, List.append_nil]
        refine ⟨i1, fun z => ?_⟩
        rw [i2 z, List.mem_append, List.mem_singleton]
        refine ⟨fun h => .inl h, fun h => h.elim id fun h => ?_⟩
        subst h
        have h0 : 0 < m := by
          rcases Nat.eq_zero_or_pos m with h0 | h0
          · subst h0; exact absurd (Lib.keeps_lt_one _ 0 (by omega)) hk
          · exact h0
        have hp : ys.toArray[m - 1]! = ys[m - 1] := by rw [getElem!_pos _ _ (by simp; omega)]; simp
        have he : ys[m] = ys[m - 1] := by
          rcases Decidable.em (ys[m] = ys[m - 1]) with h | h
          · exact h
          · exact absurd (Lib.keeps_pos (by rw [hg, hp]; exact h)) hk
        rw [he]
        have : (ys.take m)[m - 1]'(by rw [List.length_take]; omega) = ys[m - 1] := List.getElem_take
        rw [← this]
        exact List.getElem_mem _
  unfold Lib.compact
  obtain ⟨k1, k2⟩ := key ys.length (Nat.le_refl _)
  refine srt_ext k1 (uset_srt xs) fun z => ?_
  rw [k2, List.take_length, hm, uset_mem]
end Go.Proofs.Ytlhblkpdfdpiaaa.Wt
