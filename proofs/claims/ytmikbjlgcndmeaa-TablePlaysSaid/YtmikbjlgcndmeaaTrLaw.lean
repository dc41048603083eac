import Derived.Test.YtmikbjlgcndmeaaTr9
namespace Go.Proofs.Ytmikbjlgcndmeaa
open Go.RowKit Go.ChangeMaps
set_option linter.unusedVariables false
set_option linter.unusedSimpArgs false
set_option linter.unnecessarySimpa false

/-- The same transactions, in whatever order. -/
structure Same2 (T L : TTab) : Prop where
  perm : L.Perm T
  nodup : (T.map (·.txn)).Nodup
theorem Same2.find {T L : TTab} (h : Same2 T L) (n : Int) : tFind L n = tFind T n := by
  have hn : (L.map (·.txn)).Nodup := (h.perm.map _).nodup_iff.2 h.nodup
  have key : ∀ (A : TTab) (s : TxS), (A.map (·.txn)).Nodup → (tFind A n = some s ↔ s ∈ A ∧ s.txn = n) := fun A s hA => by
    unfold tFind
    constructor
    · intro e
      exact ⟨List.mem_of_find?_eq_some e, by simpa using List.find?_some e⟩
    · rintro ⟨h1, h2⟩
      cases hf : A.find? (fun s => s.txn == n) with
      | none =>
        rw [List.find?_eq_none] at hf
        have := hf s h1
        simp [h2] at this
      | some t =>
        have h3 := List.mem_of_find?_eq_some hf
        have h4 : t.txn = n := by simpa using List.find?_some hf
        obtain ⟨i, hi, rfl⟩ := List.getElem_of_mem h1
        obtain ⟨j, hj, rfl⟩ := List.getElem_of_mem h3
        have h5 : i = j := by
          have := (List.getElem_inj (h₀ := by simpa using hi) (h₁ := by simpa using hj) hA).1 (by rw [List.getElem_map, List.getElem_map, h2, h4])
          exact this
        subst h5
        rfl
  cases hf : tFind L n with
  | some s => exact (((key T s h.nodup).2 (by have := (key L s hn).1 hf; exact ⟨h.perm.mem_iff.1 this.1, this.2⟩))).symm
  | none =>
    cases hg : tFind T n with
    | none => rfl
    | some s =>
      have := (key T s h.nodup).1 hg
      rw [(key L s hn).2 ⟨h.perm.mem_iff.2 this.1, this.2⟩] at hf
      cases hf
theorem upd_keys (T : TTab) (n : Int) (s : TxS) (hs : s.txn = n) : (tUpd T n s).map (·.txn) = T.map (·.txn) := by
  unfold tUpd
  rw [List.map_map]
  refine List.map_congr_left fun x _ => ?_
  simp only [Function.comp_def]
  split
  · rename_i h; simp at h; rw [hs, h]
  · rfl
theorem Same2.upd {T L : TTab} (h : Same2 T L) (n : Int) (s : TxS) (hs : s.txn = n) : Same2 (tUpd T n s) (tUpd L n s) := ⟨h.perm.map _, by rw [upd_keys T n s hs]; exact h.nodup⟩
theorem Same2.need {T L : TTab} (h : Same2 T L) : tNeed' L = tNeed' T := lsum_perm (h.perm.map _)
theorem tFind_txn2 {T : TTab} {n : Int} {s : TxS} (h : tFind T n = some s) : s.txn = n := by
  unfold tFind at h
  simpa using List.find?_some h
theorem Same2.log {T L : TTab} (h : Same2 T L) (n a : Int) : (tLog L n a).1 = (tLog T n a).1 ∧ Same2 (tLog T n a).2 (tLog L n a).2 := by
  unfold tLog
  rw [h.find n]
  cases hf : tFind T n with
  | none => exact ⟨rfl, h⟩
  | some s =>
    have ht := tFind_txn2 hf
    dsimp only
    split
    · exact ⟨rfl, h⟩
    · exact ⟨rfl, h.upd n _ ht⟩
theorem Same2.left {T L : TTab} (h : Same2 T L) (n d : Int) : (tLeft L n d).1 = (tLeft T n d).1 ∧ Same2 (tLeft T n d).2 (tLeft L n d).2 := by
  unfold tLeft
  rw [h.find n]
  cases hf : tFind T n with
  | none => exact ⟨rfl, h⟩
  | some s =>
    have ht := tFind_txn2 hf
    dsimp only
    split
    · exact ⟨rfl, h⟩
    · exact ⟨rfl, h.upd n _ ht⟩
theorem Same2.row {T L : TTab} (h : Same2 T L) (n : Int) : tRow L n = tRow T n := by unfold tRow; rw [h.find n]
theorem Same2.end_ {T L : TTab} (h : Same2 T L) (n : Int) : (tEnd L n).1 = (tEnd T n).1 ∧ Same2 (tEnd T n).2 (tEnd L n).2 := by
  unfold tEnd
  rw [h.find n]
  cases hf : tFind T n with
  | none => exact ⟨rfl, h⟩
  | some s => exact ⟨rfl, h.perm.filter _, h.nodup.sublist (List.Sublist.map _ List.filter_sublist)⟩
theorem Same2.mark {T L : TTab} (h : Same2 T L) (n l : Int) : (tMark L n l).1 = (tMark T n l).1 ∧ (tMark L n l).2.1 = (tMark T n l).2.1 ∧ Same2 (tMark T n l).2.2 (tMark L n l).2.2 := by
  unfold tMark
  rw [h.find n]
  cases hf : tFind T n with
  | none => exact ⟨rfl, rfl, h⟩
  | some s =>
    have ht := tFind_txn2 hf
    dsimp only
    split
    · exact ⟨rfl, rfl, h⟩
    · split
      · exact ⟨rfl, rfl, h⟩
      · exact ⟨rfl, rfl, h.upd n _ ht⟩
theorem Same2.back {T L : TTab} (h : Same2 T L) (n k : Int) : (tBack L n k).1 = (tBack T n k).1 ∧ (tBack L n k).2.1 = (tBack T n k).2.1 ∧ (tBack L n k).2.2.1 = (tBack T n k).2.2.1 ∧ Same2 (tBack T n k).2.2.2 (tBack L n k).2.2.2 := by
  unfold tBack
  rw [h.find n]
  cases hf : tFind T n with
  | none => exact ⟨rfl, rfl, rfl, h⟩
  | some s =>
    have ht := tFind_txn2 hf
    dsimp only
    split
    · exact ⟨rfl, rfl, rfl, h⟩
    · exact ⟨rfl, rfl, rfl, h.upd n _ ht⟩
theorem find_sorted : ∀ {L : TTab}, L.Pairwise (fun a b => a.txn < b.txn) → (L.map (·.txn)).filterMap (rowOf L) = rRows L := by
  intro L hL
  have key : ∀ (A B : TTab), (∀ s ∈ A, tFind B s.txn = some s) → (A.map (·.txn)).filterMap (rowOf B) = rRows A := by
    intro A B
    induction A with
    | nil => intro _; rfl
    | cons x A ih =>
      intro h
      have hx : rowOf B x.txn = if 0 < x.last then some (x.txn, x.first, x.last) else none := by unfold rowOf; rw [h x (by simp)]; rfl
      have ih' := ih (fun s hs => h s (List.mem_cons_of_mem _ hs))
      unfold rRows at ih' ⊢
      rw [List.map_cons, List.filterMap_cons, hx, ih', List.filter_cons]
      by_cases hl : 0 < x.last
      · simp [hl]
      · simp [hl]
  refine key L L fun s hs => ?_
  unfold tFind
  rw [List.find?_eq_some_iff_append]
  obtain ⟨A, B, rfl⟩ := List.append_of_mem hs
  refine ⟨by simp, A, B, rfl, fun x hx => ?_⟩
  rw [List.pairwise_append] at hL
  have := hL.2.2 x hx s (by simp)
  simp; omega
theorem Same2.rows {T L : TTab} (h : Same2 T L) (hL : L.Pairwise (fun a b => a.txn < b.txn)) : rRows L = tRows' T := by
  unfold tRows'
  have h1 : rowOf T = rowOf L := by
    funext n
    unfold rowOf
    rw [h.find n]
  have h2 : sortI (T.map (·.txn)) = L.map (·.txn) := by
    unfold sortI
    have hp : ((T.map (·.txn)).mergeSort (fun x y => decide (x ≤ y))).Perm (L.map (·.txn)) := (List.mergeSort_perm _ _).trans (h.perm.map _).symm
    have s1 : ((T.map (·.txn)).mergeSort (fun x y => decide (x ≤ y))).Pairwise (fun a b => a ≤ b) := (List.pairwise_mergeSort (le := fun x y : Int => decide (x ≤ y)) (fun a b c h1 h2 => by simp at *; omega) (fun a b => by simp; omega) _).imp fun h => by simpa using h
    have s2 : (L.map (·.txn)).Pairwise (fun a b => a ≤ b) := by
      rw [List.pairwise_map]; exact hL.imp fun h => by omega
    exact List.Perm.eq_of_pairwise (le := fun a b : Int => a ≤ b) (fun a b _ _ h1 h2 => by omega) s1 s2 hp
  rw [h1, h2, find_sorted hL]
theorem Same2.begin_ {T L L' : TTab} (h : Same2 T L) (n : Int) (hp : L'.Perm (tBegin L n).2) : (tBegin L n).1 = (tBegin T n).1 ∧ Same2 (tBegin T n).2 L' := by
  have hl : L.length = T.length := h.perm.length_eq
  unfold tBegin at hp ⊢
  rw [h.find n, hl] at hp ⊢
  split
  · rename_i h1
    rw [if_pos h1] at hp
    exact ⟨rfl, hp.trans h.perm, h.nodup⟩
  · rename_i h1
    rw [if_neg h1] at hp
    split
    · rename_i h2
      rw [if_pos h2] at hp
      exact ⟨rfl, hp.trans h.perm, h.nodup⟩
    · rename_i h2
      rw [if_neg h2] at hp
      split
      · rename_i h3
        rw [if_pos h3] at hp
        exact ⟨rfl, hp.trans h.perm, h.nodup⟩
      · rename_i h3
        rw [if_neg h3] at hp
        refine ⟨rfl, hp.trans (h.perm.append_right _), ?_⟩
        rw [List.map_append, List.nodup_append]
        refine ⟨h.nodup, by simp, fun a ha b hb => ?_⟩
        simp at hb
        subst hb
        rintro rfl
        obtain ⟨s, hs, he⟩ := List.mem_map.1 ha
        have hf : tFind T s.txn = none := by
          cases hx : tFind T a with
          | none => rw [he]; exact hx
          | some y => rw [hx] at h2; simp at h2
        unfold tFind at hf
        rw [List.find?_eq_none] at hf
        exact hf s hs (by simp)
end Go.Proofs.Ytmikbjlgcndmeaa
