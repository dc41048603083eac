import Derived.Test.YtlhblkpdfdpiaaaWtRm
import Derived.Laws.MakeOwn
namespace Go.Proofs.Ytlhblkpdfdpiaaa.Wt
open Go.RowKit Go.ChangeMaps Go.MapKept
set_option linter.unusedVariables false
set_option linter.unusedSimpArgs false
set_option linter.unnecessarySimpa false
set_option maxHeartbeats 8000000

/-- A row of the table. -/
def rowD (D : Nat → Nat → Nat) (n i : Nat) : List Value := (List.range n).map fun k => Value.int .i64 (D i k : Int)
def rowV (n g : Nat) : Value := .slice (some ⟨g, 0, none⟩) n n
/-- The reference's table of all ways: gs: where its rows lie. -/
structure FarAt (w0 w : World) (vo : Value) (gs : List Nat) (n : Nat) (D : Nat → Nat → Nat) : Prop where
  out : w.ownsRow w0.heap.size 24 1 vo gs.length (gs.map (rowV n))
  row : ∀ (i g : Nat), gs[i]? = some g → w.heap[g]? = some (.cells (rowD D n i).toArray 3 (0, 0))
  nodup : gs.Nodup
  off : ∀ g ∈ gs, ¬ OwnB vo g ∧ w0.heap.size ≤ g
  chg : Chg NoB w0 w
theorem FarAt.keep {w0 w w' : World} {vo : Value} {gs : List Nat} {n : Nat} {D : Nat → Nat → Nat} (h : FarAt w0 w vo gs n D) (hc : Chg NoB w w') : FarAt w0 w' vo gs n D :=
  ⟨ownsRow.chg h.out hc (fun _ _ => nob), fun i g hg => hc.heap (h.row i g hg) nob, h.nodup, h.off, h.chg.trans' hc⟩
theorem rowD_get {D : Nat → Nat → Nat} {n i k : Nat} (hk : k < n) : (rowD D n i)[k]? = some (.int .i64 (D i k : Int)) := by
  unfold rowD
  rw [List.getElem?_map, List.getElem?_range hk]; rfl
theorem rowD_len (D : Nat → Nat → Nat) (n i : Nat) : (rowD D n i).length = n := by unfold rowD; simp
/-- Its cells. -/
theorem FarAt.cells {w0 w : World} {vo : Value} {gs : List Nat} {n : Nat} {D : Nat → Nat → Nat} (h : FarAt w0 w vo gs n D) {i : Nat} (hi : i < gs.length) : ∃ g og c, vo = .slice (some ⟨og, 0, none⟩) gs.length c ∧ gs.length ≤ c ∧ gs[i]? = some g ∧ w.cell? ⟨og, i, none⟩ = some (rowV n g) ∧ ∀ k, k < n → w.cell? ⟨g, k, none⟩ = some (.int .i64 (D i k : Int)) := by
  obtain ⟨h0, h1⟩ := h.out
  rcases h1 with ⟨_, h2⟩ | ⟨og, c, cur, e1, h2, h3, h4, h5, h6, h7⟩
  · omega
  · refine ⟨gs[i], og, c, e1, h4, List.getElem?_eq_getElem hi, ?_, fun k hk => ?_⟩
    · have h8 : (gs.map (rowV n))[i]? = some (rowV n gs[i]) := by rw [List.getElem?_map, List.getElem?_eq_getElem hi]; rfl
      rw [← h7, List.getElem?_take] at h8
      rw [cell_blk h3]
      split at h8
      · simpa using h8
      · cases h8
    · rw [cell_blk (h.row i _ (List.getElem?_eq_getElem hi))]
      simp only [List.getElem?_toArray]
      exact rowD_get hk
/-- A cell of it is turned. -/
theorem FarAt.set {w0 w w' : World} {vo : Value} {gs : List Nat} {n : Nat} {D D' : Nat → Nat → Nat} (h : FarAt w0 w vo gs n D) {i k g v : Nat} (hg : gs[i]? = some g) (hk : k < n) (hb : w'.heap[g]? = some (.cells ((rowD D n i).set k (.int .i64 (v : Int))).toArray 3 (0, 0))) (hc : Chg (OneB g) w w')
    (hD : ∀ a b, D' a b = if a = i ∧ b = k then v else D a b) : FarAt w0 w' vo gs n D' := by
  have hgm := List.mem_of_getElem? hg
  refine ⟨ownsRow.chg h.out hc (fun b hb e => (h.off g hgm).1 (by have e : b = g := e; rwa [e] at hb)), fun j gj hj => ?_, h.nodup, h.off, h.chg.new hc (fun b hb => by have hb : b = g := hb; rw [hb]; exact (h.off g hgm).2)⟩
  by_cases hij : j = i
  · subst hij
    rw [hg] at hj
    cases hj
    rw [hb]
    have : (rowD D n j).set k (.int .i64 (v : Int)) = rowD D' n j := by
      apply List.ext_getElem?
      intro b
      rw [List.getElem?_set, rowD_len]
      by_cases hbn : b < n
      · rw [rowD_get (D := D') hbn, hD]
        by_cases hkb : k = b
        · subst hkb; simp [hk]
        · rw [if_neg hkb, rowD_get hbn, if_neg (fun h => hkb h.2.symm)]
      · have e1 : (rowD D n j)[b]? = none := List.getElem?_eq_none (by rw [rowD_len]; omega)
        have e2 : (rowD D' n j)[b]? = none := List.getElem?_eq_none (by rw [rowD_len]; omega)
        rw [e1, e2]
        split <;> (try split) <;> first | rfl | omega
    rw [this]
  · have hne : gj ≠ g := fun e => by
      subst e
      obtain ⟨h1, h2⟩ := List.getElem?_eq_some_iff.1 hj
      obtain ⟨h3, h4⟩ := List.getElem?_eq_some_iff.1 hg
      exact hij ((List.getElem_inj h.nodup).1 (h2.trans h4.symm))
    rw [hc.heap (h.row j gj hj) (fun e => hne e)]
    have : rowD D n j = rowD D' n j := by
      unfold rowD
      refine List.map_congr_left fun b _ => ?_
      rw [hD, if_neg (fun h => hij h.1)]
    rw [this]
theorem makeInts (n : Nat) (h8 : n ≤ 3000) (w : World) : (Instr.makeSlice 24 (.int .i64 n) (.int .i64 n)).run Try.prog w = .ok (.slice (some ⟨w.heap.size, 0, none⟩) n n) (w.alloc (.cells (List.replicate n (Value.int .i64 0)).toArray 3)) := by
  obtain ⟨i, hi, hz0, hz1, hz2⟩ := info_parts slInt.inf
  have h := run_makeSlice (P := Try.prog) (w := w) 24 3 i _ slInt.und hi hz0 .i64 .i64 n n (by omega) (by omega) (by rw [hz1]; omega) (by rw [hz2]; omega) (by omega)
  rw [hz1, Int.toNat_natCast, Nat.mul_one] at h
  have e : madeCells (Value.int .i64 0).cells n = (List.replicate n (Value.int .i64 0)).toArray := by
    apply Array.ext'
    unfold madeCells
    apply List.ext_getElem
    · simp
    · intro i h1 h2
      simp [Value.cells, Nat.mod_one]
  rw [h, e]
end Go.Proofs.Ytlhblkpdfdpiaaa.Wt
