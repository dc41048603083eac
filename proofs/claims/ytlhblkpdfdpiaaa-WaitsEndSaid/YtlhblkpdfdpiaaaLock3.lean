import Derived.Test.YtlhblkpdfdpiaaaLock2
namespace Go.Proofs.Ytlhblkpdfdpiaaa
open Go.RowKit Go.ChangeMaps

def lkMode (t : LTab) (txn page : Int) : Int := if 0 ≤ page ∧ page < 8 then (mget (t.getD page.toNat []) txn).getD 0 else 0
def lkEmpty : LTab := [[], [], [], [], [], [], [], []]

/-! ### New -/
def newCells (B k : Nat) : Array Value := ((List.range 8).map fun j => if j < k then Value.map (some (B + 1 + j)) else .map none).toArray
theorem newCells_set (B k : Nat) (hk : k < 8) : (newCells B k).setIfInBounds k (.map (some (B + 1 + k))) = newCells B (k + 1) := by
  obtain rfl | rfl | rfl | rfl | rfl | rfl | rfl | rfl : k = 0 ∨ k = 1 ∨ k = 2 ∨ k = 3 ∨ k = 4 ∨ k = 5 ∨ k = 6 ∨ k = 7 := by omega
  all_goals rfl
theorem newCells_at (B k : Nat) (hk : k < 8) : (newCells B k)[k]? = some (.map none) := by
  simp [newCells, hk]

structure NewRel (w : World) (k : Nat) (wr : World) : Prop where
  size : wr.heap.size = w.heap.size + 1 + k
  blk : wr.heap[w.heap.size]? = some (.cells (newCells w.heap.size k) 74 (0, 0))
  maps : ∀ j, j < k → MapI wr (w.heap.size + 1 + j) (Value.int .i64) ([] : List (Int × Int))
  chg : Chg NoB w wr

theorem NewRel.step {w wr : World} {k : Nat} (h : NewRel w k wr) (hk : k < 8) : NewRel w (k + 1) ((wr.alloc (.map #[] 0)).setCell ⟨w.heap.size, k, none⟩ (.map (some (wr.heap.size)))) := by
  refine ⟨by simp [h.size]; omega, ?_, ?_, (h.chg.alloc _).setCell (.inr (Nat.le_refl _)) _⟩
  · rw [blk_setCell (blk_alloc h.blk _), h.size, newCells_set _ _ hk]
  · intro j hj
    have hne : w.heap.size + 1 + j ≠ w.heap.size := by omega
    by_cases hjk : j < k
    · exact (h.maps j hjk).keep (by rw [Below.heap_setCell _ _ _ _ hne, Below.heap_alloc _ _ _ (h.maps j hjk).lt])
    · obtain rfl : j = k := by omega
      have := MapI.made wr (Value.int .i64)
      rw [h.size] at this
      exact this.keep (Below.heap_setCell _ _ _ _ hne)

set_option maxRecDepth 100000 in
theorem lockNew (w : World) : Calls Try.prog 16 #[] w fun e w' => e = .returned (.pointer (some ⟨w.heap.size, 0, none⟩)) ∧ NewRel w 8 w' := by
  have hmm := @run_makeMap Try.prog
  go_enter Try.func16, Try.ntmps16
  go_wp2
  go_loopw [5] (fun i wr => ∃ k : Nat, k ≤ 8 ∧ i = .int .i64 k ∧ NewRel w k wr) (fun i _ => 8 - (intOf i).toNat)
  case atStart => exact ⟨0, by omega, rfl, ⟨by simp, blk_new _ _, fun j hj => by omega, (Chg.refl _ _).alloc _⟩⟩
  case round =>
    obtain ⟨k, hk, rfl, hN⟩ := hrel
    by_cases hlt : k < 8
    · have hc1 : (wr.alloc (.map #[] 0)).cell? ⟨w.heap.size, k, none⟩ = some (.map none) := by rw [cell_blk (blk_alloc hN.blk _)]; exact newCells_at _ _ hlt
      have hc2 : (wr.alloc (.map #[] 0)).frozen? ⟨w.heap.size, k, none⟩ = false := frozen_blk (blk_alloc hN.blk _) _
      have hN2 := hN.step hlt
      clear hN
      go_wp2
      go_roundw
      case rel => exact ⟨k + 1, by omega, by go_num, hN2⟩
      case measure => simp [intOf]; omega
    · obtain rfl : k = 8 := by omega
      clear hmm
      go_wp2
      go_ret
      exact ⟨rfl, hN⟩

def newRs (B : Nat) : List Nat := (List.range 8).map (B + 1 + ·)
theorem NewRel.lock {w w' : World} (h : NewRel w 8 w') : LockAt w' w.heap.size (newRs w.heap.size) lkEmpty := by
  refine ⟨rfl, rfl, ?_, ⟨_, h.blk⟩, ?_⟩
  · simp [newRs, List.range_succ]; omega
  · intro i r m hi hm
    have hi8 : i < 8 := (List.getElem?_eq_some_iff.1 hi).1
    have h1 : r = w.heap.size + 1 + i := by
      simp [newRs, hi8] at hi
      exact hi.symm
    have h2 : m = [] := by
      obtain rfl | rfl | rfl | rfl | rfl | rfl | rfl | rfl : i = 0 ∨ i = 1 ∨ i = 2 ∨ i = 3 ∨ i = 4 ∨ i = 5 ∨ i = 6 ∨ i = 7 := by omega
      all_goals (simp [lkEmpty] at hm; exact hm)
    subst h1 h2
    exact h.maps i hi8

/-! ### Mode -/
set_option maxRecDepth 100000 in
theorem lockMode (p : Nat) (rs : List Nat) (t : LTab) (txn page : Int) (w : World) (h : LockAt w p rs t) (res : Int) (hres : Hid (res = lkMode t txn page)) :
    Calls Try.prog 41 #[.pointer (some ⟨p, 0, none⟩), .int .i64 txn, .int .i64 page] w fun e w' => e = .returned (.int .i64 res) ∧ w = w' := by
  by_cases h0 : page < 0
  · go_enter Try.func41, Try.ntmps41
    go_wp2
    go_ret
    exact ⟨ret_int (by rw [hres.out]; simp [lkMode]; omega), rfl⟩
  by_cases h8 : 8 ≤ page
  · go_enter Try.func41, Try.ntmps41
    go_wp2
    go_ret
    exact ⟨ret_int (by rw [hres.out]; simp [lkMode]; omega), rfl⟩
  obtain ⟨r, h1, h2, h3⟩ := h.at page.toNat (by omega)
  have hr := hres.out
  simp only [lkMode, show 0 ≤ page ∧ page < 8 by omega, and_self, if_true] at hr
  have HR := hid hr
  clear hr hres
  go_enter Try.func41, Try.ntmps41
  go_wp2_with (at_lookup; refine step_lookup_int h3 rfl _ _ 51 3 3 rfl Try.underlying51 Try.underlying3 (zero_int _) txn rfl rfl ?_)
  go_ret
  exact ⟨ret_int HR.out.symm, rfl⟩
end Go.Proofs.Ytlhblkpdfdpiaaa
