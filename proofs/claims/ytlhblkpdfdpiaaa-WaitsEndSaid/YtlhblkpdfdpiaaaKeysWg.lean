import Derived.Test.YtlhblkpdfdpiaaaKeysB
namespace Go.Proofs.Ytlhblkpdfdpiaaa
open Go.RowKit Go.ChangeMaps Go.MapKept Go.Maps Go.Sort Go.Shelf
set_option linter.unusedVariables false
set_option linter.unusedSimpArgs false
set_option linter.unnecessarySimpa false

/-- maps.Keys. -/
theorem keys_callsWg (mb : Option Nat) (w : World) : Calls Try.prog 46 #[.map mb] w fun e w' => e = .returned (.func (.func 53) #[] #[.pointer (some ⟨w.heap.size, 0, none⟩)]) ∧ w' = w.alloc (.cells #[.map mb] 55) :=
  (callsIn_wide (n := 5)).1 (AnyZI.keys_in Try.keysAWg Fence.wide 5 trivial rfl mb w)

/-- slices.Sorted of it. -/
theorem sorted_callsWg {ν : Type} {V : ν → Value} (r b : Nat) (m : List (Int × ν)) (w : World) (hb : w.heap[b]? = some (.cells #[.map (some r)] 55 (0, 0))) (hm : MapI w r V m) (hf : ∀ x ∈ m, (Lit.int .i64 x.1).wf = true) (hl : m.length ≤ 1000000) :
    Calls Try.prog 45 #[.func (.func 53) #[] #[.pointer (some ⟨b, 0, none⟩)]] w fun e w' => ∃ v, e = .returned v ∧ w'.ownsRow w.heap.size 3 1 v (sortI (m.map (·.1))).length ((sortI (m.map (·.1))).map (Value.int .i64)) ∧ Chg NoB w w' := by
  obtain ⟨D, hown, hperm, hsz⟩ := hm.owns (P := Try.prog) Try.underlying3 hf (by unfold maxLen; omega)
  have hc : w.cell? ⟨b, 0, none⟩ = some (.map (some r)) := by rw [cell_blk hb]; rfl
  have hseq : SeqGives Fence.wide 2 Try.prog 53 #[.pointer (some ⟨b, 0, none⟩)] encZ (fun ss => ss.Perm (intKeys D)) (Maps.size D) w :=
    AnyZI.keys_gives (ρ := Try.keysAWg_ren) { Try.keysAWg with } Fence.wide _ trivial rfl (by omega) b r m.length D _ (lt_of_block hb) hc hown
  have cS := AnyZI.sorted_in Try.sortedA Fence.wide 5 trivial trivial trivial trivial rfl (by omega) (sortsA _) (enters_of Try.func43 (by kernel_rfl) rfl) 53 #[.pointer (some ⟨b, 0, none⟩)] trivial (enters_of Try.func53 (by kernel_rfl) rfl) _ _ (by rw [hsz]; unfold maxLen; omega) (by rw [hsz]; omega) _ hseq
  refine ((callsIn_wide (n := 5)).1 cS).mono ?_
  rintro e w' ⟨v, ss, rfl, hS, hrow, hnil, hbl⟩
  have hs2 : ss.mergeSort leI = sortI (m.map (·.1)) := mergeSort_of_perm_i (hS.trans hperm)
  refine ⟨v, rfl, ?_, Chg.of_below hbl _⟩
  have hln : ss.length = (sortI (m.map (·.1))).length := by rw [← hs2]; simp
  rw [← hs2, List.length_mergeSort]
  exact hrow

end Go.Proofs.Ytlhblkpdfdpiaaa
