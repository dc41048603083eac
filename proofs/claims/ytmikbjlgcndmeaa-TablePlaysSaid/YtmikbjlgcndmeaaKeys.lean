import Derived.Test.YtmikbjlgcndmeaaTb
import Derived.Test.YtmikbjlgcndmeaaKeys0
namespace Go.Proofs.Ytmikbjlgcndmeaa
open Go.RowKit Go.ChangeMaps Go.MapKept Go.Maps Go.Sort Go.Shelf
set_option linter.unusedVariables false
set_option linter.unusedSimpArgs false
set_option linter.unnecessarySimpa false

/-- Each value reads as nothing. -/
def RR : Value → Option (DataW Unit × List MemPlace) := fun _ => some (.nil, [])

theorem rg_int {P : Program} {kt : TypeId} (hk : P.underlying kt = some (.int .i64)) {x : MapEntry} {a : Int} (h : x.key = .int .i64 a) (hw : (Lit.int .i64 a).wf = true) : WideElems.rd P kt RR x = some (.int .i64 a, .nil) := by
  have h1 : keyOf P kt x.key = some (.int .i64 a) := by rw [h]; simp [keyOf, hk, mapKey, hw]
  simp [WideElems.rd, h1, RR]

theorem MapI.owns {P : Program} {kt : TypeId} (hk : P.underlying kt = some (.int .i64)) {ν : Type} {V : ν → Value} {w : World} {r : Nat} {m : List (Int × ν)} (h : MapI w r V m) (hf : ∀ x ∈ m, (Lit.int .i64 x.1).wf = true) (hl : m.length ≤ maxLen) :
    ∃ D : DataW Unit, w.ownsMap P kt RR r m.length D ∧ (intKeys D).Perm (m.map (·.1)) ∧ Maps.size D = m.length := by
  obtain ⟨es, clock, hb, hst, he⟩ := h
  have hlen : es.size = m.length := by have := congrArg List.length he; simpa using this
  have hkey : ∀ x ∈ es.toList, ∃ a, x.key = .int .i64 a ∧ (Lit.int .i64 a).wf = true := by
    intro x hx
    have : (x.key, x.val) ∈ m.map (fun p => (Value.int .i64 p.1, V p.2)) := by rw [← he]; exact List.mem_map.2 ⟨x, hx, rfl⟩
    obtain ⟨p, hp, hpe⟩ := List.mem_map.1 this
    exact ⟨p.1, (congrArg Prod.fst hpe).symm, hf p hp⟩
  have hsort := WideShapes.sorted_perm (es.toList.map (WideElems.rg P kt RR))
  refine ⟨_, ⟨es, clock, hb, ⟨by omega, hst, fun x hx => ?_⟩, by omega, rfl⟩, ?_, ?_⟩
  · obtain ⟨a, h1, h2⟩ := hkey x hx
    exact ⟨_, rg_int hk h1 h2⟩
  · show (((es.toList.map (WideElems.rg P kt RR)).foldr DataW.insert []).map fun p => _root_.Go.intOf p.1).Perm _
    refine (hsort.map _).trans ?_
    rw [List.map_map]
    have e1 : es.toList.map ((fun p : Lit × DataW Unit => _root_.Go.intOf p.1) ∘ WideElems.rg P kt RR) = m.map (·.1) := by
      have h3 := congrArg (List.map (fun p : Value × Value => match p.1 with | .int _ a => a | _ => 0)) he
      rw [List.map_map, List.map_map] at h3
      have h4 : m.map ((fun p : Value × Value => match p.1 with | .int _ a => a | _ => 0) ∘ fun p => (Value.int .i64 p.1, V p.2)) = m.map (·.1) := List.map_congr_left fun p _ => rfl
      rw [h4] at h3
      rw [← h3]
      refine List.map_congr_left fun x hx => ?_
      obtain ⟨a, h1, h2⟩ := hkey x hx
      simp only [Function.comp_def]
      rw [WideElems.rg_of (rg_int hk h1 h2), h1]
      rfl
    rw [e1]
  · show ((es.toList.map (WideElems.rg P kt RR)).foldr DataW.insert []).length = _
    rw [hsort.length_eq]
    simpa using hlen

/-- slices.Sort's two contracts at this dump, at the fence that asks nothing. -/
theorem sortsA (m : Nat) : AnyZI.SortsIn Try.prog Try.sortedA_ren Fence.wide m :=
  ⟨fun blk off cap ss W hH hblk hsz => callsIn_wide.2 (AnyM.slices_Sort_int Try.sortA blk off cap ss W hH hblk hsz),
   fun p cap W => callsIn_wide.2 (AnyM.slices_Sort_int_none Try.sortA p cap W)⟩

def sortI (l : List Int) : List Int := l.mergeSort (fun x y => decide (x ≤ y))

/-- maps.Keys. -/
theorem keys_calls (mb : Option Nat) (w : World) : Calls Try.prog 32 #[.map mb] w fun e w' => e = .returned (.func (.func 35) #[] #[.pointer (some ⟨w.heap.size, 0, none⟩)]) ∧ w' = w.alloc (.cells #[.map mb] 60) :=
  (callsIn_wide (n := 5)).1 (AnyZI.keys_in Try.keysA Fence.wide 5 trivial rfl mb w)

/-- slices.Sorted of it. -/
theorem sorted_calls {ν : Type} {V : ν → Value} (r b : Nat) (m : List (Int × ν)) (w : World) (hb : w.heap[b]? = some (.cells #[.map (some r)] 60 (0, 0))) (hm : MapI w r V m) (hf : ∀ x ∈ m, (Lit.int .i64 x.1).wf = true) (hl : m.length ≤ 1000000) :
    Calls Try.prog 31 #[.func (.func 35) #[] #[.pointer (some ⟨b, 0, none⟩)]] w fun e w' => ∃ v, e = .returned v ∧ w'.ownsRow w.heap.size 3 1 v (sortI (m.map (·.1))).length ((sortI (m.map (·.1))).map (Value.int .i64)) ∧ Chg NoB w w' := by
  obtain ⟨D, hown, hperm, hsz⟩ := hm.owns (P := Try.prog) Try.underlying3 hf (by unfold maxLen; omega)
  have hc : w.cell? ⟨b, 0, none⟩ = some (.map (some r)) := by rw [cell_blk hb]; rfl
  have hseq : SeqGives Fence.wide 2 Try.prog 35 #[.pointer (some ⟨b, 0, none⟩)] encZ (fun ss => ss.Perm (intKeys D)) (Maps.size D) w :=
    AnyZI.keys_gives (ρ := Try.keysA_ren) { Try.keysA with } Fence.wide _ trivial rfl (by omega) b r m.length D _ (lt_of_block hb) hc hown
  have cS := AnyZI.sorted_in Try.sortedA Fence.wide 5 trivial trivial trivial trivial rfl (by omega) (sortsA _) (enters_of Try.func34 (by kernel_rfl) rfl) 35 #[.pointer (some ⟨b, 0, none⟩)] trivial (enters_of Try.func35 (by kernel_rfl) rfl) _ _ (by rw [hsz]; unfold maxLen; omega) (by rw [hsz]; omega) _ hseq
  refine ((callsIn_wide (n := 5)).1 cS).mono ?_
  rintro e w' ⟨v, ss, rfl, hS, hrow, hnil, hbl⟩
  have hs2 : ss.mergeSort leI = sortI (m.map (·.1)) := mergeSort_of_perm_i (hS.trans hperm)
  refine ⟨v, rfl, ?_, Chg.of_below hbl _⟩
  have hln : ss.length = (sortI (m.map (·.1))).length := by rw [← hs2]; simp
  rw [← hs2, List.length_mergeSort]
  exact hrow

end Go.Proofs.Ytmikbjlgcndmeaa
