import Derived.Shelf.SlIterI.Nil
import Derived.Shelf.SortM.Plain
import Derived.Shelf.SortM.SortNone
import Derived.Ground.GgzProg
import Derived.Ground.SlgmProg
import Derived.Test.YtghklbflbodajaaProg
import Derived.Test.YtghklbflbodajaaA1
/-
  DERIVED: THE SHELF's CONTRACTS AT THIS DUMP, IN PLAIN WORDS (tools/lay-plain.mjs out of 'YtghklbflbodajaaKeysX.lean', which tools/lay-shelf.mjs wrote): THE SAME DECLARATIONS UNDER THE SAME NAMES: 'import', 'namespace', 'open', 'def', 'theorem' AND NOTHING ELSE: no command of the shelf's: FOR A HAND-IN. Each laying: the table of numbers ('.._ren') and one theorem, a field a fact of the dump's own or the kernel's comparison; each contract: ONE APPLICATION.
-/
namespace Go.Proofs
open Go.Shelf
def Try.keysARow_ren : Go.Shelf.Ren := ⟨fun | 7 => 57 | 10 => 70 | n => n, fun | 23 => 119 | 26 => 3 | 3 => 104 | 28 => 127 | 0 => 0 | 27 => 126 | 33 => 115 | 4 => 4 | n => n, fun | n => n⟩
theorem Try.keysARow : Go.Proofs.SlLaysZI.n7 Try.prog Try.keysARow_ren := {
  mixed := by kernel_rfl
  f7 := ⟨Try.f57.name, by decide, Try.func57.trans (congrArg some (by kernel_rfl))⟩
  f10 := ⟨Try.f70.name, by decide, Try.func70.trans (congrArg some (by kernel_rfl))⟩
  t0 := Try.underlying0
  a0 := Try.isAgg0
  z0 := Try.sizeOf0
  v0 := Try.zeroValue0
  t4 := Try.underlying4
  a4 := Try.isAgg4
  z4 := Try.sizeOf4
  v4 := Try.zeroValue4
  t23 := Try.underlying119
  a23 := Try.isAgg119
  z23 := Try.sizeOf119
  v23 := Try.zeroValue119
  t26 := Try.underlying3
  a26 := Try.isAgg3
  z26 := Try.sizeOf3
  v26 := Try.zeroValue3
  t27 := Try.underlying126
  a27 := Try.isAgg126
  z27 := Try.sizeOf126
  v27 := Try.zeroValue126
  t28 := Try.underlying127
  a28 := Try.isAgg127
  z28 := Try.sizeOf127
  v28 := Try.zeroValue127
  t33 := Try.underlying115
  a33 := Try.isAgg115
  z33 := Try.sizeOf115
  v33 := Try.zeroValue115 }
def Try.keysAInt_ren : Go.Shelf.Ren := ⟨fun | 7 => 58 | 10 => 71 | n => n, fun | 23 => 120 | 26 => 3 | 3 => 3 | 28 => 127 | 0 => 0 | 27 => 126 | 33 => 115 | 4 => 4 | n => n, fun | n => n⟩
theorem Try.keysAInt : Go.Proofs.SlLaysZI.n7 Try.prog Try.keysAInt_ren := {
  mixed := by kernel_rfl
  f7 := ⟨Try.f58.name, by decide, Try.func58.trans (congrArg some (by kernel_rfl))⟩
  f10 := ⟨Try.f71.name, by decide, Try.func71.trans (congrArg some (by kernel_rfl))⟩
  t0 := Try.underlying0
  a0 := Try.isAgg0
  z0 := Try.sizeOf0
  v0 := Try.zeroValue0
  t4 := Try.underlying4
  a4 := Try.isAgg4
  z4 := Try.sizeOf4
  v4 := Try.zeroValue4
  t23 := Try.underlying120
  a23 := Try.isAgg120
  z23 := Try.sizeOf120
  v23 := Try.zeroValue120
  t26 := Try.underlying3
  a26 := Try.isAgg3
  z26 := Try.sizeOf3
  v26 := Try.zeroValue3
  t27 := Try.underlying126
  a27 := Try.isAgg126
  z27 := Try.sizeOf126
  v27 := Try.zeroValue126
  t28 := Try.underlying127
  a28 := Try.isAgg127
  z28 := Try.sizeOf127
  v28 := Try.zeroValue127
  t33 := Try.underlying115
  a33 := Try.isAgg115
  z33 := Try.sizeOf115
  v33 := Try.zeroValue115 }
def Try.sortedA_ren : Go.Shelf.Ren := ⟨fun | 6 => 56 | 8 => 68 | 9 => 69 | 11 => 78 | 13 => 80 | 12 => 79 | 23 => 93 | 24 => 94 | 14 => 84 | 15 => 85 | 16 => 86 | 17 => 87 | 18 => 88 | 19 => 89 | 20 => 90 | 21 => 91 | 22 => 92 | 25 => 96 | 26 => 97 | 27 => 98 | 28 => 99 | 29 => 100 | 30 => 52 | 31 => 101 | n => n, fun | 26 => 3 | 28 => 127 | 24 => 124 | 0 => 0 | 3 => 3 | 37 => 65 | 48 => 70 | 50 => 174 | 4 => 4 | 40 => 166 | 39 => 165 | 45 => 149 | 5 => 5 | 9 => 9 | 51 => 175 | 55 => 135 | 57 => 180 | 58 => 181 | 33 => 115 | n => n, fun | n => n⟩
theorem Try.sortedA : Go.Proofs.SlLaysZI.n6 Try.prog Try.sortedA_ren := {
  mixed := by kernel_rfl
  f6 := ⟨Try.f56.name, by decide, Try.func56.trans (congrArg some (by kernel_rfl))⟩
  f8 := ⟨Try.f68.name, by decide, Try.func68.trans (congrArg some (by kernel_rfl))⟩
  f11 := ⟨Try.f78.name, by decide, Try.func78.trans (congrArg some (by kernel_rfl))⟩
  t0 := Try.underlying0
  a0 := Try.isAgg0
  z0 := Try.sizeOf0
  v0 := Try.zeroValue0
  t24 := Try.underlying124
  a24 := Try.isAgg124
  z24 := Try.sizeOf124
  v24 := Try.zeroValue124
  t26 := Try.underlying3
  a26 := Try.isAgg3
  z26 := Try.sizeOf3
  v26 := Try.zeroValue3
  t28 := Try.underlying127
  a28 := Try.isAgg127
  z28 := Try.sizeOf127
  v28 := Try.zeroValue127
  i26 := by kernel_rfl }
def Try.sortA_ren : Go.Shelf.Ren := ⟨fun | 5 => 69 | 8 => 80 | 7 => 79 | 19 => 93 | 20 => 94 | 10 => 84 | 11 => 85 | 12 => 86 | 13 => 87 | 14 => 88 | 15 => 89 | 16 => 90 | 17 => 91 | 18 => 92 | 30 => 96 | 31 => 97 | 32 => 98 | 33 => 99 | 34 => 100 | 35 => 52 | 40 => 101 | n => n, fun | 23 => 124 | 25 => 3 | 3 => 3 | 32 => 65 | 22 => 124 | 0 => 0 | 44 => 70 | 46 => 174 | 4 => 4 | 36 => 166 | 35 => 165 | 41 => 149 | 5 => 5 | 9 => 9 | 53 => 175 | 57 => 135 | 63 => 180 | 64 => 181 | n => n, fun | n => n⟩
theorem Try.sortA : Go.Proofs.SlLaysM.n5 Try.prog Try.sortA_ren := {
  mixed := by kernel_rfl
  f5 := ⟨Try.f69.name, by decide, Try.func69.trans (congrArg some (by kernel_rfl))⟩
  f7 := ⟨Try.f79.name, by decide, Try.func79.trans (congrArg some (by kernel_rfl))⟩
  f8 := Try.func80.trans (congrArg some (by kernel_rfl))
  f10 := ⟨Try.f84.name, by decide, Try.func84.trans (congrArg some (by kernel_rfl))⟩
  f11 := ⟨Try.f85.name, by decide, Try.func85.trans (congrArg some (by kernel_rfl))⟩
  f12 := ⟨Try.f86.name, by decide, Try.func86.trans (congrArg some (by kernel_rfl))⟩
  f13 := ⟨Try.f87.name, by decide, Try.func87.trans (congrArg some (by kernel_rfl))⟩
  f14 := ⟨Try.f88.name, by decide, Try.func88.trans (congrArg some (by kernel_rfl))⟩
  f15 := ⟨Try.f89.name, by decide, Try.func89.trans (congrArg some (by kernel_rfl))⟩
  f16 := ⟨Try.f90.name, by decide, Try.func90.trans (congrArg some (by kernel_rfl))⟩
  f17 := ⟨Try.f91.name, by decide, Try.func91.trans (congrArg some (by kernel_rfl))⟩
  f18 := ⟨Try.f92.name, by decide, Try.func92.trans (congrArg some (by kernel_rfl))⟩
  f19 := Try.func93.trans (congrArg some (by kernel_rfl))
  f20 := Try.func94.trans (congrArg some (by kernel_rfl))
  f30 := ⟨Try.f96.name, by decide, Try.func96.trans (congrArg some (by kernel_rfl))⟩
  f31 := Try.func97.trans (congrArg some (by kernel_rfl))
  f32 := Try.func98.trans (congrArg some (by kernel_rfl))
  f33 := ⟨Try.f99.name, by decide, Try.func99.trans (congrArg some (by kernel_rfl))⟩
  f34 := ⟨Try.f100.name, by decide, Try.func100.trans (congrArg some (by kernel_rfl))⟩
  f35 := ⟨Try.f52.name, by decide, Try.func52.trans (congrArg some (by kernel_rfl))⟩
  f40 := ⟨Try.f101.name, by decide, Try.func101.trans (congrArg some (by kernel_rfl))⟩
  t0 := Try.underlying0
  a0 := Try.isAgg0
  z0 := Try.sizeOf0
  v0 := Try.zeroValue0
  t3 := Try.underlying3
  a3 := Try.isAgg3
  z3 := Try.sizeOf3
  v3 := Try.zeroValue3
  t4 := Try.underlying4
  a4 := Try.isAgg4
  z4 := Try.sizeOf4
  v4 := Try.zeroValue4
  t5 := Try.underlying5
  a5 := Try.isAgg5
  z5 := Try.sizeOf5
  v5 := Try.zeroValue5
  t9 := Try.underlying9
  a9 := Try.isAgg9
  z9 := Try.sizeOf9
  v9 := Try.zeroValue9
  t22 := Try.underlying124
  a22 := Try.isAgg124
  z22 := Try.sizeOf124
  v22 := Try.zeroValue124
  t23 := Try.underlying124
  a23 := Try.isAgg124
  z23 := Try.sizeOf124
  v23 := Try.zeroValue124
  t25 := Try.underlying3
  a25 := Try.isAgg3
  z25 := Try.sizeOf3
  v25 := Try.zeroValue3
  t32 := Try.underlying65
  a32 := Try.isAgg65
  z32 := Try.sizeOf65
  v32 := Try.zeroValue65
  t35 := Try.underlying165
  a35 := Try.isAgg165
  z35 := Try.sizeOf165
  v35 := Try.zeroValue165
  t36 := Try.underlying166
  a36 := Try.isAgg166
  z36 := Try.sizeOf166
  v36 := Try.zeroValue166
  t41 := Try.underlying149
  a41 := Try.isAgg149
  z41 := Try.sizeOf149
  v41 := Try.zeroValue149
  t44 := Try.underlying70
  a44 := Try.isAgg70
  z44 := Try.sizeOf70
  v44 := Try.zeroValue70
  t46 := Try.underlying174
  a46 := Try.isAgg174
  z46 := Try.sizeOf174
  v46 := Try.zeroValue174
  t53 := Try.underlying175
  a53 := Try.isAgg175
  z53 := Try.sizeOf175
  v53 := Try.zeroValue175
  t57 := Try.underlying135
  a57 := Try.isAgg135
  z57 := Try.sizeOf135
  v57 := Try.zeroValue135
  t63 := Try.underlying180
  a63 := Try.isAgg180
  z63 := Try.sizeOf180
  v63 := Try.zeroValue180
  t64 := Try.underlying181
  a64 := Try.isAgg181
  z64 := Try.sizeOf181
  v64 := Try.zeroValue181 }
end Go.Proofs

namespace Go.Proofs.Ytghklbflbodajaa
open Go.RowKit Go.ChangeMaps Go.MapKept Go.Maps Go.Sort Go.Shelf
set_option linter.unusedVariables false
set_option linter.unusedSimpArgs false
set_option linter.unnecessarySimpa false

/-- Each value reads as nothing. -/
def RR : Value → Option (DataW Unit × List MemPlace) := fun _ => some (.nil, [])

theorem rg_int {P : Program} {kt : TypeId} (hk : P.underlying kt = some (.int .i64)) {x : MapEntry} {a : Int} (h : x.key = .int .i64 a) (hw : (Lit.int .i64 a).wf = true) : WideElems.rd P kt RR x = some (.int .i64 a, .nil) := by
  have h1 : keyOf P kt x.key = some (.int .i64 a) := by rw [h]; simp [keyOf, hk, mapKey, hw]
  simp [WideElems.rd, h1, RR]

theorem MapI.owns {P : Program} {kt : TypeId} (hk : P.underlying kt = some (.int .i64)) {ν : Type} {V : ν → Value} {w : World} {r : Nat} {m : List (Int × ν)} (h : MapI w r V m) (hf : ∀ x ∈ m, (Lit.int .i64 x.1).wf = true) (hl : m.length ≤ maxLen) :
    ∃ D : DataW Unit, w.ownsMap P kt RR r m.length D ∧ (intKeys D).Perm (m.map (·.1)) ∧ Maps.size D = m.length := by
  obtain ⟨es, clock, hb, hst, he⟩ := h
  have hlen : es.size = m.length := by have := congrArg List.length he; simpa using this
  have hkey : ∀ x ∈ es.toList, ∃ a, x.key = .int .i64 a ∧ (Lit.int .i64 a).wf = true := by
    intro x hx
    have : (x.key, x.val) ∈ m.map (fun p => (Value.int .i64 p.1, V p.2)) := by rw [← he]; exact List.mem_map.2 ⟨x, hx, rfl⟩
    obtain ⟨p, hp, hpe⟩ := List.mem_map.1 this
    exact ⟨p.1, (congrArg Prod.fst hpe).symm, hf p hp⟩
  have hsort := WideShapes.sorted_perm (es.toList.map (WideElems.rg P kt RR))
  refine ⟨_, ⟨es, clock, hb, ⟨by omega, hst, fun x hx => ?_⟩, by omega, rfl⟩, ?_, ?_⟩
  · obtain ⟨a, h1, h2⟩ := hkey x hx
    exact ⟨_, rg_int hk h1 h2⟩
  · show (((es.toList.map (WideElems.rg P kt RR)).foldr DataW.insert []).map fun p => _root_.Go.intOf p.1).Perm _
    refine (hsort.map _).trans ?_
    rw [List.map_map]
    have e1 : es.toList.map ((fun p : Lit × DataW Unit => _root_.Go.intOf p.1) ∘ WideElems.rg P kt RR) = m.map (·.1) := by
      have h3 := congrArg (List.map (fun p : Value × Value => match p.1 with | .int _ a => a | _ => 0)) he
      rw [List.map_map, List.map_map] at h3
      have h4 : m.map ((fun p : Value × Value => match p.1 with | .int _ a => a | _ => 0) ∘ fun p => (Value.int .i64 p.1, V p.2)) = m.map (·.1) := List.map_congr_left fun p _ => rfl
      rw [h4] at h3
      rw [← h3]
      refine List.map_congr_left fun x hx => ?_
      obtain ⟨a, h1, h2⟩ := hkey x hx
      simp only [Function.comp_def]
      rw [WideElems.rg_of (rg_int hk h1 h2), h1]
      rfl
    rw [e1]
  · show ((es.toList.map (WideElems.rg P kt RR)).foldr DataW.insert []).length = _
    rw [hsort.length_eq]
    simpa using hlen

/-- slices.Sort's two contracts at this dump, at the fence that asks nothing. -/
theorem sortsA (m : Nat) : AnyZI.SortsIn Try.prog Try.sortedA_ren Fence.wide m :=
  ⟨fun blk off cap ss W hH hblk hsz => callsIn_wide.2 (AnyM.slices_Sort_int Try.sortA blk off cap ss W hH hblk hsz),
   fun p cap W => callsIn_wide.2 (AnyM.slices_Sort_int_none Try.sortA p cap W)⟩

end Go.Proofs.Ytghklbflbodajaa

namespace Go.Proofs.Ytghklbflbodajaa
open Go.RowKit Go.ChangeMaps Go.MapKept Go.Maps Go.Sort Go.Shelf
set_option linter.unusedVariables false
set_option linter.unusedSimpArgs false
set_option linter.unnecessarySimpa false

/-- maps.Keys. -/
theorem keys_callsRow (mb : Option Nat) (w : World) : Calls Try.prog 57 #[.map mb] w fun e w' => e = .returned (.func (.func 70) #[] #[.pointer (some ⟨w.heap.size, 0, none⟩)]) ∧ w' = w.alloc (.cells #[.map mb] 119) :=
  (callsIn_wide (n := 5)).1 (AnyZI.keys_in Try.keysARow Fence.wide 5 trivial rfl mb w)

/-- slices.Sorted of it. -/
theorem sorted_callsRow {ν : Type} {V : ν → Value} (r b : Nat) (m : List (Int × ν)) (w : World) (hb : w.heap[b]? = some (.cells #[.map (some r)] 119 (0, 0))) (hm : MapI w r V m) (hf : ∀ x ∈ m, (Lit.int .i64 x.1).wf = true) (hl : m.length ≤ 1000000) :
    Calls Try.prog 56 #[.func (.func 70) #[] #[.pointer (some ⟨b, 0, none⟩)]] w fun e w' => ∃ v, e = .returned v ∧ w'.ownsRow w.heap.size 3 1 v (sortI (m.map (·.1))).length ((sortI (m.map (·.1))).map (Value.int .i64)) ∧ Chg NoB w w' := by
  obtain ⟨D, hown, hperm, hsz⟩ := hm.owns (P := Try.prog) Try.underlying3 hf (by unfold maxLen; omega)
  have hc : w.cell? ⟨b, 0, none⟩ = some (.map (some r)) := by rw [cell_blk hb]; rfl
  have hseq : SeqGives Fence.wide 2 Try.prog 70 #[.pointer (some ⟨b, 0, none⟩)] encZ (fun ss => ss.Perm (intKeys D)) (Maps.size D) w :=
    AnyZI.keys_gives (ρ := Try.keysARow_ren) { Try.keysARow with } Fence.wide _ trivial rfl (by omega) b r m.length D _ (lt_of_block hb) hc hown
  have cS := AnyZI.sorted_in Try.sortedA Fence.wide 5 trivial trivial trivial trivial rfl (by omega) (sortsA _) (enters_of Try.func69 (by kernel_rfl) rfl) 70 #[.pointer (some ⟨b, 0, none⟩)] trivial (enters_of Try.func70 (by kernel_rfl) rfl) _ _ (by rw [hsz]; unfold maxLen; omega) (by rw [hsz]; omega) _ hseq
  refine ((callsIn_wide (n := 5)).1 cS).mono ?_
  rintro e w' ⟨v, ss, rfl, hS, hrow, hnil, hbl⟩
  have hs2 : ss.mergeSort leI = sortI (m.map (·.1)) := mergeSort_of_perm_i (hS.trans hperm)
  refine ⟨v, rfl, ?_, Chg.of_below hbl _⟩
  have hln : ss.length = (sortI (m.map (·.1))).length := by rw [← hs2]; simp
  rw [← hs2, List.length_mergeSort]
  exact hrow

end Go.Proofs.Ytghklbflbodajaa

namespace Go.Proofs.Ytghklbflbodajaa
open Go.RowKit Go.ChangeMaps Go.MapKept Go.Maps Go.Sort Go.Shelf
set_option linter.unusedVariables false
set_option linter.unusedSimpArgs false
set_option linter.unnecessarySimpa false

/-- maps.Keys. -/
theorem keys_callsInt (mb : Option Nat) (w : World) : Calls Try.prog 58 #[.map mb] w fun e w' => e = .returned (.func (.func 71) #[] #[.pointer (some ⟨w.heap.size, 0, none⟩)]) ∧ w' = w.alloc (.cells #[.map mb] 120) :=
  (callsIn_wide (n := 5)).1 (AnyZI.keys_in Try.keysAInt Fence.wide 5 trivial rfl mb w)

/-- slices.Sorted of it. -/
theorem sorted_callsInt {ν : Type} {V : ν → Value} (r b : Nat) (m : List (Int × ν)) (w : World) (hb : w.heap[b]? = some (.cells #[.map (some r)] 120 (0, 0))) (hm : MapI w r V m) (hf : ∀ x ∈ m, (Lit.int .i64 x.1).wf = true) (hl : m.length ≤ 1000000) :
    Calls Try.prog 56 #[.func (.func 71) #[] #[.pointer (some ⟨b, 0, none⟩)]] w fun e w' => ∃ v, e = .returned v ∧ w'.ownsRow w.heap.size 3 1 v (sortI (m.map (·.1))).length ((sortI (m.map (·.1))).map (Value.int .i64)) ∧ Chg NoB w w' := by
  obtain ⟨D, hown, hperm, hsz⟩ := hm.owns (P := Try.prog) Try.underlying3 hf (by unfold maxLen; omega)
  have hc : w.cell? ⟨b, 0, none⟩ = some (.map (some r)) := by rw [cell_blk hb]; rfl
  have hseq : SeqGives Fence.wide 2 Try.prog 71 #[.pointer (some ⟨b, 0, none⟩)] encZ (fun ss => ss.Perm (intKeys D)) (Maps.size D) w :=
    AnyZI.keys_gives (ρ := Try.keysAInt_ren) { Try.keysAInt with } Fence.wide _ trivial rfl (by omega) b r m.length D _ (lt_of_block hb) hc hown
  have cS := AnyZI.sorted_in Try.sortedA Fence.wide 5 trivial trivial trivial trivial rfl (by omega) (sortsA _) (enters_of Try.func69 (by kernel_rfl) rfl) 71 #[.pointer (some ⟨b, 0, none⟩)] trivial (enters_of Try.func71 (by kernel_rfl) rfl) _ _ (by rw [hsz]; unfold maxLen; omega) (by rw [hsz]; omega) _ hseq
  refine ((callsIn_wide (n := 5)).1 cS).mono ?_
  rintro e w' ⟨v, ss, rfl, hS, hrow, hnil, hbl⟩
  have hs2 : ss.mergeSort leI = sortI (m.map (·.1)) := mergeSort_of_perm_i (hS.trans hperm)
  refine ⟨v, rfl, ?_, Chg.of_below hbl _⟩
  have hln : ss.length = (sortI (m.map (·.1))).length := by rw [← hs2]; simp
  rw [← hs2, List.length_mergeSort]
  exact hrow

end Go.Proofs.Ytghklbflbodajaa
