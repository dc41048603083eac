import Derived.Shelf.SlIterI.Nil
import Derived.Shelf.SortM.Plain
import Derived.Shelf.SortM.SortNone
import Derived.Ground.GgzProg
import Derived.Ground.SlgmProg
import Derived.Test.YtekjchphlphecaaProg
import Derived.Test.YtekjchphlphecaaA1
import Derived.Test.YtekjchphlphecaaSb8
import Derived.Test.YtekjchphlphecaaA2
import Derived.Lib.BufferMore
/-
  DERIVED: THE SHELF's CONTRACTS AT THIS DUMP, IN PLAIN WORDS (tools/lay-plain.mjs out of 'YtekjchphlphecaaKeysX.lean', which tools/lay-shelf.mjs wrote): THE SAME DECLARATIONS UNDER THE SAME NAMES: 'import', 'namespace', 'open', 'def', 'theorem' AND NOTHING ELSE: no command of the shelf's: FOR A HAND-IN. Each laying: the table of numbers ('.._ren') and one theorem, a field a fact of the dump's own or the kernel's comparison; each contract: ONE APPLICATION.
-/
namespace Go.Proofs
open Go.Shelf
def Try.keysASb_ren : Go.Shelf.Ren := ⟨fun | 7 => 31 | 10 => 50 | n => n, fun | 23 => 66 | 26 => 3 | 3 => 3 | 28 => 74 | 0 => 0 | 27 => 73 | 33 => 99 | 4 => 4 | n => n, fun | n => n⟩
theorem Try.keysASb : Go.Proofs.SlLaysZI.n7 Try.prog Try.keysASb_ren := {
  mixed := by kernel_rfl
  f7 := ⟨Try.f31.name, by decide, Try.func31.trans (congrArg some (by kernel_rfl))⟩
  f10 := ⟨Try.f50.name, by decide, Try.func50.trans (congrArg some (by kernel_rfl))⟩
  t0 := Try.underlying0
  a0 := Try.isAgg0
  z0 := Try.sizeOf0
  v0 := Try.zeroValue0
  t4 := Try.underlying4
  a4 := Try.isAgg4
  z4 := Try.sizeOf4
  v4 := Try.zeroValue4
  t23 := Try.underlying66
  a23 := Try.isAgg66
  z23 := Try.sizeOf66
  v23 := Try.zeroValue66
  t26 := Try.underlying3
  a26 := Try.isAgg3
  z26 := Try.sizeOf3
  v26 := Try.zeroValue3
  t27 := Try.underlying73
  a27 := Try.isAgg73
  z27 := Try.sizeOf73
  v27 := Try.zeroValue73
  t28 := Try.underlying74
  a28 := Try.isAgg74
  z28 := Try.sizeOf74
  v28 := Try.zeroValue74
  t33 := Try.underlying99
  a33 := Try.isAgg99
  z33 := Try.sizeOf99
  v33 := Try.zeroValue99 }
def Try.sortedA_ren : Go.Shelf.Ren := ⟨fun | 6 => 30 | 8 => 48 | 9 => 49 | 11 => 60 | 13 => 52 | 12 => 61 | 23 => 70 | 24 => 71 | 14 => 75 | 15 => 76 | 16 => 77 | 17 => 78 | 18 => 79 | 19 => 80 | 20 => 81 | 21 => 82 | 22 => 83 | 25 => 91 | 26 => 85 | 27 => 86 | 28 => 92 | 29 => 93 | 30 => 53 | 31 => 95 | n => n, fun | 26 => 3 | 28 => 74 | 24 => 38 | 0 => 0 | 3 => 3 | 37 => 61 | 48 => 112 | 50 => 115 | 4 => 4 | 40 => 122 | 39 => 121 | 45 => 126 | 5 => 5 | 9 => 9 | 51 => 139 | 55 => 104 | 57 => 148 | 58 => 34 | 33 => 99 | n => n, fun | n => n⟩
theorem Try.sortedA : Go.Proofs.SlLaysZI.n6 Try.prog Try.sortedA_ren := {
  mixed := by kernel_rfl
  f6 := ⟨Try.f30.name, by decide, Try.func30.trans (congrArg some (by kernel_rfl))⟩
  f8 := ⟨Try.f48.name, by decide, Try.func48.trans (congrArg some (by kernel_rfl))⟩
  f11 := ⟨Try.f60.name, by decide, Try.func60.trans (congrArg some (by kernel_rfl))⟩
  t0 := Try.underlying0
  a0 := Try.isAgg0
  z0 := Try.sizeOf0
  v0 := Try.zeroValue0
  t24 := Try.underlying38
  a24 := Try.isAgg38
  z24 := Try.sizeOf38
  v24 := Try.zeroValue38
  t26 := Try.underlying3
  a26 := Try.isAgg3
  z26 := Try.sizeOf3
  v26 := Try.zeroValue3
  t28 := Try.underlying74
  a28 := Try.isAgg74
  z28 := Try.sizeOf74
  v28 := Try.zeroValue74
  i26 := by kernel_rfl }
def Try.sortA_ren : Go.Shelf.Ren := ⟨fun | 5 => 49 | 8 => 52 | 7 => 61 | 19 => 70 | 20 => 71 | 10 => 75 | 11 => 76 | 12 => 77 | 13 => 78 | 14 => 79 | 15 => 80 | 16 => 81 | 17 => 82 | 18 => 83 | 30 => 91 | 31 => 85 | 32 => 86 | 33 => 92 | 34 => 93 | 35 => 53 | 40 => 95 | n => n, fun | 23 => 38 | 25 => 3 | 3 => 3 | 32 => 61 | 22 => 38 | 0 => 0 | 44 => 112 | 46 => 115 | 4 => 4 | 36 => 122 | 35 => 121 | 41 => 126 | 5 => 5 | 9 => 9 | 53 => 139 | 57 => 104 | 63 => 148 | 64 => 34 | n => n, fun | n => n⟩
theorem Try.sortA : Go.Proofs.SlLaysM.n5 Try.prog Try.sortA_ren := {
  mixed := by kernel_rfl
  f5 := ⟨Try.f49.name, by decide, Try.func49.trans (congrArg some (by kernel_rfl))⟩
  f7 := ⟨Try.f61.name, by decide, Try.func61.trans (congrArg some (by kernel_rfl))⟩
  f8 := Try.func52.trans (congrArg some (by kernel_rfl))
  f10 := ⟨Try.f75.name, by decide, Try.func75.trans (congrArg some (by kernel_rfl))⟩
  f11 := ⟨Try.f76.name, by decide, Try.func76.trans (congrArg some (by kernel_rfl))⟩
  f12 := ⟨Try.f77.name, by decide, Try.func77.trans (congrArg some (by kernel_rfl))⟩
  f13 := ⟨Try.f78.name, by decide, Try.func78.trans (congrArg some (by kernel_rfl))⟩
  f14 := ⟨Try.f79.name, by decide, Try.func79.trans (congrArg some (by kernel_rfl))⟩
  f15 := ⟨Try.f80.name, by decide, Try.func80.trans (congrArg some (by kernel_rfl))⟩
  f16 := ⟨Try.f81.name, by decide, Try.func81.trans (congrArg some (by kernel_rfl))⟩
  f17 := ⟨Try.f82.name, by decide, Try.func82.trans (congrArg some (by kernel_rfl))⟩
  f18 := ⟨Try.f83.name, by decide, Try.func83.trans (congrArg some (by kernel_rfl))⟩
  f19 := Try.func70.trans (congrArg some (by kernel_rfl))
  f20 := Try.func71.trans (congrArg some (by kernel_rfl))
  f30 := ⟨Try.f91.name, by decide, Try.func91.trans (congrArg some (by kernel_rfl))⟩
  f31 := Try.func85.trans (congrArg some (by kernel_rfl))
  f32 := Try.func86.trans (congrArg some (by kernel_rfl))
  f33 := ⟨Try.f92.name, by decide, Try.func92.trans (congrArg some (by kernel_rfl))⟩
  f34 := ⟨Try.f93.name, by decide, Try.func93.trans (congrArg some (by kernel_rfl))⟩
  f35 := ⟨Try.f53.name, by decide, Try.func53.trans (congrArg some (by kernel_rfl))⟩
  f40 := ⟨Try.f95.name, by decide, Try.func95.trans (congrArg some (by kernel_rfl))⟩
  t0 := Try.underlying0
  a0 := Try.isAgg0
  z0 := Try.sizeOf0
  v0 := Try.zeroValue0
  t3 := Try.underlying3
  a3 := Try.isAgg3
  z3 := Try.sizeOf3
  v3 := Try.zeroValue3
  t4 := Try.underlying4
  a4 := Try.isAgg4
  z4 := Try.sizeOf4
  v4 := Try.zeroValue4
  t5 := Try.underlying5
  a5 := Try.isAgg5
  z5 := Try.sizeOf5
  v5 := Try.zeroValue5
  t9 := Try.underlying9
  a9 := Try.isAgg9
  z9 := Try.sizeOf9
  v9 := Try.zeroValue9
  t22 := Try.underlying38
  a22 := Try.isAgg38
  z22 := Try.sizeOf38
  v22 := Try.zeroValue38
  t23 := Try.underlying38
  a23 := Try.isAgg38
  z23 := Try.sizeOf38
  v23 := Try.zeroValue38
  t25 := Try.underlying3
  a25 := Try.isAgg3
  z25 := Try.sizeOf3
  v25 := Try.zeroValue3
  t32 := Try.underlying61
  a32 := Try.isAgg61
  z32 := Try.sizeOf61
  v32 := Try.zeroValue61
  t35 := Try.underlying121
  a35 := Try.isAgg121
  z35 := Try.sizeOf121
  v35 := Try.zeroValue121
  t36 := Try.underlying122
  a36 := Try.isAgg122
  z36 := Try.sizeOf122
  v36 := Try.zeroValue122
  t41 := Try.underlying126
  a41 := Try.isAgg126
  z41 := Try.sizeOf126
  v41 := Try.zeroValue126
  t44 := Try.underlying112
  a44 := Try.isAgg112
  z44 := Try.sizeOf112
  v44 := Try.zeroValue112
  t46 := Try.underlying115
  a46 := Try.isAgg115
  z46 := Try.sizeOf115
  v46 := Try.zeroValue115
  t53 := Try.underlying139
  a53 := Try.isAgg139
  z53 := Try.sizeOf139
  v53 := Try.zeroValue139
  t57 := Try.underlying104
  a57 := Try.isAgg104
  z57 := Try.sizeOf104
  v57 := Try.zeroValue104
  t63 := Try.underlying148
  a63 := Try.isAgg148
  z63 := Try.sizeOf148
  v63 := Try.zeroValue148
  t64 := Try.underlying34
  a64 := Try.isAgg34
  z64 := Try.sizeOf34
  v64 := Try.zeroValue34 }
end Go.Proofs

namespace Go.Proofs.Ytekjchphlphecaa
open Go.RowKit Go.ChangeMaps Go.MapKept Go.Maps Go.Sort Go.Shelf
set_option linter.unusedVariables false
set_option linter.unusedSimpArgs false

/-- Each value reads as nothing. -/
def RR : Value → Option (DataW Unit × List MemPlace) := fun _ => some (.nil, [])

theorem rg_int {P : Program} {kt : TypeId} (hk : P.underlying kt = some (.int .i64)) {x : MapEntry} {a : Int} (h : x.key = .int .i64 a) (hw : (Lit.int .i64 a).wf = true) : WideElems.rd P kt RR x = some (.int .i64 a, .nil) := by
  have h1 : keyOf P kt x.key = some (.int .i64 a) := by rw [h]; simp [keyOf, hk, mapKey, hw]
  simp [WideElems.rd, h1, RR]

theorem MapI.owns {P : Program} {kt : TypeId} (hk : P.underlying kt = some (.int .i64)) {ν : Type} {V : ν → Value} {w : World} {r : Nat} {m : List (Int × ν)} (h : MapI w r V m) (hf : ∀ x ∈ m, (Lit.int .i64 x.1).wf = true) (hl : m.length ≤ maxLen) :
    ∃ D : DataW Unit, w.ownsMap P kt RR r m.length D ∧ (intKeys D).Perm (m.map (·.1)) ∧ Maps.size D = m.length := by
  obtain ⟨es, clock, hb, hst, he⟩ := h
  have hlen : es.size = m.length := by have := congrArg List.length he; simpa using this
  have hkey : ∀ x ∈ es.toList, ∃ a, x.key = .int .i64 a ∧ (Lit.int .i64 a).wf = true := by
    intro x hx
    have : (x.key, x.val) ∈ m.map (fun p => (Value.int .i64 p.1, V p.2)) := by rw [← he]; exact List.mem_map.2 ⟨x, hx, rfl⟩
    obtain ⟨p, hp, hpe⟩ := List.mem_map.1 this
    exact ⟨p.1, (congrArg Prod.fst hpe).symm, hf p hp⟩
  have hsort := WideShapes.sorted_perm (es.toList.map (WideElems.rg P kt RR))
  refine ⟨_, ⟨es, clock, hb, ⟨by omega, hst, fun x hx => ?_⟩, by omega, rfl⟩, ?_, ?_⟩
  · obtain ⟨a, h1, h2⟩ := hkey x hx
    exact ⟨_, rg_int hk h1 h2⟩
  · show (((es.toList.map (WideElems.rg P kt RR)).foldr DataW.insert []).map fun p => _root_.Go.intOf p.1).Perm _
    refine (hsort.map _).trans ?_
    rw [List.map_map]
    have e1 : es.toList.map ((fun p : Lit × DataW Unit => _root_.Go.intOf p.1) ∘ WideElems.rg P kt RR) = m.map (·.1) := by
      have h3 := congrArg (List.map (fun p : Value × Value => match p.1 with | .int _ a => a | _ => 0)) he
      rw [List.map_map, List.map_map] at h3
      have h4 : m.map ((fun p : Value × Value => match p.1 with | .int _ a => a | _ => 0) ∘ fun p => (Value.int .i64 p.1, V p.2)) = m.map (·.1) := List.map_congr_left fun p _ => rfl
      rw [h4] at h3
      rw [← h3]
      refine List.map_congr_left fun x hx => ?_
      obtain ⟨a, h1, h2⟩ := hkey x hx
      simp only [Function.comp_def]
      rw [WideElems.rg_of (rg_int hk h1 h2), h1]
      rfl
    rw [e1]
  · show ((es.toList.map (WideElems.rg P kt RR)).foldr DataW.insert []).length = _
    rw [hsort.length_eq]
    simpa using hlen

/-- slices.Sort's two contracts at this dump, at the fence that asks nothing. -/
theorem sortsA (m : Nat) : AnyZI.SortsIn Try.prog Try.sortedA_ren Fence.wide m :=
  ⟨fun blk off cap ss W hH hblk hsz => callsIn_wide.2 (AnyM.slices_Sort_int Try.sortA blk off cap ss W hH hblk hsz),
   fun p cap W => callsIn_wide.2 (AnyM.slices_Sort_int_none Try.sortA p cap W)⟩

end Go.Proofs.Ytekjchphlphecaa

namespace Go.Proofs.Ytekjchphlphecaa
open Go.RowKit Go.ChangeMaps Go.MapKept Go.Maps Go.Sort Go.Shelf
set_option linter.unusedVariables false
set_option linter.unusedSimpArgs false

/-- maps.Keys. -/
theorem keys_callsSb (mb : Option Nat) (w : World) : Calls Try.prog 31 #[.map mb] w fun e w' => e = .returned (.func (.func 50) #[] #[.pointer (some ⟨w.heap.size, 0, none⟩)]) ∧ w' = w.alloc (.cells #[.map mb] 66) :=
  (callsIn_wide (n := 5)).1 (AnyZI.keys_in Try.keysASb Fence.wide 5 trivial rfl mb w)

/-- slices.Sorted of it. -/
theorem sorted_callsSb {ν : Type} {V : ν → Value} (r b : Nat) (m : List (Int × ν)) (w : World) (hb : w.heap[b]? = some (.cells #[.map (some r)] 66 (0, 0))) (hm : MapI w r V m) (hf : ∀ x ∈ m, (Lit.int .i64 x.1).wf = true) (hl : m.length ≤ 1000000) :
    Calls Try.prog 30 #[.func (.func 50) #[] #[.pointer (some ⟨b, 0, none⟩)]] w fun e w' => ∃ v, e = .returned v ∧ w'.ownsRow w.heap.size 3 1 v (sortI (m.map (·.1))).length ((sortI (m.map (·.1))).map (Value.int .i64)) ∧ Chg NoB w w' := by
  obtain ⟨D, hown, hperm, hsz⟩ := hm.owns (P := Try.prog) Try.underlying3 hf (by unfold maxLen; omega)
  have hc : w.cell? ⟨b, 0, none⟩ = some (.map (some r)) := by rw [cell_blk hb]; rfl
  have hseq : SeqGives Fence.wide 2 Try.prog 50 #[.pointer (some ⟨b, 0, none⟩)] encZ (fun ss => ss.Perm (intKeys D)) (Maps.size D) w :=
    AnyZI.keys_gives (ρ := Try.keysASb_ren) { Try.keysASb with } Fence.wide _ trivial rfl (by omega) b r m.length D _ (lt_of_block hb) hc hown
  have cS := AnyZI.sorted_in Try.sortedA Fence.wide 5 trivial trivial trivial trivial rfl (by omega) (sortsA _) (enters_of Try.func49 (by kernel_rfl) rfl) 50 #[.pointer (some ⟨b, 0, none⟩)] trivial (enters_of Try.func50 (by kernel_rfl) rfl) _ _ (by rw [hsz]; unfold maxLen; omega) (by rw [hsz]; omega) _ hseq
  refine ((callsIn_wide (n := 5)).1 cS).mono ?_
  rintro e w' ⟨v, ss, rfl, hS, hrow, hnil, hbl⟩
  have hs2 : ss.mergeSort leI = sortI (m.map (·.1)) := mergeSort_of_perm_i (hS.trans hperm)
  refine ⟨v, rfl, ?_, Chg.of_below hbl _⟩
  have hln : ss.length = (sortI (m.map (·.1))).length := by rw [← hs2]; simp
  rw [← hs2, List.length_mergeSort]
  exact hrow

end Go.Proofs.Ytekjchphlphecaa

namespace Go.Proofs.Ytekjchphlphecaa
open Go.RowKit Go.ChangeMaps Go.MapKept Go.Maps Go.Sort Go.Shelf
set_option linter.unusedVariables false
set_option linter.unusedSimpArgs false
set_option maxHeartbeats 8000000

set_option maxRecDepth 100000 in
theorem open_calls (w0 : World) (p g rl : Nat) (lv : Value) (s : SS) (w : World) (h : StAt w0 w p g rl lv s) (hk : ∀ x ∈ s.last, (Lit.int .i64 x.1).wf = true) (hl : s.last.length ≤ 1000000) (ks : List Int) (hks : Hid (ks = sortI (s.last.map (·.1)))) :
    Calls Try.prog 16 #[.pointer (some ⟨p, 0, none⟩)] w fun e w' => ∃ vo, e = .returned vo ∧ Hid (w'.ownsRow (w.heap.size + 1) 3 1 vo ks.length (ks.map (Value.int .i64))) ∧ Hid (Chg NoB w w') := by
  obtain ⟨c0, c1, c2⟩ := h.cells
  have hM := hid (h.mp.chg ((Chg.refl NoB w).alloc (.cells #[.map (some rl)] 66)) nob)
  have HK := hid hk
  clear c0 c1 h hk
  go_enter Try.func16, Try.ntmps16
  go_wp2_with (first
    | (go_at_call 31; refine (keys_callsSb _ _).mono ?_; rintro e w2 ⟨rfl, rfl⟩)
    | (go_at_call 30; refine (sorted_callsSb rl w.heap.size s.last _ (blk_new _ _) hM.out HK.out hl).mono ?_; rintro e w2 ⟨vk, rfl, ho2, hc2⟩; rw [← hks.out] at ho2; obtain ⟨a2, n2, rfl⟩ := ownsForm ho2))
  go_ret
  refine ⟨_, rfl, ?_, ((Chg.refl NoB w).alloc _).trans' hc2⟩
  rw [World.size_alloc] at ho2
  exact ho2
end Go.Proofs.Ytekjchphlphecaa

namespace Go.Proofs.Ytekjchphlphecaa
open Go.RowKit Go.ChangeMaps Go.MapKept
set_option linter.unusedVariables false
set_option linter.unusedSimpArgs false
set_option maxHeartbeats 8000000

theorem pgsC_one {PL : List Pg} : ∀ v ∈ pgsC PL, v.oneCell' = true := by
  intro v hv
  obtain ⟨q, _, hq⟩ := List.mem_flatMap.1 hv
  simp only [encP, List.mem_cons, List.not_mem_nil, or_false] at hq
  rcases hq with rfl | rfl <;> rfl
set_option maxRecDepth 100000 in
theorem clone_calls (g m : Nat) (PL : List Pg) (w : World) (hg : w.heap[g]? = some (.cells (pgsC PL).toArray 48 (0, 0))) (hl : PL.length = m) (h1 : 1 ≤ m) (h8 : m ≤ 8) :
    Calls Try.prog 33 #[.slice (some ⟨g, 0, none⟩) m m] w fun e w' => ∃ g' c' post, e = .returned (.slice (some ⟨g', 0, none⟩) m c') ∧ Hid (w'.heap[g']? = some (.cells (pgsC PL ++ post).toArray 48 (0, 0))) ∧ m ≤ c' ∧ Hid (Chg NoB w w' ∧ w.heap.size ≤ g') := by
  have HG := hid hg
  clear hg
  have hnil : ∀ w, (binOp .eql 49 (.slice (some ⟨g, 0, none⟩) m m) (.slice none 0 0)).run Try.prog w = .ok (.bool false) w := fun w => Lib.run_eql_slice_some_nil w _ m m Try.underlying49
  go_enter Try.func33, Try.ntmps33
  go_wp2_with (at_builtin; refine step_appW slPage rfl _ _ rfl (n := 0) (xs := []) (v := .slice (some ⟨w.heap.size, 0, none⟩) 0 0) ⟨rfl, .inr ⟨w.heap.size, 0, _, rfl, blk_new _ _, Nat.le_refl _, by simp [maxLen], by simp, by simp⟩⟩ rfl ⟨g, 0, none⟩ m m (pgsC PL) rfl (by rw [pgsC_len, hl]) (news_at (pre := []) (post := []) (by simpa using blk_alloc HG.out _) rfl) pgsC_one (by omega) (by unfold maxLen; omega) ?_; intro v5 w5 ho5 hc5 hn5)
  go_ret
  simp only [Nat.zero_add, List.nil_append] at ho5
  have hown : ∀ i, OwnB (.slice (some ⟨w.heap.size, 0, none⟩) 0 0) i → i = w.heap.size := fun i hi => by simpa [OwnB, Value.ownBlock, eq_comm] using hi
  rcases ho5.2 with ⟨_, h0⟩ | ⟨g5, cap, cur, rfl, hb, hle, _, hsz, htk⟩
  · omega
  · refine ⟨g5, cap, cur.toList.drop (m * 2), rfl, hid ?_, hle, hid ⟨?_, ?_⟩⟩
    · rw [hb, ← htk, List.take_append_drop]
    · exact ((Chg.refl NoB w).alloc _).trans hc5 (fun i hi => .inr (Nat.le_of_eq (hown i hi).symm))
    · rcases hn5 g5 (by simp [OwnB, Value.ownBlock]) with h9 | h9
      · rw [hown _ h9]; exact Nat.le_refl _
      · simp at h9; omega
end Go.Proofs.Ytekjchphlphecaa
