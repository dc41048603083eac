import Derived.Test.YtlhblkpdfdpiaaaSl
import Derived.Test.YtlhblkpdfdpiaaaSrt
import Derived.Test.YtlhblkpdfdpiaaaKeys0
namespace Go.Proofs.Ytlhblkpdfdpiaaa
open Go.RowKit Go.ChangeMaps Go.MapKept Go.Maps Go.Sort Go.Shelf
set_option linter.unusedVariables false
set_option linter.unusedSimpArgs false
set_option linter.unnecessarySimpa false

/-- Each value reads as nothing. -/
def RR : Value → Option (DataW Unit × List MemPlace) := fun _ => some (.nil, [])

theorem rg_int {P : Program} {kt : TypeId} (hk : P.underlying kt = some (.int .i64)) {x : MapEntry} {a : Int} (h : x.key = .int .i64 a) (hw : (Lit.int .i64 a).wf = true) : WideElems.rd P kt RR x = some (.int .i64 a, .nil) := by
  have h1 : keyOf P kt x.key = some (.int .i64 a) := by rw [h]; simp [keyOf, hk, mapKey, hw]
  simp [WideElems.rd, h1, RR]

theorem MapI.owns {P : Program} {kt : TypeId} (hk : P.underlying kt = some (.int .i64)) {ν : Type} {V : ν → Value} {w : World} {r : Nat} {m : List (Int × ν)} (h : MapI w r V m) (hf : ∀ x ∈ m, (Lit.int .i64 x.1).wf = true) (hl : m.length ≤ maxLen) :
    ∃ D : DataW Unit, w.ownsMap P kt RR r m.length D ∧ (intKeys D).Perm (m.map (·.1)) ∧ Maps.size D = m.length := by
  obtain ⟨es, clock, hb, hst, he⟩ := h
  have hlen : es.size = m.length := by have := congrArg List.length he; simpa using this
  have hkey : ∀ x ∈ es.toList, ∃ a, x.key = .int .i64 a ∧ (Lit.int .i64 a).wf = true := by
    intro x hx
    have : (x.key, x.val) ∈ m.map (fun p => (Value.int .i64 p.1, V p.2)) := by rw [← he]; exact List.mem_map.2 ⟨x, hx, rfl⟩
    obtain ⟨p, hp, hpe⟩ := List.mem_map.1 this
    exact ⟨p.1, (congrArg Prod.fst hpe).symm, hf p hp⟩
  have hsort := WideShapes.sorted_perm (es.toList.map (WideElems.rg P kt RR))
  refine ⟨_, ⟨es, clock, hb, ⟨by omega, hst, fun x hx => ?_⟩, by omega, rfl⟩, ?_, ?_⟩
  · obtain ⟨a, h1, h2⟩ := hkey x hx
    exact ⟨_, rg_int hk h1 h2⟩
  · show (((es.toList.map (WideElems.rg P kt RR)).foldr DataW.insert []).map fun p => _root_.Go.intOf p.1).Perm _
    refine (hsort.map _).trans ?_
    rw [List.map_map]
    have e1 : es.toList.map ((fun p : Lit × DataW Unit => _root_.Go.intOf p.1) ∘ WideElems.rg P kt RR) = m.map (·.1) := by
      have h3 := congrArg (List.map (fun p : Value × Value => match p.1 with | .int _ a => a | _ => 0)) he
      rw [List.map_map, List.map_map] at h3
      have h4 : m.map ((fun p : Value × Value => match p.1 with | .int _ a => a | _ => 0) ∘ fun p => (Value.int .i64 p.1, V p.2)) = m.map (·.1) := List.map_congr_left fun p _ => rfl
      rw [h4] at h3
      rw [← h3]
      refine List.map_congr_left fun x hx => ?_
      obtain ⟨a, h1, h2⟩ := hkey x hx
      simp only [Function.comp_def]
      rw [WideElems.rg_of (rg_int hk h1 h2), h1]
      rfl
    rw [e1]
  · show ((es.toList.map (WideElems.rg P kt RR)).foldr DataW.insert []).length = _
    rw [hsort.length_eq]
    simpa using hlen

/-- slices.Sort's two contracts at this dump, at the fence that asks nothing. -/
theorem sortsA (m : Nat) : AnyZI.SortsIn Try.prog Try.sortedA_ren Fence.wide m :=
  ⟨fun blk off cap ss W hH hblk hsz => callsIn_wide.2 (AnyM.slices_Sort_int Try.sortA blk off cap ss W hH hblk hsz),
   fun p cap W => callsIn_wide.2 (AnyM.slices_Sort_int_none Try.sortA p cap W)⟩

end Go.Proofs.Ytlhblkpdfdpiaaa
