import Derived.Test.YtlhblkpdfdpiaaaSl
namespace Go.Proofs.Ytlhblkpdfdpiaaa
open Go.RowKit Go.ChangeMaps Go.MapKept
set_option linter.unusedVariables false
set_option linter.unusedSimpArgs false
set_option linter.unnecessarySimpa false

/-! ### ranging over a map of which the value at a key that has come is turned -/
section
variable {ν : Type} {V : ν → Value} {r it : Nat} {m todo : List (Int × ν)} {w : World}
theorem RangeI.update {P : Program} {t kt et : TypeId} (ht : P.underlying t = some (.map kt et)) (hk : P.underlying kt = some (.int .i64)) (h : RangeI w it r V m todo) (k : Int) (v : ν) (hin : k ∈ m.map (·.1)) (hno : k ∉ todo.map (·.1)) :
    ∃ w', (Instr.mapUpdate t (.map (some r)) (.int .i64 k) (V v)).run P w = .ok () w' ∧ RangeI w' it r V (mput m k v) todo ∧ Chg (OneB r) w w' ∧ w'.heap.size = w.heap.size := by
  obtain ⟨w', hrun, h1, h2, h3⟩ := h.map.update (P := P) ht hk k v
  refine ⟨w', hrun, ?_, h2, h3⟩
  obtain ⟨es, clock, since, seen, c0, hb, hst, he, hi, hold, hsc, hsk, hl, hsub⟩ := h
  have hkey : IsKey (.int .i64) (.int .i64 k) := rfl
  have hne : it ≠ r := by intro e; rw [e, hb] at hi; cases hi
  rcases MapI.find hk (w := w) hst he k with ⟨g1, g2, g3, g4⟩ | ⟨j, e, v0, g1, g2, g3, g4, g5, g6, g7⟩
  · exfalso
    obtain ⟨p, hp, hpk⟩ := List.mem_map.1 hin
    have : m.any (fun p => p.1 == k) = true := by rw [List.any_eq_true]; exact ⟨p, hp, by simpa using hpk⟩
    rw [g4] at this; cases this
  · have hej : es[j]? = some e := by simpa using g2
    have hrun2 : (Instr.mapUpdate t (.map (some r)) (.int .i64 k) (V v)).run P w = .ok () (setBlock w r (.map (es.modify j fun e => { e with key := .int .i64 k, val := V v }) clock)) := by
      simp [Instr.mapUpdate, run_underlying ht, MapKept.run_getObj_map hb, run_checkKey hk hkey, g1, MapKept.run_setObj_map _ hb, Result.andThen, setBlock, hej, g3, run_keyThatStays hkey]
    have hw : w' = setBlock w r (.map (es.modify j fun e => { e with key := .int .i64 k, val := V v }) clock) := by
      rw [hrun] at hrun2; injection hrun2
    have hb2 : w'.heap[r]? = some (.map (es.modify j fun e => { e with key := .int .i64 k, val := V v }) clock) := by rw [hw]; exact heap_setBlock_same hb _
    have hi2 : w'.heap[it]? = some (.mapIter (some r) since seen c0) := h2.heap hi hne
    obtain ⟨es', clock', hb', hst', he'⟩ := h1
    rw [hb2] at hb'
    injection hb' with hb'
    injection hb' with e1 e2
    subst e1 e2
    -- the entry that is turned has come
    have hejl : e ∈ es.toList := List.mem_of_getElem? g2
    have hmj : ∃ p, m[j]? = some p ∧ p.1 = k := by
      exact ⟨_, g4, rfl⟩
    have hseen : seen.contains e.born = true := by
      cases hc : seen.contains e.born with
      | true => rfl
      | false =>
        exfalso
        have hin2 : e ∈ (leftOf es seen).toList := by
          unfold leftOf
          rw [Array.toList_filter, List.mem_filter]
          exact ⟨hejl, by show (!seen.contains e.born) = true; rw [hc]; rfl⟩
        have : (e.key, e.val) ∈ todo.map (fun p => (Value.int .i64 p.1, V p.2)) := by rw [← hl]; exact List.mem_map.2 ⟨e, hin2, rfl⟩
        obtain ⟨q, hq, hqe⟩ := List.mem_map.1 this
        have hqk : Value.int .i64 q.1 = e.key := congrArg Prod.fst hqe
        rw [g3] at hqk
        injection hqk with _ hqk
        exact hno (List.mem_map.2 ⟨q, hq, hqk⟩)
    have hleft : (leftOf (es.modify j fun e => { e with key := .int .i64 k, val := V v }) seen).toList = (leftOf es seen).toList := by
      unfold leftOf
      rw [Array.toList_filter, Array.toList_filter, Array.toList_modify]
      have key : ∀ (L : List MapEntry) (j : Nat), L[j]? = some e → (L.modify j fun e => { e with key := .int .i64 k, val := V v }).filter (fun e => !seen.contains e.born) = L.filter (fun e => !seen.contains e.born) := by
        intro L
        induction L with
        | nil => intro j hj; simp at hj
        | cons x L ih =>
          intro j hj
          cases j with
          | zero =>
            simp at hj
            subst hj
            rw [List.modify_cons, if_pos rfl, List.filter_cons, List.filter_cons]
            have h9 : (!seen.contains x.born) = false := by rw [hseen]; rfl
            simp only [h9, Bool.false_eq_true, if_false]
          | succ j =>
            rw [List.modify_succ_cons, List.filter_cons, List.filter_cons, ih j (by simpa using hj)]
      exact key es.toList j g2
    refine ⟨_, clock, since, seen, c0, hb2, hst', he', hi2, fun x hx => ?_, hsc, hsk, by rw [hleft]; exact hl, ?_⟩
    · rw [Array.toList_modify] at hx
      obtain ⟨i, hi3, rfl⟩ := List.getElem_of_mem hx
      rw [List.getElem_modify]
      have hi4 : i < es.toList.length := by simpa using hi3
      split
      · exact hold es.toList[i] (List.getElem_mem hi4)
      · exact hold es.toList[i] (List.getElem_mem hi4)
    · unfold mput
      rw [if_pos g7]
      have : todo = todo.map (fun p => if p.1 == k then (k, v) else p) := by
        conv => lhs; rw [← List.map_id todo]
        refine List.map_congr_left fun p hp => ?_
        have : (p.1 == k) = false := by
          cases hb3 : p.1 == k
          · rfl
          · exact absurd (List.mem_map.2 ⟨p, hp, by simpa using hb3⟩) hno
        rw [this]; rfl
      rw [this]
      exact hsub.map _

variable {P : Program} {ops : Array Oper} {rest : List Oper} {o : Oper} {a : Act} {Q : Exit → Act → World → Prop}
theorem step_mapUpdateR (hm : RangeI w it r V m todo) (hg : o.guard = none) (x y z : Operand) (t kt et : TypeId) (hop : o.op = Op.mapUpdate t x y z)
    (ht : P.underlying t = some (.map kt et)) (hk : P.underlying kt = some (.int .i64)) (k : Int) (v : ν) (hin : k ∈ m.map (·.1)) (hno : k ∉ todo.map (·.1))
    (hx : a.eval x = .map (some r)) (hy : a.eval y = .int .i64 k) (hz : a.eval z = V v)
    (hK : ∀ w', RangeI w' it r V (mput m k v) todo → Chg (OneB r) w w' → w'.heap.size = w.heap.size → wpList P ops Q rest (a.put o.dst undef) w') : wpList P ops Q (o :: rest) a w := by
  obtain ⟨w', hrun, h1, h2, h3⟩ := hm.update ht hk k v hin hno
  refine step_skip (w' := w') (wanted_none hg) ?_ (hK w' h1 h2 h3)
  simp [execOp, hop, hx, hy, hz, hrun, Result.andThen]
end
end Go.Proofs.Ytlhblkpdfdpiaaa
