import Derived.Test.YtlhblkpdfdpiaaaWtCy
import Derived.Test.YtlhblkpdfdpiaaaReg
import Derived.Lib.BufferWrite
import Derived.Lib.BufferMore
import Derived.Lib.SliceRun
namespace Go.Proofs.Ytlhblkpdfdpiaaa.Wt
open Go.RowKit Go.ChangeMaps Go.MapKept
set_option linter.unusedVariables false
set_option linter.unusedSimpArgs false
set_option linter.unnecessarySimpa false
set_option maxHeartbeats 8000000

/-- Cells, stored into a part of a block. -/
theorem step_storeAt2 {P : Program} {ops : Array Oper} {rest : List Oper} {o : Oper} {a : Act} {w : World} {Q : Exit → Act → World → Prop} (hgd : o.guard = none) {ty : TypeId} {x y : Operand} (ho : o.op = .store ty x y)
    (g off : Nat) {cells : List Value} (hx : a.eval x = .pointer (some ⟨g, off, none⟩)) (hy : a.eval y = .agg cells.toArray)
    {t : TypeId} {old : List Value} (hg : w.heap[g]? = some (.cells old.toArray t (0, 0))) (hi : (P.info? ty).map (·.size) = some cells.length)
    (hold : off + cells.length ≤ old.length) (h1 : ∀ v ∈ cells, v.oneCell' = true)
    (hK : ∀ w', w'.heap[g]? = some (.cells (old.take off ++ cells ++ old.drop (off + cells.length)).toArray t (0, 0)) → Chg (OneB g) w w' → w'.heap.size = w.heap.size → wpList P ops Q rest (a.put o.dst undef) w') : wpList P ops Q (o :: rest) a w := by
  have hst := run_storeCells_at P g off t cells 0 old.toArray w hg (by simpa using hold) h1
  simp only [Nat.add_zero] at hst
  have hsv : (storeVar ty ⟨g, off, none⟩ (.agg cells.toArray)).run P w = .ok () (w.setRow g (old.take off ++ cells ++ old.drop (off + cells.length)).toArray) := by
    unfold storeVar
    cases hq : P.info? ty with
    | none => simp [hq] at hi
    | some i =>
      simp [hq] at hi
      simp [sizeOf, typeInfo, hq, hi, Value.cells, hst]
  refine step_skip (w' := w.setRow g (old.take off ++ cells ++ old.drop (off + cells.length)).toArray) (wanted_none hgd) ?_ (hK _ (setRow_heap w g _ _ t _ hg) ((Chg.refl (OneB g) w).setRow (.inl (OneB.self g)) _) (by simp))
  simp [execOp, ho, hx, hy, Instr.storeAt, Instr.sureAddr, hsv, Result.andThen]
/-- clear of a slice whose elements' cells are all alike. -/
theorem step_clear {P : Program} {ops : Array Oper} {rest : List Oper} {o : Oper} {a : Act} {w : World} {Q : Exit → Act → World → Prop} (hg : o.guard = none) (x : Operand) {t e : TypeId} (hop : o.op = .call { callee := .builtin .clear, args := #[x], argTypes := #[t] })
    (ht : P.underlying t = some (.slice e)) {z u : Value} {k : Nat} (hv : ∀ w, (zeroValue e).run P w = .ok z w) (hz : z.cells.toList = List.replicate k u) (h1 : u.oneCell' = true) (b off n c : Nat) (hn : 0 < n) (hx : a.eval x = .slice (some ⟨b, off, none⟩) n c)
    (hc : ∀ j, j < n * k → (w.cell? ⟨b, off + j, none⟩).isSome = true ∧ w.frozen? ⟨b, off + j, none⟩ = false)
    (hK : wpList P ops Q rest (a.put o.dst (.tuple #[])) (w.setCells b off (List.replicate (n * k) u))) : wpList P ops Q (o :: rest) a w := by
  have hzs : z.cells.size = k := by have := congrArg List.length hz; simpa using this
  have hzc : (Builtin.zeroCells z.cells n).toList = List.replicate (n * k) u := by
    unfold Builtin.zeroCells
    rw [hzs]
    apply List.ext_getElem
    · simp
    · intro i h1 h2
      have h3 : i < n * k := by simpa using h1
      have hk : 0 < k := by
        rcases Nat.eq_zero_or_pos k with h | h
        · subst h; omega
        · exact h
      have hm : i % z.cells.size < z.cells.size := Nat.mod_lt _ (by omega)
      have hm2 : i % z.cells.size < k := by rw [hzs] at hm ⊢; exact hm
      have h4 : z.cells.toList[i % z.cells.size]? = some u := by rw [hz, List.getElem?_replicate, if_pos hm2]
      have h5 : z.cells[i % z.cells.size]? = some u := by simpa using h4
      rw [Array.getElem?_eq_getElem hm] at h5
      have h6 : z.cells[i % z.cells.size]! = u := by rw [getElem!_pos z.cells (i % z.cells.size) hm]; exact Option.some.inj h5
      simp only [Array.toList_map, Array.toList_range, List.getElem_map, List.getElem_range, List.getElem_replicate]
      rw [hzs] at h6
      exact h6
  have hst := run_storeCells_cells (P := P) b off (List.replicate (n * k) u) 0 w (by simpa using fun j hj => (hc j hj).1) (by simpa using fun j hj => (hc j hj).2) (by intro v hv'; rw [List.eq_of_mem_replicate hv']; exact h1)
  simp only [Nat.add_zero] at hst
  have hcl : ∀ ty, (Builtin.clear_ #[t] ty #[.slice (some ⟨b, off, none⟩) n c]).run P w = .ok (.tuple #[]) (w.setCells b off (List.replicate (n * k) u)) := fun ty => by
    obtain ⟨m, rfl⟩ : ∃ m, n = m + 1 := ⟨n - 1, by omega⟩
    simp [Builtin.clear_, run_underlying ht, hv, hzc, hst]
  refine step_run (wanted_none hg) ?_ hK
  simp [execOp, hop, resolve, invoke, builtin, hx, hcl, Result.andThen]

/-- Has an edge this end? -/
def hit (n : Int) (x : Int × Int) : Bool := x.1 == n || x.2 == n
theorem wo_hit (e : Edges) (n : Int) : wo e n = e.filter fun x => !hit n x := by
  unfold wo hit
  refine List.filter_congr fun x _ => ?_
  cases h1 : x.1 == n <;> cases h2 : x.2 == n <;> simp [bne, h1, h2]
theorem slE : SlT Try.prog 22 50 (.agg #[.int .i64 0, .int .i64 0]) 2 16 := ⟨Try.underlying22, by kernel_rfl, rfl, by decide⟩

set_option maxRecDepth 100000 in
theorem vic1_calls (a b n : Int) (nb : Nat) (w : World) (hc : w.cell? ⟨nb, 0, none⟩ = some (.int .i64 n)) :
    Calls Try.prog 38 #[.agg #[.int .i64 a, .int .i64 b], .pointer (some ⟨nb, 0, none⟩)] w fun e w' => e = .returned (.bool (hit n (a, b))) ∧ Chg NoB w w' := by
  have hc1 := ((Chg.refl NoB w).alloc (.cells #[.int .i64 a, .int .i64 b] 50)).cell hc nob
  cases h1 : a == n <;> cases h2 : b == n
  all_goals
    have h3 := hid (show hit n (a, b) = _ from by unfold hit; simp only [h1, h2]; rfl)
    go_enter Try.func38, Try.ntmps38
    go_wp2
    go_ret
    exact ⟨by rw [h3.out]; rfl, (Chg.refl NoB w).alloc _⟩
/-- Where the first edge stands that has this end; -1: none has. -/
def idxE (l : Edges) (n : Int) : Int := match l.findIdx? (hit n) with | some i => (i : Int) | none => -1
set_option maxRecDepth 100000 in
theorem idxE_calls (w : World) (v : Value) (l : Edges) (hv : Rd w 2 encE v l) (hl : l.length ≤ 1000) (nb : Nat) (n : Int) (hc : w.cell? ⟨nb, 0, none⟩ = some (.int .i64 n)) (res : Int) (hres : Hid (res = idxE l n)) :
    Calls Try.prog 49 #[v, .func (.func 38) #[] #[.pointer (some ⟨nb, 0, none⟩)]] w fun e w' => e = .returned (.int .i64 res) ∧ Hid (Chg NoB w w') := by
  obtain ⟨a, c, rfl, q1, q2, hr⟩ := hv
  unfold maxLen at q2
  have HR := hid hr
  have HC := hid hc
  clear hr hc
  go_enter Try.func49, Try.ntmps49
  go_wp2_with fail
  go_loopw [8] (fun i wr => ∃ k : Nat, k ≤ l.length ∧ i = .int .i64 k ∧ Hid (Chg NoB w wr ∧ ∀ j, j < k → ∀ x, l[j]? = some x → hit n x = false)) (fun i _ => l.length - (intOf i).toNat)
  case atStart => exact ⟨0, by omega, rfl, hid ⟨Chg.refl _ _, fun j hj => by omega⟩⟩
  case round =>
    obtain ⟨k, hk, rfl, hI⟩ := hrel
    by_cases hlt : k < l.length
    · obtain ⟨⟨x, y⟩, hx⟩ := named l[k]
      obtain ⟨b, off, hab, h2⟩ := Rd.cells HR.out hI.out.1 k hlt
      rw [← hx.out] at h2
      subst hab
      have g0 := h2 0 _ rfl
      have g1 := h2 1 _ rfl
      simp only [Nat.add_zero] at g0
      have HX : Hid (l[k]? = some (x, y)) := hid (by rw [List.getElem?_eq_getElem hlt, hx.out])
      have HC2 := hid (hI.out.1.cell HC.out nob)
      clear h2
      cases hh : hit n (x, y)
      · have HH := hid hh
        have HNX : Hid (∀ j, j < k + 1 → ∀ x, l[j]? = some x → hit n x = false) := hid (fun j hj z hz => by
          rcases Nat.lt_or_ge j k with h3 | h3
          · exact hI.out.2 j h3 z hz
          · obtain rfl : j = k := by omega
            rw [HX.out] at hz; cases hz; exact hh)
        clear hh
        go_wp2_with (go_at_call 38; refine (vic1_calls x y n nb wr HC2.out).mono ?_; rintro ee w3 ⟨rfl, hc3⟩; rw [HH.out])
        go_roundw
        case rel => exact ⟨k + 1, by omega, by go_num, hid ⟨hI.out.1.trans' hc3, HNX.out⟩⟩
        case measure => simp [intOf]; omega
      · have HH := hid hh
        have HRS : Hid (res = (k : Int)) := hid (by
          rw [hres.out]
          unfold idxE
          have : l.findIdx? (hit n) = some k := by
            rw [List.findIdx?_eq_some_iff_getElem]
            refine ⟨hlt, by rw [← hx.out]; exact hh, fun j hj => ?_⟩
            have := hI.out.2 j hj _ (List.getElem?_eq_getElem (by omega))
            simp [this]
          rw [this])
        clear hh
        go_wp2_with (go_at_call 38; refine (vic1_calls x y n nb wr HC2.out).mono ?_; rintro ee w3 ⟨rfl, hc3⟩; rw [HH.out])
        go_ret
        exact ⟨ret_int HRS.out.symm, hid (hI.out.1.trans' hc3)⟩
    · obtain rfl : l.length = k := by omega
      have HRS : Hid (res = -1) := hid (by
        rw [hres.out]
        unfold idxE
        have : l.findIdx? (hit n) = none := by
          rw [List.findIdx?_eq_none_iff]
          intro x hx
          obtain ⟨j, hj, rfl⟩ := List.getElem_of_mem hx
          exact hI.out.2 j hj _ (List.getElem?_eq_getElem hj)
        rw [this])
      go_wp2_with fail
      go_ret
      exact ⟨ret_int HRS.out.symm, hid hI.out.1⟩
end Go.Proofs.Ytlhblkpdfdpiaaa.Wt
