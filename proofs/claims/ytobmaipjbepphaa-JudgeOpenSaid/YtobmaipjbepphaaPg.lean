import Derived.Test.YtobmaipjbepphaaReg
import Derived.Test.YtobmaipjbepphaaCell
import Derived.Lib.BufferWrite
import Derived.Laws.IdiomStrings
namespace Go.Proofs.Ytobmaipjbepphaa
open Go.RowKit Go.ChangeMaps Go.MapKept
set_option linter.unusedVariables false

/-- A block of bytes. -/
def BytesAt (w : World) (g : Nat) (t : TypeId) (l : List UInt8) : Prop := w.heap[g]? = some (.cells (Lib.byteCells l).toArray t (0, 0))
/-- s, laid over l from a place on. -/
def splice (l : List UInt8) (off : Nat) (s : List UInt8) : List UInt8 := l.take off ++ s ++ l.drop (off + s.length)
theorem splice_len {l : List UInt8} {off : Nat} {s : List UInt8} (h : off + s.length ≤ l.length) : (splice l off s).length = l.length := by
  unfold splice; simp; omega
theorem splice_nil (l : List UInt8) (off : Nat) : splice l off [] = l := by unfold splice; simp

section
variable {P : Program} {w : World} {ops : Array Oper} {rest : List Oper} {o : Oper} {a : Act} {Q : Exit → Act → World → Prop}
/-- copy(b[off:], s) -/
theorem step_copyS (hg : o.guard = none) (d x : Operand) (dT sT : TypeId) (hop : o.op = .call { callee := .builtin .copy, args := #[d, x], argTypes := #[dT, sT] })
    (elem : TypeId) (hu : P.underlying dT = some (.slice elem)) (hs : (P.info? elem).map (·.size) = some 1)
    {g off dLen dCap : Nat} {t : TypeId} {l : List UInt8} (hb : BytesAt w g t l) (hd : a.eval d = .slice (some ⟨g, off, none⟩) dLen dCap) (s : ByteArray) (hx : a.eval x = .string s) (hle : s.size ≤ dLen) (hfit : off + s.size ≤ l.length)
    (hK : ∀ w', BytesAt w' g t (splice l off s.data.toList) → Chg (OneB g) w w' → wpList P ops Q rest (a.put o.dst (.int .i64 s.size)) w') : wpList P ops Q (o :: rest) a w := by
  have hl : (Lib.byteCells l).length = l.length := by rw [Lib.byteCells_length]
  have hr := Lib.run_copy_row_string (P := P) w dT sT o.type elem g off dLen dCap s (Lib.byteCells l).toArray t hu hs hb hle (by simpa [hl] using hfit)
  refine step_run (v := .int .i64 s.size) (w' := w.setRow g ((Lib.byteCells l).toArray.toList.take off ++ Lib.byteCells s.data.toList ++ (Lib.byteCells l).toArray.toList.drop (off + s.size)).toArray) (wanted_none hg) ?_ (hK _ ?_ ((Chg.refl (OneB g) w).setRow (.inl (OneB.self g)) _))
  · simp [execOp, hop, resolve, invoke, builtin, hd, hx] at *
    rw [hr]
    rfl
  · unfold BytesAt
    rw [setRow_heap w g _ _ t _ hb]
    congr 2
    simp only [splice, Lib.byteCells, List.map_append, List.map_take, List.map_drop]
    rw [Lib.size_eq]
/-- var b [n]byte -/
theorem step_allocB (hg : o.guard = none) (t : TypeId) (hop : o.op = .alloc t) {l : List UInt8} (hz : (zeroValue t).run P w = .ok (.agg (Lib.byteCells l).toArray) w)
    (hK : ∀ w', BytesAt w' w.heap.size t l → Chg NoB w w' → w'.heap.size = w.heap.size + 1 → wpList P ops Q rest (a.put o.dst (.pointer (some ⟨w.heap.size, 0, none⟩))) w') : wpList P ops Q (o :: rest) a w := by
  refine step_run (v := .pointer (some ⟨w.heap.size, 0, none⟩)) (w' := w.alloc (.cells (Lib.byteCells l).toArray t)) (wanted_none hg) ?_ (hK _ (blk_new _ _) ((Chg.refl _ _).alloc _) (by simp))
  simp [execOp, hop, Instr.alloc, hz, Result.andThen, newVar, newRow, newObj, Value.cells]
  rfl
/-- copy(.., "") -/
theorem step_copy0 (hg : o.guard = none) (d x : Operand) (dT sT : TypeId) (hop : o.op = .call { callee := .builtin .copy, args := #[d, x], argTypes := #[dT, sT] })
    (elem : TypeId) (hu : P.underlying dT = some (.slice elem)) (hs : ((P.info? elem).map (·.size)).isSome = true)
    {ad : Option Addr} {dLen dCap : Nat} (hd : a.eval d = .slice ad dLen dCap) (s : ByteArray) (hx : a.eval x = .string s) (h0 : s.size = 0)
    (hK : wpList P ops Q rest (a.put o.dst (.int .i64 0)) w) : wpList P ops Q (o :: rest) a w := by
  have hr := Lib.run_copy_empty_string (P := P) w dT sT o.type elem ad dLen dCap s hu hs h0
  refine step_run (wanted_none hg) ?_ hK
  simp [execOp, hop, resolve, invoke, builtin, hd, hx, hr, Result.andThen, goInt]
/-- string(b[:]) -/
theorem step_convS (hg : o.guard = none) (x : Operand) (src dst e : TypeId) (hop : o.op = .convert src dst x) (hs : P.underlying src = some (.slice e)) (he : P.underlying e = some (.int .u8)) (hd : P.underlying dst = some .string)
    {g : Nat} {t : TypeId} {l : List UInt8} (hb : BytesAt w g t l) (n c : Nat) (hn : n = l.length) (hx : a.eval x = .slice (some ⟨g, 0, none⟩) n c)
    (hK : wpList P ops Q rest (a.put o.dst (.string ⟨l.toArray⟩)) w) : wpList P ops Q (o :: rest) a w := by
  subst hn
  refine step_run (wanted_none hg) ?_ hK
  have hr := run_convert_bytes_back (P := P) w src dst e ⟨g, 0, none⟩ c l hs he hd (fun j hj => by
    have h0 : (Addr.mk g 0 none).add j = ⟨g, j, none⟩ := by
      simp [Addr.add]
      try (intro h; exact h.symm)
    rw [h0, cell_blk hb]
    simp [Lib.byteCells, hj])
  simp [execOp, hop, hx, hr, Result.andThen]
end
end Go.Proofs.Ytobmaipjbepphaa
