import Derived.Test.YtghklbflbodajaaA1
import Derived.Lib.BufferWrite
import Derived.Laws.IdiomStrings
import Derived.OrdersHeld
import Derived.StillTactics
import Derived.StillTail
import Derived.ArgAppend
import Derived.Deep.Upon
namespace Go.Proofs.Ytghklbflbodajaa
open Go.RowKit Go.ChangeMaps Go.MapKept
set_option linter.unusedVariables false
set_option linter.unusedSimpArgs false
set_option linter.unnecessarySimpa false

/-- A block of bytes. -/
def BytesAt (w : World) (g : Nat) (t : TypeId) (l : List UInt8) : Prop := w.heap[g]? = some (.cells (Lib.byteCells l).toArray t (0, 0))
/-- s, laid over l from a place on. -/
def splice (l : List UInt8) (off : Nat) (s : List UInt8) : List UInt8 := l.take off ++ s ++ l.drop (off + s.length)
theorem splice_len {l : List UInt8} {off : Nat} {s : List UInt8} (h : off + s.length ≤ l.length) : (splice l off s).length = l.length := by
  unfold splice; simp; omega
theorem splice_nil (l : List UInt8) (off : Nat) : splice l off [] = l := by unfold splice; simp

section
variable {P : Program} {w : World} {ops : Array Oper} {rest : List Oper} {o : Oper} {a : Act} {Q : Exit → Act → World → Prop}
/-- copy(b[off:], s) -/
theorem step_copyS (hg : o.guard = none) (d x : Operand) (dT sT : TypeId) (hop : o.op = .call { callee := .builtin .copy, args := #[d, x], argTypes := #[dT, sT] })
    (elem : TypeId) (hu : P.underlying dT = some (.slice elem)) (hs : (P.info? elem).map (·.size) = some 1)
    {g off dLen dCap : Nat} {t : TypeId} {l : List UInt8} (hb : BytesAt w g t l) (hd : a.eval d = .slice (some ⟨g, off, none⟩) dLen dCap) (s : ByteArray) (hx : a.eval x = .string s) (hle : s.size ≤ dLen) (hfit : off + s.size ≤ l.length)
    (hK : ∀ w', BytesAt w' g t (splice l off s.data.toList) → Chg (OneB g) w w' → wpList P ops Q rest (a.put o.dst (.int .i64 s.size)) w') : wpList P ops Q (o :: rest) a w := by
  have hl : (Lib.byteCells l).length = l.length := by rw [Lib.byteCells_length]
  have hr := Lib.run_copy_row_string (P := P) w dT sT o.type elem g off dLen dCap s (Lib.byteCells l).toArray t hu hs hb hle (by simpa [hl] using hfit)
  refine step_run (v := .int .i64 s.size) (w' := w.setRow g ((Lib.byteCells l).toArray.toList.take off ++ Lib.byteCells s.data.toList ++ (Lib.byteCells l).toArray.toList.drop (off + s.size)).toArray) (wanted_none hg) ?_ (hK _ ?_ ((Chg.refl (OneB g) w).setRow (.inl (OneB.self g)) _))
  · simp [execOp, hop, resolve, invoke, builtin, hd, hx] at *
    rw [hr]
    rfl
  · unfold BytesAt
    rw [setRow_heap w g _ _ t _ hb]
    congr 2
    simp only [splice, Lib.byteCells, List.map_append, List.map_take, List.map_drop]
    rw [Lib.size_eq]
/-- var b [n]byte -/
theorem step_allocB (hg : o.guard = none) (t : TypeId) (hop : o.op = .alloc t) {l : List UInt8} (hz : (zeroValue t).run P w = .ok (.agg (Lib.byteCells l).toArray) w)
    (hK : ∀ w', BytesAt w' w.heap.size t l → Chg NoB w w' → w'.heap.size = w.heap.size + 1 → wpList P ops Q rest (a.put o.dst (.pointer (some ⟨w.heap.size, 0, none⟩))) w') : wpList P ops Q (o :: rest) a w := by
  refine step_run (v := .pointer (some ⟨w.heap.size, 0, none⟩)) (w' := w.alloc (.cells (Lib.byteCells l).toArray t)) (wanted_none hg) ?_ (hK _ (blk_new _ _) ((Chg.refl _ _).alloc _) (by simp))
  simp [execOp, hop, Instr.alloc, hz, Result.andThen, newVar, newRow, newObj, Value.cells]
  rfl
/-- copy(.., "") -/
theorem step_copy0 (hg : o.guard = none) (d x : Operand) (dT sT : TypeId) (hop : o.op = .call { callee := .builtin .copy, args := #[d, x], argTypes := #[dT, sT] })
    (elem : TypeId) (hu : P.underlying dT = some (.slice elem)) (hs : ((P.info? elem).map (·.size)).isSome = true)
    {ad : Option Addr} {dLen dCap : Nat} (hd : a.eval d = .slice ad dLen dCap) (s : ByteArray) (hx : a.eval x = .string s) (h0 : s.size = 0)
    (hK : wpList P ops Q rest (a.put o.dst (.int .i64 0)) w) : wpList P ops Q (o :: rest) a w := by
  have hr := Lib.run_copy_empty_string (P := P) w dT sT o.type elem ad dLen dCap s hu hs h0
  refine step_run (wanted_none hg) ?_ hK
  simp [execOp, hop, resolve, invoke, builtin, hd, hx, hr, Result.andThen, goInt]
/-- string(b[:]) -/
theorem step_convS (hg : o.guard = none) (x : Operand) (src dst e : TypeId) (hop : o.op = .convert src dst x) (hs : P.underlying src = some (.slice e)) (he : P.underlying e = some (.int .u8)) (hd : P.underlying dst = some .string)
    {g : Nat} {t : TypeId} {l : List UInt8} (hb : BytesAt w g t l) (n c : Nat) (hn : n = l.length) (hx : a.eval x = .slice (some ⟨g, 0, none⟩) n c)
    (hK : wpList P ops Q rest (a.put o.dst (.string ⟨l.toArray⟩)) w) : wpList P ops Q (o :: rest) a w := by
  subst hn
  refine step_run (wanted_none hg) ?_ hK
  have hr := run_convert_bytes_back (P := P) w src dst e ⟨g, 0, none⟩ c l hs he hd (fun j hj => by
    have h0 : (Addr.mk g 0 none).add j = ⟨g, j, none⟩ := by
      simp [Addr.add]
      try (intro h; exact h.symm)
    rw [h0, cell_blk hb]
    simp [Lib.byteCells, hj])
  simp [execOp, hop, hx, hr, Result.andThen]
end
end Go.Proofs.Ytghklbflbodajaa

namespace Go.Proofs.Ytghklbflbodajaa
open Go.RowKit Go.ChangeMaps Go.MapKept
set_option linter.unusedVariables false
set_option linter.unusedSimpArgs false
set_option linter.unnecessarySimpa false
set_option maxHeartbeats 4000000

/-- A page: where it stands in the log, and its bytes. -/
structure Pg where
  at_ : Int
  data : ByteArray
def Pg.val (p : Pg) : Value := .agg #[.int .i64 p.at_, .string p.data]
def Pg.right (p : Pg) : Bool := decide (0 ≤ p.at_) && (decide (p.at_ ≤ 2147483647) && decide (p.data.size = 220))

set_option maxRecDepth 100000 in
theorem right_calls (p : Pg) (w : World) (res : Bool) (hres : Hid (res = p.right)) (hf : p.data.size ≤ 2 ^ 62) :
    Calls Try.prog 36 #[p.val] w fun e w' => e = .returned (.bool res) ∧ Chg NoB w w' := by
  unfold Pg.val
  obtain ⟨n1, h1⟩ := named p.data.size
  go_enter Try.func36, Try.ntmps36
  go_wp2
  all_goals go_ret
  all_goals exact ⟨ret_bool (by rw [hres.out]; simp only [Pg.right]; rw [Bool.eq_iff_iff]; simp; omega), (Chg.refl _ _).alloc _⟩

/-- What Get answers: the bytes, and the error's number. -/
def Pg.get (p : Pg) (off n : Int) : ByteArray × Int :=
  if p.right = false then (⟨#[]⟩, 3)
  else if off < 0 ∨ n < 0 ∨ 220 < n ∨ 220 - n < off then (⟨#[]⟩, 2)
  else (p.data.extract off.toNat (off + n).toNat, 0)

end Go.Proofs.Ytghklbflbodajaa

namespace Go.Proofs.Ytghklbflbodajaa
open Go.RowKit Go.ChangeMaps Go.MapKept
set_option linter.unusedVariables false
set_option linter.unusedSimpArgs false
set_option linter.unnecessarySimpa false
set_option maxHeartbeats 4000000

def Pg.empty : Pg := ⟨0, ⟨Array.replicate 220 0⟩⟩

set_option maxRecDepth 100000 in
theorem zero_arr (w : World) : (zeroValue 141).run Try.prog w = .ok (.agg (Lib.byteCells (List.replicate 220 0)).toArray) w := by kernel_rfl

end Go.Proofs.Ytghklbflbodajaa

namespace Go.Proofs.Ytghklbflbodajaa
open Go.RowKit Go.ChangeMaps Go.MapKept
set_option linter.unusedVariables false
set_option linter.unusedSimpArgs false
set_option linter.unnecessarySimpa false
set_option maxHeartbeats 8000000

def Pg.none : Pg := ⟨0, ⟨#[]⟩⟩
/-- What Put answers. -/
def Pg.put (p : Pg) (off : Int) (s : ByteArray) (at_ : Int) : Pg × Int :=
  if p.right = false then (Pg.none, 3)
  else if at_ < 0 ∨ 2147483647 < at_ then (Pg.none, 1)
  else if off < 0 ∨ 220 < s.size ∨ 220 < off + s.size then (Pg.none, 2)
  else (⟨at_, ⟨(splice p.data.data.toList off.toNat s.data.toList).toArray⟩⟩, 0)

set_option maxRecDepth 100000 in
theorem put_calls (p : Pg) (off at_ : Int) (s : ByteArray) (w : World) (res : Pg × Int) (hres : Hid (res = p.put off s at_)) (hf : p.data.size ≤ 2 ^ 62) (hs : s.size ≤ 2 ^ 62)
    (ho : fits off) (hn : fits at_) :
    Calls Try.prog 46 #[p.val, .int .i64 off, .string s, .int .i64 at_] w fun e w' => e = .returned (.tuple #[res.1.val, .int .i64 res.2]) ∧ Chg NoB w w' := by
  unfold fits at ho hn
  have hv : p.val = .agg #[.int .i64 p.at_, .string p.data] := rfl
  obtain ⟨f, hfr⟩ := named p.right
  have hsz : f = true → p.data.size = 220 := fun h => by
    rw [h] at hfr
    have := hfr.out.symm
    simp [Pg.right] at this
    exact this.2.2
  rw [hv]
  go_enter Try.func46, Try.ntmps46
  cases f
  · go_wp2_with (first
      | (go_at_call 36; refine (right_calls p _ _ hfr hf).mono ?_; rintro e w1 ⟨rfl, hc⟩; have hb8 := hc.heap (blk_new _ _) (fun e => e); rw [World.size_alloc] at hb8)
      | ((fail_if_success (fail_if_success (with_reducible change wpList _ _ _ (Oper.mk _ (.store 40 _ _) _ _ _ _ :: _) _ _))); refine step_storeRow rfl rfl (w.heap.size + 1) rfl rfl hb8 (by kernel_rfl) rfl (by simp [Value.oneCell']) ?_; intro w2 hb2 hc2 hs2))
    refine bodyPost_ret (res_row2 Try.underlying40 rfl _ _ (w.heap.size + 1) rfl hb2 (by kernel_rfl)) rfl ?_
    have hx := hres.out
    unfold Pg.put at hx
    rw [if_pos hfr.out.symm] at hx
    rw [hx]
    exact ⟨rfl, ((((Chg.refl _ _).alloc _).alloc _).trans' hc).trans hc2 (fun i hi => by cases hi; exact .inr (by omega))⟩
  · have hz := hsz rfl
    clear hsz
    go_wp2_with (first
      | (go_at_call 36; refine (right_calls p _ _ hfr hf).mono ?_; rintro e w1 ⟨rfl, hc⟩; have hb8 := hc.heap (blk_new _ _) (fun e => e); rw [World.size_alloc] at hb8; have hb1 : w1.cell? ⟨w.heap.size, 1, none⟩ = some (.string p.data) := hc.cell ((cell_blk (blk_alloc (blk_new _ _) _) 1).trans rfl) (fun e => e))
      | ((fail_if_success (fail_if_success (with_reducible change wpList _ _ _ (Oper.mk _ (.store 40 _ _) _ _ _ _ :: _) _ _))); refine step_storeRow rfl rfl (w.heap.size + 1) rfl rfl hb8 (by kernel_rfl) rfl (by simp [Value.oneCell']) ?_; intro w2 hb2 hc2 hs2)
      | ((fail_if_success (fail_if_success (with_reducible change wpList _ _ _ (Oper.mk _ (.alloc 141) _ _ _ _ :: _) _ _))); refine step_allocB rfl _ rfl (zero_arr _) ?_; intro w3 hb hc3 hs3; have hb9 := hc3.heap hb8 (fun e => e); have hb11 := hc3.cell hb1 (fun e => e)))
    all_goals first
      | (refine bodyPost_ret (res_row2 Try.underlying40 rfl _ _ (w.heap.size + 1) rfl hb2 (by kernel_rfl)) rfl ?_
         have hx := hres.out
         unfold Pg.put at hx
         rw [if_neg (by rw [← hfr.out]; decide)] at hx
         first
           | (rw [if_pos (by omega)] at hx
              rw [hx]
              exact ⟨rfl, ((((Chg.refl _ _).alloc _).alloc _).trans' hc).trans hc2 (fun i hi => by cases hi; exact .inr (by omega))⟩)
           | (rw [if_neg (by omega), if_pos (by omega)] at hx
              rw [hx]
              exact ⟨rfl, ((((Chg.refl _ _).alloc _).alloc _).trans' hc).trans hc2 (fun i hi => by cases hi; exact .inr (by omega))⟩))
      | skip
    have hle : (s.size : Int) ≤ 220 := by assumption
    have hof : off ≤ 220 - s.size := by omega
    have h0 : 0 ≤ off := by omega
    obtain ⟨m, rfl⟩ := Int.eq_ofNat_of_zero_le h0
    (refine wp_region_tail 3 (by kernel_rfl) (by kernel_rfl) ?_; simp only [List.take_succ_cons, List.take_zero, List.drop_succ_cons, List.drop_zero]; (repeat still_step); refine wpStill_nil ?_; change wpList _ _ _ _ _ _)
    refine step_copyS rfl _ _ _ _ rfl 5 Try.underlying64 (by kernel_rfl) (g := w1.heap.size) (off := 0) (l := List.replicate 220 0) hb rfl p.data rfl (by omega) (by simp; omega) ?_
    intro w4 hb4 hc4
    have hsp : splice (List.replicate 220 0) 0 p.data.data.toList = p.data.data.toList := by
      have : p.data.data.toList.length = 220 := by rw [← Lib.size_eq]; exact hz
      simp [splice, this]
    rw [hsp] at hb4
    clear hsp
    have hll : p.data.data.toList.length = 220 := by rw [← Lib.size_eq]; exact hz
    have hb10 := hc4.heap (k := w.heap.size + 1) hb9 (fun e => by have := hc.size; unfold OneB at e; simp at this; omega)
    have hcc : Chg NoB w w4 := (((((Chg.refl _ _).alloc _).alloc _).trans' hc).trans' hc3).drew.trans hc4 (fun i hi => by cases hi; have := hc.size; simp at this; exact .inr (by omega))
    have hgt : w.heap.size + 1 < w1.heap.size := by have := hc.size; simp at this; omega
    have hsl : s.data.toList.length = s.size := (Lib.size_eq s).symm
    have hspl : 220 = (splice p.data.data.toList m s.data.toList).length := by rw [splice_len (by omega)]; exact hll.symm
    have HX := hid hspl
    have HS := hid hsl
    have hx := hres.out
    unfold Pg.put at hx
    rw [if_neg (by rw [← hfr.out]; decide), if_neg (by omega), if_neg (by omega)] at hx
    have HR := hid hx
    clear hx hspl hsl hres
    clear hb hb9 hb11 hc3 hs3 hc hb8 hb1
    have h220 : (m : Int) ≤ 220 := by omega
    by_cases hm : m = 220
    · subst hm
      have hs0 : s.size = 0 := by omega
      go_wp2_with (first
        | (refine step_copy0 rfl _ _ _ _ rfl 5 Try.underlying64 (by kernel_rfl) rfl s rfl hs0 ?_)
        | ((fail_if_success (fail_if_success (with_reducible change wpList _ _ _ (Oper.mk _ (.convert 64 _ _) _ _ _ _ :: _) _ _))); refine step_convS rfl _ _ _ _ rfl Try.underlying64 Try.underlying5 Try.underlying9 hb4 220 220 hll.symm rfl ?_)
        | ((fail_if_success (fail_if_success (with_reducible change wpList _ _ _ (Oper.mk _ (.store 40 _ _) _ _ _ _ :: _) _ _))); refine step_storeRow rfl rfl (w.heap.size + 1) rfl rfl hb10 (by kernel_rfl) rfl (by simp [Value.oneCell']) ?_; intro w2 hb2 hc2 hs2))
      refine bodyPost_ret (res_row2 Try.underlying40 rfl _ _ (w.heap.size + 1) rfl hb2 (by kernel_rfl)) rfl ?_
      have hnil : s.data.toList = [] := List.length_eq_zero_iff.1 (by rw [HS.out, hs0])
      rw [HR.out, hnil, splice_nil]
      exact ⟨rfl, hcc.trans hc2 (fun i hi => by cases hi; exact .inr (by omega))⟩
    · have hne : ¬ (220 = m) := fun e => hm e.symm
      go_wp2_with (first
        | (refine step_copyS rfl _ _ _ _ rfl 5 Try.underlying64 (by kernel_rfl) (g := w1.heap.size) (off := m) hb4 rfl s rfl (by omega) (by rw [hll]; omega) ?_; intro w5 hb5 hc5; have hb12 := hc5.heap (k := w.heap.size + 1) hb10 (fun e => by unfold OneB at e; omega))
        | ((fail_if_success (fail_if_success (with_reducible change wpList _ _ _ (Oper.mk _ (.convert 64 _ _) _ _ _ _ :: _) _ _))); refine step_convS rfl _ _ _ _ rfl Try.underlying64 Try.underlying5 Try.underlying9 hb5 220 220 HX.out rfl ?_)
        | ((fail_if_success (fail_if_success (with_reducible change wpList _ _ _ (Oper.mk _ (.store 40 _ _) _ _ _ _ :: _) _ _))); refine step_storeRow rfl rfl (w.heap.size + 1) rfl rfl hb12 (by kernel_rfl) rfl (by simp [Value.oneCell']) ?_; intro w2 hb2 hc2 hs2))
      refine bodyPost_ret (res_row2 Try.underlying40 rfl _ _ (w.heap.size + 1) rfl hb2 (by kernel_rfl)) rfl ?_
      rw [HR.out]
      exact ⟨rfl, (hcc.trans hc5 (fun i hi => by cases hi; exact .inr (by omega))).trans hc2 (fun i hi => by cases hi; exact .inr (by omega))⟩
end Go.Proofs.Ytghklbflbodajaa

namespace Go.Proofs.Ytghklbflbodajaa
open Go.RowKit Go.ChangeMaps Go.MapKept
set_option linter.unusedVariables false
set_option linter.unusedSimpArgs false
set_option linter.unnecessarySimpa false

/-- A row, stored into a part of a block. -/
theorem step_storeAt {P : Program} {ops : Array Oper} {rest : List Oper} {o : Oper} {a : Act} {w : World} {Q : Exit → Act → World → Prop} (hgd : o.guard = none) {ty : TypeId} {x y : Operand} (ho : o.op = .store ty x y)
    (g off : Nat) {cells : List Value} (hx : a.eval x = .pointer (some ⟨g, off, none⟩)) (hy : a.eval y = .agg cells.toArray)
    {t : TypeId} {old : List Value} (hg : w.heap[g]? = some (.cells old.toArray t (0, 0))) (hi : (P.info? ty).map (·.size) = some cells.length)
    (hold : off + cells.length ≤ old.length) (h1 : ∀ v ∈ cells, v.oneCell' = true)
    (hK : ∀ w', w'.heap[g]? = some (.cells (old.take off ++ cells ++ old.drop (off + cells.length)).toArray t (0, 0)) → Chg (OneB g) w w' → w'.heap.size = w.heap.size → wpList P ops Q rest (a.put o.dst undef) w') : wpList P ops Q (o :: rest) a w := by
  have hst := run_storeCells_at P g off t cells 0 old.toArray w hg (by simpa using hold) h1
  simp only [Nat.add_zero] at hst
  have hsv : (storeVar ty ⟨g, off, none⟩ (.agg cells.toArray)).run P w = .ok () (w.setRow g (old.take off ++ cells ++ old.drop (off + cells.length)).toArray) := by
    unfold storeVar
    cases hq : P.info? ty with
    | none => simp [hq] at hi
    | some i =>
      simp [hq] at hi
      simp [sizeOf, typeInfo, hq, hi, Value.cells, hst]
  refine step_skip (w' := w.setRow g (old.take off ++ cells ++ old.drop (off + cells.length)).toArray) (wanted_none hgd) ?_ (hK _ (setRow_heap w g _ _ t _ hg) ((Chg.refl (OneB g) w).setRow (.inl (OneB.self g)) _) (by simp))
  simp [execOp, ho, hx, hy, Instr.storeAt, Instr.sureAddr, hsv, Result.andThen]

/-- A struct, loaded out of a part of a block. -/
theorem run_loadAt {P : Program} (w : World) (g off : Nat) (ty : TypeId) (cs : List Value) {fs : Array Field} (h : ∀ j v, cs[j]? = some v → w.cell? ⟨g, off + j, none⟩ = some v)
    (hu : P.underlying ty = some (.struct fs)) (hi : (P.info? ty).map (·.size) = some cs.length) :
    (loadVar ty ⟨g, off, none⟩).run P w = .ok (.agg cs.toArray) w := by
  have hl : (loadCells ⟨g, off, none⟩ cs.length).run P w = .ok cs.toArray w :=
    run_loadCells_list (P := P) w ⟨g, off, none⟩ cs (fun j v hv => by
      have hadd : (⟨g, off, none⟩ : Addr).add j = ⟨g, off + j, none⟩ := by unfold Addr.add; split <;> simp_all
      rw [hadd]
      exact h j v hv)
  have hagg : (isAgg ty).run P w = .ok true w := by
    unfold isAgg
    rw [Sem.run_bind, run_underlying hu w]
    rfl
  cases hq : P.info? ty with
  | none => simp [hq] at hi
  | some i =>
    have hs : i.size = cs.length := by simpa [hq] using hi
    simp [loadVar, hagg, sizeOf, typeInfo, hq, hs, hl]
theorem step_loadAt {P : Program} {ops : Array Oper} {rest : List Oper} {o : Oper} {a : Act} {w : World} {Q : Exit → Act → World → Prop} (hgd : o.guard = none) {ty : TypeId} {x : Operand} (ho : o.op = .load ty x)
    (g off : Nat) (hx : a.eval x = .pointer (some ⟨g, off, none⟩)) (cs : List Value) {fs : Array Field} (h : ∀ j v, cs[j]? = some v → w.cell? ⟨g, off + j, none⟩ = some v)
    (hu : P.underlying ty = some (.struct fs)) (hi : (P.info? ty).map (·.size) = some cs.length)
    (hK : wpList P ops Q rest (a.put o.dst (.agg cs.toArray)) w) : wpList P ops Q (o :: rest) a w := by
  refine step_run (wanted_none hgd) ?_ hK
  simp [execOp, ho, hx, Instr.loadAt, Instr.sureAddr, run_loadAt w g off ty cs h hu hi, Result.andThen]
end Go.Proofs.Ytghklbflbodajaa

namespace Go.Proofs.Ytghklbflbodajaa
open Go.RowKit Go.ChangeMaps Go.MapKept
set_option linter.unusedVariables false
set_option linter.unusedSimpArgs false
set_option linter.unnecessarySimpa false

section
variable {P : Program} {ops : Array Oper} {Q : Exit → Act → World → Prop} {S : World → Prop}

/-- K at a normal end, Q at others. -/
def ordQ (Q : Exit → Act → World → Prop) (K : Act → World → Prop) : Exit → Act → World → Prop
  | .normal, a, w => K a w
  | e, a, w => Q e a w

/-- An order: reads, and others, of which two may come up at once. -/
inductive Plan where
  | done
  | rd (i : Nat) (p : Plan)
  | one (i : Nat) (p : Plan)
  | two (i : Nat) (p : Plan) (j : Nat) (q : Plan)
def Plan.len : Plan → Nat
  | .done => 0
  | .rd _ p => p.len + 1
  | .one _ p => p.len + 1
  | .two _ p _ _ => p.len + 1

/-- A region's operations in an order of one's own: reads (false), which any world of S answers alike, and others (true), behind which S holds. -/
def wpOrd (P : Program) (ops : Array Oper) (n : Nat) (S : World → Prop) (Q : Exit → Act → World → Prop) : Plan → Act → World → Prop
  | .done, a, w => Q .normal a w
  | .rd i l, a, w => ∃ o v, ops[i]? = some o ∧ YieldsIf P ops S o v a ∧ wpOrd P ops n S Q l (a.put o.dst v) w
  | .one i l, a, w => ∃ o, ops[i]? = some o ∧ wpList P ops (ordQ Q (fun a' w' => (i ≠ n → S w') ∧ wpOrd P ops n S Q l a' w')) [o] a w
  | .two i l j m, a, w => (∃ o, ops[i]? = some o ∧ wpList P ops (ordQ Q (fun a' w' => (i ≠ n → S w') ∧ wpOrd P ops n S Q l a' w')) [o] a w) ∧
      (∃ o, ops[j]? = some o ∧ wpList P ops (ordQ Q (fun a' w' => (j ≠ n → S w') ∧ wpOrd P ops n S Q m a' w')) [o] a w)

def ordB (ops : Array Oper) (n : Nat) : Plan → Array Bool → Bool
  | .done, listed => (Region.ready .any ops listed).isEmpty
  | .rd i l, listed => (decide (i < n)) && (Region.ready .any ops listed).contains i && Region.free .any ops listed i && ordB ops n l (listed.setIfInBounds i true)
  | .one i l, listed => (Region.ready .any ops listed == [i]) && ordB ops n l (listed.setIfInBounds i true)
  | .two i l j m, listed => (Region.ready .any ops listed == [i, j]) && (l.len == m.len) && ordB ops n l (listed.setIfInBounds i true) && ordB ops n m (listed.setIfInBounds j true)

theorem wp_ordQ {o : Oper} {a : Act} {w : World} {K : Act → World → Prop} (h : o.wp P a w K (ordQ Q K)) : o.wp P a w K Q := by
  unfold Oper.wp at *
  generalize (execOp a.eval o).run P w = r at *
  cases r with
  | ok n w' =>
    cases n <;> simp only [Oper.upon] at h ⊢ <;> first
      | exact h
      | exact Calls.mono h (fun e w'' he => by cases e <;> exact he)
  | halt x w' => cases x <;> simp only [Oper.upon] at h ⊢ <;> exact h

/-- Whatever order is picked; S holds behind each operation but n. -/
def wpAnyE (P : Program) (ops : Array Oper) (n : Nat) (Q : Exit → Act → World → Prop) (S : World → Prop) : Nat → Array Bool → Act → World → Prop
  | 0, listed, a, w => Region.ready .any ops listed = [] ∧ Q .normal a w
  | f + 1, listed, a, w => (Region.ready .any ops listed = [] → Q .normal a w) ∧
    ∀ i ∈ Region.ready .any ops listed, wpOp P ops Q i (fun a' w' => (i ≠ n → S w') ∧ wpAnyE P ops n Q S f (listed.setIfInBounds i true) a' w') a w
theorem wpAnyE_any {n : Nat} : ∀ (f : Nat) (listed : Array Bool) (a : Act) (w : World), wpAnyE P ops n Q S f listed a w → wpAny P .any ops Q f listed a w
  | 0, _, _, _, h => h
  | f + 1, _, _, _, h => ⟨h.1, fun i hi => wpOp_mono (fun a' w' h' => wpAnyE_any f _ a' w' h'.2) (h.2 i hi)⟩

/-- What may be left out of S's keeping: nothing, or the last one, which waits for all others. -/
def sinkOk (ops : Array Oper) (n : Nat) : Bool := n == ops.size || (n + 1 == ops.size && Region.sinkB .any ops n && Region.chainB .any ops n)
def Closed (ops : Array Oper) (listed : Array Bool) : Prop :=
  listed.size = ops.size ∧ ∀ j oj, ops[j]? = some oj → listed.getD j false = true → ∀ e ∈ oj.after, Region.binds .any e = true → listed.getD e.on false = true
theorem Closed.set {i : Nat} {listed : Array Bool} (inv : Closed ops listed) (hi : i ∈ Region.ready .any ops listed) : Closed ops (listed.setIfInBounds i true) := by
  obtain ⟨_, oi, hoi, hall⟩ := mem_ready.1 hi
  refine ⟨by simp [inv.1], fun j oj hj hl e he hb => ?_⟩
  by_cases hij : i = j
  · subst hij
    have : oj = oi := Option.some.inj (hj.symm.trans hoi)
    subst this
    exact getD_set_true (hall e he hb)
  · rw [getD_set_ne false hij] at hl
    exact getD_set_true (inv.2 j oj hj hl e he hb)
/-- While another is to come, n does not come. -/
theorem Closed.notYet {n i j : Nat} {listed : Array Bool} (inv : Closed ops listed) (hs : sinkOk ops n = true) (hi : i < n) (hun : listed.getD i true = false) (hj : j ∈ Region.ready .any ops listed) : j ≠ n := by
  rintro rfl
  obtain ⟨hjun, oj, hoj, _⟩ := mem_ready.1 hj
  have hlt : j < ops.size := (Array.getElem?_eq_some_iff.1 hoj).1
  unfold sinkOk at hs
  simp only [Bool.or_eq_true, Bool.and_eq_true, beq_iff_eq] at hs
  rcases hs with hs | ⟨⟨h1, h2⟩, h3⟩
  · omega
  · have hinv : HeadInv .any ops j listed := ⟨inv.1, inv.2, fun t ht ht' => by
      have : t = j := by omega
      rw [this]; exact hjun⟩
    exact tail_waits h2 h3 hlt hinv _ i rfl hi hun j (Nat.le_refl _) hj

/-- A read may be taken first. -/
theorem wpAnyE_first {n i : Nat} {oi : Oper} {v : Value} (hs : sinkOk ops n = true) (hin : i < n) (hi : ops[i]? = some oi) (hsel : Region.noSelect ops = true) (hQ : ∀ c a d v w, Q (.panic c) (Act.put a d v) w → Q (.panic c) a w) :
    ∀ (f : Nat) (listed : Array Bool) (a : Act) (w : World), Closed ops listed → (∀ j oj, ops[j]? = some oj → j ≠ i → listed.getD j true = false → (∀ e ∈ oj.after, Region.binds .any e = true → e.on ≠ i) → oi.apart ops oj = true) →
      i ∈ Region.ready .any ops listed → YieldsIf P ops S oi v a → S w → wpAnyE P ops n Q S f (listed.setIfInBounds i true) (a.put oi.dst v) w → wpAnyE P ops n Q S (f + 1) listed a w := by
  intro f
  induction f with
  | zero =>
    intro listed a w inv _ hr hy hS H
    refine ⟨fun h => (by rw [h] at hr; cases hr), fun j hj => ?_⟩
    by_cases hji : j = i
    · subst hji
      exact hy.wpOp hi hS ⟨fun _ => hS, H⟩
    · have := ready_mono hj hji
      rw [H.1] at this
      cases this
  | succ f ih =>
    intro listed a w inv hfree hr hy hS H
    refine ⟨fun h => (by rw [h] at hr; cases hr), fun j hj => ?_⟩
    by_cases hji : j = i
    · subst hji
      exact hy.wpOp hi hS ⟨fun _ => hS, H⟩
    · have hun := (mem_ready.1 hr).1
      have hjn : j ≠ n := inv.notYet hs hin hun hj
      have h1 := H.2 j (ready_mono hj hji)
      obtain ⟨hjun, oj, hoj, hall⟩ := mem_ready.1 hj
      have hnot : ∀ e ∈ oj.after, Region.binds .any e = true → e.on ≠ i := fun e he hb heq => by
        have h2 := hall e he hb
        rw [heq, getD_both hun] at h2
        cases h2
      have h2 := wpOp_putIf hoj (hfree j oj hoj hji hjun hnot) (fun cs b => Region.noSelect_spec hsel i oi cs b hi) (fun cs b => Region.noSelect_spec hsel j oj cs b hoj) (fun c a w h => hQ c a _ _ w h) hy h1
      have hri : i ∈ Region.ready .any ops (listed.setIfInBounds j true) := ready_mono hr (Ne.symm hji)
      have hfree' : ∀ k ok, ops[k]? = some ok → k ≠ i → (listed.setIfInBounds j true).getD k true = false → (∀ e ∈ ok.after, Region.binds .any e = true → e.on ≠ i) → oi.apart ops ok = true := fun k ok hk hki hun hno => by
        refine hfree k ok hk hki ?_ hno
        by_cases hjk : j = k
        · subst hjk; exact hjun
        · rw [getD_set_ne true hjk] at hun; exact hun
      refine wpOp_mono (fun a' w' h3 => ?_) h2
      have hSw : S w' := h3.2.1 hjn
      refine ⟨fun _ => hSw, ih (listed.setIfInBounds j true) a' w' (inv.set hj) hfree' hri h3.1 hSw ?_⟩
      rw [Array.setIfInBounds_comm _ _ hji]
      exact h3.2.2

theorem ordB_sub {n i : Nat} {l : Plan} {listed : Array Bool} (inv : Closed ops listed) (hs : sinkOk ops n = true) (hB : ordB ops n l (listed.setIfInBounds n true) = true) (hn : n ∈ Region.ready .any ops listed) : l = .done := by
  have hlt : n < ops.size := by obtain ⟨_, o, ho, _⟩ := mem_ready.1 hn; exact (Array.getElem?_eq_some_iff.1 ho).1
  have key : ∀ k, k ∈ Region.ready .any ops (listed.setIfInBounds n true) → False := by
    intro k hk
    obtain ⟨hku, ok, hok, _⟩ := mem_ready.1 hk
    have hks : k < ops.size := (Array.getElem?_eq_some_iff.1 hok).1
    by_cases hkj : n = k
    · subst hkj
      have hjs : n < listed.size := by rw [inv.1]; exact hks
      simp [hjs] at hku
    · have hss := hs
      unfold sinkOk at hss
      simp only [Bool.or_eq_true, Bool.and_eq_true, beq_iff_eq] at hss
      have hlt : k < n := by
        rcases hss with h9 | ⟨⟨h9, _⟩, _⟩ <;> omega
      have hun : listed.getD k true = false := by rw [getD_set_ne true hkj] at hku; exact hku
      exact absurd rfl (inv.notYet hs hlt hun hn)
  cases l with
  | done => rfl
  | rd k l =>
    simp only [ordB, Bool.and_eq_true] at hB
    exact (key k (by simpa using hB.1.1.2)).elim
  | one k l =>
    simp only [ordB, Bool.and_eq_true, beq_iff_eq] at hB
    exact (key k (by rw [hB.1]; simp)).elim
  | two k l j m =>
    simp only [ordB, Bool.and_eq_true, beq_iff_eq] at hB
    exact (key k (by rw [hB.1.1.1]; simp)).elim

theorem wpOp_ord {i : Nat} {o : Oper} {K : Act → World → Prop} {a : Act} {w : World} (ho : ops[i]? = some o) (h : wpList P ops (ordQ Q K) [o] a w) : wpOp P ops Q i K a w := by
  unfold wpOp
  simp only [ho]
  unfold wpList at h
  split at h
  · rename_i hw
    rw [if_pos hw]
    rcases h with h | ⟨h1, b, u, h3⟩
    · exact .inl (wp_ordQ h)
    · exact .inr ⟨h1, b, u, h3⟩
  · rename_i hw
    rw [if_neg hw]
    exact h

theorem wpAnyE_ord {n : Nat} (hs : sinkOk ops n = true) (hsel : Region.noSelect ops = true) (hQ : ∀ c a d v w, Q (.panic c) (Act.put a d v) w → Q (.panic c) a w) :
    ∀ (l : Plan) (listed : Array Bool) (a : Act) (w : World), Closed ops listed → ordB ops n l listed = true → (l ≠ .done → S w) → wpOrd P ops n S Q l a w → wpAnyE P ops n Q S l.len listed a w
  | .done, listed, a, w, inv, hB, hS, h => ⟨by simpa [ordB] using hB, h⟩
  | .rd i l, listed, a, w, inv, hB, hS, h => by
    obtain ⟨o, v, ho, hy, hr⟩ := h
    simp only [ordB, Bool.and_eq_true, decide_eq_true_eq] at hB
    obtain ⟨⟨⟨h0, h1⟩, h2⟩, h3⟩ := hB
    have hw : S w := hS (by simp)
    have h1' : i ∈ Region.ready .any ops listed := by simpa using h1
    exact wpAnyE_first hs h0 ho hsel hQ l.len listed a w inv (Region.free_spec ho h2) h1' hy hw (wpAnyE_ord hs hsel hQ l _ _ w (inv.set h1') h3 (fun _ => hw) hr)
  | .one i l, listed, a, w, inv, hB, hS, h => by
    obtain ⟨o, ho, h⟩ := h
    simp only [ordB, Bool.and_eq_true, beq_iff_eq] at hB
    have hir : i ∈ Region.ready .any ops listed := by rw [hB.1]; simp
    refine ⟨fun h0 => by (rw [hB.1] at h0; cases h0), fun j hj => ?_⟩
    have hji : j = i := by rw [hB.1] at hj; simpa using hj
    subst hji
    refine wpOp_mono (fun a' w' h' => ⟨h'.1, wpAnyE_ord hs hsel hQ l _ a' w' (inv.set hir) hB.2 (fun hl => h'.1 fun e => ?_) h'.2⟩) (wpOp_ord ho h)
    subst e
    exact hl (ordB_sub (i := j) inv hs hB.2 hir)
  | .two i l j m, listed, a, w, inv, hB, hS, h => by
    obtain ⟨⟨o, ho, h⟩, ⟨o2, ho2, h2⟩⟩ := h
    simp only [ordB, Bool.and_eq_true, beq_iff_eq] at hB
    obtain ⟨⟨⟨hB0, hBl⟩, hB1⟩, hB2⟩ := hB
    have hir : i ∈ Region.ready .any ops listed := by rw [hB0]; simp
    have hjr : j ∈ Region.ready .any ops listed := by rw [hB0]; simp
    refine ⟨fun h0 => by (rw [hB0] at h0; cases h0), fun k hk => ?_⟩
    have hk2 : k = i ∨ k = j := by rw [hB0] at hk; simpa using hk
    rcases hk2 with rfl | rfl
    · refine wpOp_mono (fun a' w' h' => ⟨h'.1, wpAnyE_ord hs hsel hQ l _ a' w' (inv.set hir) hB1 (fun hl => h'.1 fun e => ?_) h'.2⟩) (wpOp_ord ho h)
      subst e
      exact hl (ordB_sub (i := k) inv hs hB1 hir)
    · rw [hBl]
      refine wpOp_mono (fun a' w' h' => ⟨h'.1, wpAnyE_ord hs hsel hQ m _ a' w' (inv.set hjr) hB2 (fun hl => h'.1 fun e => ?_) h'.2⟩) (wpOp_ord ho2 h2)
      subst e
      exact hl (ordB_sub (i := k) inv hs hB2 hjr)

/-- A region that draws its order, in an order of one's own; n: the operation behind which S need not hold (the last one), or their number. -/
theorem wp_region_ord {id : Nat} {a : Act} {w : World} (n : Nat) (l : Plan) (S : World → Prop) (hm : P.follows .mixedOrders = true) (hsel : Region.noSelect ops = true) (hs : sinkOk ops n = true) (hB : ordB ops n l (Array.replicate ops.size false) = true) (hl : l.len = ops.size)
    (hQ : ∀ c a d v w, Q (.panic c) (Act.put a d v) w → Q (.panic c) a w) (hS : S w.drew) (h0 : S w.drew → wpOrd P ops n S Q l a w.drew) : (Code.region id ops true).wp P Q a w := by
  have h := h0 hS
  have inv : Closed ops (Array.replicate ops.size false) := ⟨by simp, fun j oj _ hl => (by rw [getD_replicate_false] at hl; cases hl)⟩
  have := wpAnyE_ord hs hsel hQ l _ a w.drew inv hB (fun _ => hS) h
  rw [hl] at this
  exact wp_region_any hm (wpAnyE_any _ _ _ _ this)

theorem wpOrd_nil {n : Nat} {a : Act} {w : World} (h : Q .normal a w) : wpOrd P ops n S Q .done a w := h

def _root_.Go.Oper.rdK (P : Program) (o : Oper) (a : Act) (w : World) (K : Act → Prop) : Prop :=
  match (execOp a.eval o).run P w with
  | .ok (.value v) w' => w' = w ∧ K (a.put o.dst v)
  | _ => False

theorem put_inj {a : Act} {d : Tmp} {v v' : Value} (hd : d < a.tmps.size) (h : a.put (some d) v = a.put (some d) v') : v = v' := by
  have := congrArg (fun b : Act => b.tmps[d]?) h
  simpa [Act.put, hd] using this

/-- A read. -/
theorem wpOrd_rd {n i : Nat} {l : Plan} {a A : Act} {w : World} {o : Oper} {d : Tmp} (ho : ops[i]? = some o) (hd : o.dst = some d) (hlt : d < a.tmps.size) (hS : S w)
    (h : ∀ w', S w' → ∀ K : Act → Prop, K A → if Region.wanted o (yielded ops a.tmps) then o.rdK P a w' K else K (a.put o.dst undef)) (hK : wpOrd P ops n S Q l A w) : wpOrd P ops n S Q (.rd i l) a w := by
  by_cases hw : Region.wanted o (yielded ops a.tmps) = true
  · have key : ∀ w', S w' → ∃ v, (execOp a.eval o).run P w' = .ok (.value v) w' ∧ a.put o.dst v = A := by
      intro w' hw'
      have := h w' hw' (fun b => b = A) rfl
      rw [if_pos hw] at this
      unfold Oper.rdK at this
      split at this
      · rename_i v w'' he
        obtain ⟨rfl, h2⟩ := this
        exact ⟨v, he, h2⟩
      · exact this.elim
    obtain ⟨v, h1, h2⟩ := key w hS
    refine ⟨o, v, ho, .inl ⟨hw, fun w' hw' => ?_⟩, by rw [h2]; exact hK⟩
    obtain ⟨v', h3, h4⟩ := key w' hw'
    have : v' = v := by
      rw [← h2, hd] at h4
      exact put_inj hlt h4
    rw [← this]; exact h3
  · have := h w hS (fun b => b = A) rfl
    rw [if_neg hw] at this
    exact ⟨o, undef, ho, .inr ⟨by simpa using hw, rfl⟩, by rw [this]; exact hK⟩

/-- What is no read. -/
theorem wpOrd_do {n i : Nat} {l : Plan} {a : Act} {w : World} {o : Oper} (ho : ops[i]? = some o)
    (h : wpList P ops (ordQ Q (fun a' w' => (i ≠ n → S w') ∧ wpOrd P ops n S Q l a' w')) [o] a w) : wpOrd P ops n S Q (.one i l) a w := ⟨o, ho, h⟩
theorem wpOrd_two {n i j : Nat} {l m : Plan} {a : Act} {w : World} {o o2 : Oper} (ho : ops[i]? = some o) (ho2 : ops[j]? = some o2)
    (h : wpList P ops (ordQ Q (fun a' w' => (i ≠ n → S w') ∧ wpOrd P ops n S Q l a' w')) [o] a w) (h2 : wpList P ops (ordQ Q (fun a' w' => (j ≠ n → S w') ∧ wpOrd P ops n S Q m a' w')) [o2] a w) : wpOrd P ops n S Q (.two i l j m) a w := ⟨⟨o, ho, h⟩, ⟨o2, ho2, h2⟩⟩
theorem wpOrd_done {n i : Nat} {l : Plan} {a : Act} {w : World} (hS : S w) (h : S w → wpOrd P ops n S Q l a w) : wpList P ops (ordQ Q (fun a' w' => (i ≠ n → S w') ∧ wpOrd P ops n S Q l a' w')) [] a w := ⟨fun _ => hS, h hS⟩
theorem wpOrd_last {n : Nat} {l : Plan} {a : Act} {w : World} (h : wpOrd P ops n S Q l a w) : wpList P ops (ordQ Q (fun a' w' => (n ≠ n → S w') ∧ wpOrd P ops n S Q l a' w')) [] a w := ⟨fun e => absurd rfl e, h⟩
end

/-- What may be read in w reads alike in w'. -/
def Same (W : World) (w' : World) : Prop := ∀ p, (W.cell? p).isSome = true → w'.cell? p = W.cell? p
theorem Same.of {W w' : World} (h : Chg NoB W w') : Same W w' := sameC h
end Go.Proofs.Ytghklbflbodajaa

namespace Go.Proofs.Ytghklbflbodajaa
open Go.RowKit Go.ChangeMaps Go.MapKept
set_option linter.unusedVariables false
set_option linter.unusedSimpArgs false
set_option linter.unnecessarySimpa false

def setL (c : Array Value) : Nat → List Value → Array Value
  | _, [] => c
  | o, v :: r => setL (c.setIfInBounds o v) (o + 1) r
theorem setL_size : ∀ (vs : List Value) (o : Nat) (c : Array Value), (setL c o vs).size = c.size
  | [], _, _ => rfl
  | v :: r, o, c => by rw [setL, setL_size r]; simp
theorem setL_list : ∀ (vs : List Value) (o : Nat) (c : Array Value), o + vs.length ≤ c.size → (setL c o vs).toList = c.toList.take o ++ vs ++ c.toList.drop (o + vs.length)
  | [], o, c, h => by simp [setL]
  | v :: r, o, c, h => by
    simp only [List.length_cons] at h
    rw [setL, setL_list r _ _ (by simp; omega)]
    have ho : o < c.toList.length := by simp; omega
    simp only [Array.toList_setIfInBounds, List.length_cons]
    rw [List.take_set, List.drop_set_of_lt (by omega)]
    have e1 : (c.toList.take (o + 1)).set o v = c.toList.take o ++ [v] := by
      rw [List.take_succ_eq_append_getElem ho, List.set_append_right _ _ (by simp; omega)]
      have : o - (c.toList.take o).length = 0 := by simp at ho; simp; omega
      rw [this]; rfl
    rw [e1]
    simp only [List.append_assoc, List.cons_append, List.nil_append, show o + 1 + r.length = o + (r.length + 1) by omega]
theorem setCells_blk {g : Nat} {t : TypeId} {f : Nat × Nat} : ∀ (vs : List Value) (o : Nat) (w : World) (c : Array Value), w.heap[g]? = some (.cells c t f) → (w.setCells g o vs).heap[g]? = some (.cells (setL c o vs) t f)
  | [], _, _, _, h => h
  | v :: r, o, w, c, h => setCells_blk r (o + 1) _ _ (blk_setCell h o v)
theorem setCells_size {g : Nat} : ∀ (vs : List Value) (o : Nat) (w : World), (w.setCells g o vs).heap.size = w.heap.size
  | [], _, _ => rfl
  | v :: r, o, w => by rw [World.setCells, setCells_size r]; simp [World.setCell]
theorem Chg.setCells {S : Nat → Prop} {a : World} {g : Nat} : ∀ (vs : List Value) (o : Nat) (w : World), Chg S a w → (S g ∨ a.heap.size ≤ g) → Chg S a (w.setCells g o vs)
  | [], _, _, h, _ => h
  | v :: r, o, w, h, hs => Chg.setCells r (o + 1) _ (h.setCell (p := ⟨g, o, none⟩) hs v) hs

/-- A slice at the head of a block of one's own, of which more may lie behind. -/
def OwW (w : World) (e : TypeId) (size : Nat) (v : Value) (n : Nat) (xs : List Value) : Prop :=
  xs.length = n * size ∧ ((v = .slice none 0 0 ∧ n = 0) ∨ ∃ g cap cur, v = .slice (some ⟨g, 0, none⟩) n cap ∧ w.heap[g]? = some (.cells cur e (0, 0)) ∧ n ≤ cap ∧ cap ≤ maxLen ∧ cap * size ≤ cur.size ∧ cur.toList.take (n * size) = xs)

section
variable {P : Program} {w w' : World} {ops : Array Oper} {rest : List Oper} {o : Oper} {a : Act} {Q : Exit → Act → World → Prop} {e : TypeId} {size n : Nat} {v : Value} {xs : List Value}
theorem OwW.nil : OwW w e size (.slice none 0 0) 0 [] := ⟨by simp, .inl ⟨rfl, rfl⟩⟩
theorem OwW.of_own {base : Nat} (h : w.ownsRow base e size v n xs) : OwW w e size v n xs := by
  refine ⟨h.1, ?_⟩
  rcases h.2 with h1 | ⟨g, cap, cur, h1, h2, h3, h4, h5, h6, h7⟩
  · exact .inl h1
  · exact .inr ⟨g, cap, cur, h1, h3, h4, h5, by omega, h7⟩
theorem OwW.keep {S : Nat → Prop} (h : OwW w e size v n xs) (hc : Chg S w w') (hs : ∀ k, OwnB v k → ¬ S k) : OwW w' e size v n xs := by
  refine ⟨h.1, ?_⟩
  rcases h.2 with h1 | ⟨g, cap, cur, rfl, h3, h4⟩
  · exact .inl h1
  · exact .inr ⟨g, cap, cur, rfl, hc.heap h3 (hs g (by simp [OwnB, Value.ownBlock])), h4⟩
theorem OwW.lt (h : OwW w e size v n xs) {k : Nat} (hk : OwnB v k) : k < w.heap.size := by
  rcases h.2 with ⟨rfl, _⟩ | ⟨g, cap, cur, rfl, h3, h4⟩
  · simp [OwnB, Value.ownBlock] at hk
  · simp [OwnB, Value.ownBlock] at hk
    subst hk
    exact lt_of_block h3
theorem OwW.form (h : OwW w e size v n xs) : ∃ ao c, v = .slice ao n c ∧ n ≤ c ∧ n ≤ maxLen ∧ c ≤ maxLen := by
  rcases h.2 with ⟨rfl, rfl⟩ | ⟨g, cap, cur, rfl, h3, h4, h5, h6⟩
  · exact ⟨_, _, rfl, Nat.le_refl _, by simp, by simp [maxLen]⟩
  · exact ⟨_, _, rfl, h4, Nat.le_trans h4 h5, h5⟩
/-- A cell of an element. -/
theorem OwW.cell {α : Type} {enc : α → List Value} (he : ∀ x, (enc x).length = size) {l : List α} (h : OwW w e size v l.length (l.flatMap enc)) {i : Nat} {x : α} (hi : l[i]? = some x) :
    ∃ g cap, v = .slice (some ⟨g, 0, none⟩) l.length cap ∧ l.length ≤ cap ∧ ∀ j u, (enc x)[j]? = some u → w.cell? ⟨g, i * size + j, none⟩ = some u := by
  rcases h.2 with ⟨rfl, h0⟩ | ⟨g, cap, cur, rfl, h3, h4, h5, h6, h7⟩
  · have := (List.getElem?_eq_some_iff.1 hi).1; omega
  · refine ⟨g, cap, rfl, h4, fun j u hu => ?_⟩
    have h8 := flatMap_get he hi hu
    rw [← h7, List.getElem?_take] at h8
    split at h8
    · rw [cell_blk h3]; simpa using h8
    · cases h8
/-- .. cut short: x[:n:n] -/
theorem OwW.cut {g cap : Nat} (h : OwW w e size (.slice (some ⟨g, 0, none⟩) n cap) n xs) (m : Nat) (hm : m ≤ n) : OwW w e size (.slice (some ⟨g, 0, none⟩) m m) m (xs.take (m * size)) := by
  have hms : m * size ≤ n * size := Nat.mul_le_mul_right _ hm
  refine ⟨by rw [List.length_take, h.1]; omega, ?_⟩
  rcases h.2 with ⟨h1, _⟩ | ⟨g', cap', cur, h1, h3, h4, h5, h6, h7⟩
  · cases h1
  · cases h1
    have : m * size ≤ cap * size := Nat.mul_le_mul_right _ (by omega)
    exact .inr ⟨g, m, cur, rfl, h3, Nat.le_refl _, by omega, by omega, by rw [← h7, List.take_take, Nat.min_eq_left hms]⟩

/-- append of m elements that lie at ad, none of which lie in the block itself. -/
theorem step_appW {t : TypeId} {z : Value} {bytes : Nat} (T : SlT P t e z size bytes) (hg : o.guard = none) (s x : Operand) (hop : o.op = .call { callee := .builtin .append, args := #[s, x], argTypes := #[t, t] })
    (hown : OwW w e size v n xs) (hs : a.eval s = v)
    (ad : Addr) (m c : Nat) (news : List Value) (hx : a.eval x = .slice (some ad) m c) (hl : news.length = m * size) (hnews : ∀ j u, news[j]? = some u → w.cell? (ad.add j) = some u) (h1 : ∀ u ∈ news, u.oneCell' = true)
    (hn : (n + m) * bytes ≤ 140737488355328) (hn2 : n + m ≤ maxLen)
    (hK : ∀ v' w', OwW w' e size v' (n + m) (xs ++ news) → Chg (OwnB v) w w' → (∀ i, OwnB v' i → OwnB v i ∨ w.heap.size ≤ i) → wpList P ops Q rest (a.put o.dst v') w') : wpList P ops Q (o :: rest) a w := by
  obtain ⟨i, hi, hz0, hz1, hz2⟩ := info_parts T.inf
  rcases hown.2 with ⟨rfl, rfl⟩ | ⟨g, cap, cur, rfl, h3, h4, h5, h6, h7⟩
  · have hx0 : xs = [] := List.eq_nil_of_length_eq_zero (by simpa using hown.1)
    subst hx0
    exact step_app T hg s x hop (World.ownsRow_nil w w.heap.size e size) hs ad m c news hx hl hnews h1 hn hn2 (Nat.le_refl _) fun v' w' g1 g2 g3 g4 => hK v' w' (OwW.of_own g1) g2 g3
  · have hcell : ∀ j, j < cur.size → (w.cell? ⟨g, j, none⟩).isSome = true := fun j hj => by rw [cell_blk h3]; simp [hj]
    have hfit : n + m ≤ cap → n * size + news.length ≤ cur.size := fun h => by
      have : (n + m) * size ≤ cap * size := Nat.mul_le_mul_right _ h
      rw [hl, ← Nat.add_mul]; omega
    refine wpList_append_arg w hg s x t hop e i z size bytes T.und hi hz0 hz1 hz2 T.zs T.pos g 0 n cap xs hs hown.1 (fun j u hu => ?_) ad m c news hx hl hnews h1 (fun hr j hj => ?_) hn2 hn (fun hr => ?_) (fun hr v' w' g1 g2 => ?_)
    · rw [Nat.zero_add, cell_blk h3]
      rw [← h7, List.getElem?_take] at hu
      split at hu
      · simpa using hu
      · cases hu
    · have := hfit hr
      exact ⟨by rw [Nat.zero_add]; exact hcell _ (by omega), frozen_blk h3 _⟩
    · have hf := hfit hr
      rw [Nat.zero_add]
      have hb := setCells_blk news (n * size) w cur h3
      refine hK _ _ ⟨by rw [List.length_append, hown.1, hl, Nat.add_mul], .inr ⟨g, cap, _, rfl, hb, hr, h5, by rw [setL_size]; exact h6, ?_⟩⟩ (Chg.setCells news _ w (Chg.refl _ _) (.inl (by simp [OwnB, Value.ownBlock]))) (fun k hk => .inl (by simpa [OwnB, Value.ownBlock] using hk))
      rw [setL_list news _ _ hf, h7]
      have : (n + m) * size = (xs ++ news).length := by rw [List.length_append, hown.1, hl, Nat.add_mul]
      rw [this, List.take_left']
      rfl
    · exact hK _ _ (OwW.of_own g1) (Chg.of_grown g2 fun k hk => by cases hk) (fun k hk => .inr (OwnB.ge g1 k hk).1)
end
end Go.Proofs.Ytghklbflbodajaa
