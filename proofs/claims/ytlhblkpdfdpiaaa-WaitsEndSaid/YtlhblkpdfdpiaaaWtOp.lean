import Derived.Test.YtlhblkpdfdpiaaaWtG
import Derived.Test.YtlhblkpdfdpiaaaOpen
import Derived.OpenShut
namespace Go.Proofs.Ytlhblkpdfdpiaaa.Wt
open Go.RowKit Go.ChangeMaps
set_option linter.unusedVariables false
set_option linter.unusedSimpArgs false
set_option linter.unnecessarySimpa false

def wf64 (x : Int) : Prop := (Lit.int .i64 x).wf = true
set_option maxRecDepth 100000 in
theorem opens_edge (w : World) : Opens Try.prog w 50 (fun (x : Int × Int) cs => cs = encE x ∧ wf64 x.1 ∧ wf64 x.2) := by
  intro H enc held fuel cs y h
  obtain ⟨xs, n, rfl, _, hl, hx, hf⟩ := DataW.trod_array Try.underlying50 h
  have c4 : Try.prog.cellsOf 50 = 2 := by kernel_rfl
  have c1 : Try.prog.cellsOf 3 = 1 := by kernel_rfl
  rw [c4] at hl
  match cs, hl with
  | [x0, x1], _ =>
    have f0 := hf 0 (by omega)
    have f1 := hf 1 (by omega)
    obtain ⟨y0, g0⟩ := fld (m := 2) hx (by omega) f0
    obtain ⟨y1, g1⟩ := fld (m := 2) hx (by omega) f1
    obtain ⟨n0, e0, k0⟩ := opens_int (w := w) Try.underlying3 _ _ _ _ _ g0
    obtain ⟨n1, e1, k1⟩ := opens_int (w := w) Try.underlying3 _ _ _ _ _ g1
    simp [c1] at e0 e1
    subst e0 e1
    exact ⟨(n0, n1), rfl, k0, k1⟩
theorem opens_edges (w : World) : Opens Try.prog w 22 (fun (l : Edges) cs => ∃ v, cs = [v] ∧ RdR w 2 (fun x cs => cs = encE x ∧ wf64 x.1 ∧ wf64 x.2) v l) :=
  opens_slice Try.underlying22 (by kernel_rfl) (by omega) (opens_edge w)
theorem EdW.of {e : Edges} (h : ∀ x ∈ e, wf64 x.1 ∧ wf64 x.2) : ∀ z ∈ nm e, (Lit.int .i64 z).wf = true := fun z hz => by
  obtain ⟨p, hp, hz⟩ := nm_mem.1 hz
  rcases hz with rfl | rfl
  · exact (h p hp).1
  · exact (h p hp).2
theorem RdE.rd {w : World} {v : Value} {l : Edges} (h : RdR w 2 (fun x cs => cs = encE x ∧ wf64 x.1 ∧ wf64 x.2) v l) : Rd w 2 encE v l ∧ ∀ x ∈ l, wf64 x.1 ∧ wf64 x.2 := by
  obtain ⟨a, c, h1, h2, h3, h4⟩ := h
  refine ⟨⟨a, c, h1, h2, h3, fun i x hi => by obtain ⟨cs, b, off, ⟨rfl, _⟩, _, ha, hc⟩ := h4 i x hi; exact ⟨b, off, ha, hc⟩⟩, fun x hx => ?_⟩
  obtain ⟨i, hi⟩ := List.getElem?_of_mem hx
  obtain ⟨cs, b, off, ⟨rfl, h⟩, _⟩ := h4 i x hi
  exact h

/-- What is taken: who, which page, how. -/
structure Trip where
  txn : Int
  page : Int
  mode : Int
def encT (x : Trip) : List Value := [.int .i64 x.txn, .int .i64 x.page, .int .i64 x.mode]
set_option maxRecDepth 100000 in
theorem opens_trip (w : World) : Opens Try.prog w 44 (fun (x : Trip) cs => cs = encT x) := by
  intro H enc held fuel cs y h
  obtain ⟨xs, n, rfl, _, hl, hx, hf⟩ := DataW.trod_array Try.underlying44 h
  have c4 : Try.prog.cellsOf 44 = 3 := by kernel_rfl
  have c1 : Try.prog.cellsOf 3 = 1 := by kernel_rfl
  rw [c4] at hl
  match cs, hl with
  | [x0, x1, x2], _ =>
    have f0 := hf 0 (by omega)
    have f1 := hf 1 (by omega)
    have f2 := hf 2 (by omega)
    obtain ⟨y0, g0⟩ := fld (m := 3) hx (by omega) f0
    obtain ⟨y1, g1⟩ := fld (m := 3) hx (by omega) f1
    obtain ⟨y2, g2⟩ := fld (m := 3) hx (by omega) f2
    obtain ⟨n0, e0, k0⟩ := opens_int (w := w) Try.underlying3 _ _ _ _ _ g0
    obtain ⟨n1, e1, k1⟩ := opens_int (w := w) Try.underlying3 _ _ _ _ _ g1
    obtain ⟨n2, e2, k2⟩ := opens_int (w := w) Try.underlying3 _ _ _ _ _ g2
    simp [c1] at e0 e1 e2
    subst e0 e1 e2
    exact ⟨⟨n0, n1, n2⟩, rfl⟩
theorem opens_trips (w : World) : Opens Try.prog w 33 (fun (l : List Trip) cs => ∃ v, cs = [v] ∧ RdR w 3 (fun x cs => cs = encT x) v l) :=
  opens_slice Try.underlying33 (by kernel_rfl) (by omega) (opens_trip w)
set_option maxRecDepth 100000 in
theorem opens_aop (w : World) : Opens Try.prog w 37 (fun (x : Int × Int × Int) cs => ∃ x3 x4 x5 x6 x7, cs = [.int .i64 x.1, .int .i64 x.2.1, .int .i64 x.2.2, x3, x4, x5, x6, x7]) := by
  intro H enc held fuel cs y h
  obtain ⟨xs, n, rfl, _, hl, hx, hf⟩ := DataW.trod_struct Try.underlying37 h
  have c4 : Try.prog.cellsOf 37 = 8 := by kernel_rfl
  have c1 : Try.prog.cellsOf 3 = 1 := by kernel_rfl
  rw [c4] at hl
  match cs, hl with
  | [x0, x1, x2, x3, x4, x5, x6, x7], _ =>
    have f0 := hf 0 _ rfl
    have f1 := hf 1 _ rfl
    have f2 := hf 2 _ rfl
    obtain ⟨y0, g0⟩ := fld (m := 8) hx (by omega) f0
    obtain ⟨y1, g1⟩ := fld (m := 8) hx (by omega) f1
    obtain ⟨y2, g2⟩ := fld (m := 8) hx (by omega) f2
    obtain ⟨n0, e0, _⟩ := opens_int (w := w) Try.underlying3 _ _ _ _ _ g0
    obtain ⟨n1, e1, _⟩ := opens_int (w := w) Try.underlying3 _ _ _ _ _ g1
    obtain ⟨n2, e2, _⟩ := opens_int (w := w) Try.underlying3 _ _ _ _ _ g2
    simp [c1] at e0 e1 e2
    subst e0 e1 e2
    exact ⟨(n0, n1, n2), _, _, _, _, _, rfl⟩
end Go.Proofs.Ytlhblkpdfdpiaaa.Wt
