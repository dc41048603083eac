import Derived.Test.YtmikbjlgcndmeaaTbw
import Derived.Test.YtmikbjlgcndmeaaOpen
namespace Go.Proofs.Ytmikbjlgcndmeaa
open Go.RowKit Go.ChangeMaps
set_option linter.unusedVariables false
set_option linter.unusedSimpArgs false
set_option linter.unnecessarySimpa false

/-- An operation of the script. -/
structure TOp where
  kind : Int
  txn : Int
  n : Int
def encTOp (x : TOp) : List Value := [.int .i64 x.kind, .int .i64 x.txn, .int .i64 x.n]
def wfI (x : Int) : Prop := -9223372036854775808 ≤ x ∧ x ≤ 9223372036854775807
theorem wfI_of {x : Int} (h : (Lit.int .i64 x).wf = true) : wfI x := by
  simp [Lit.wf, IntKind.min, IntKind.max, IntKind.signed, IntKind.bits] at h
  unfold wfI
  omega
def TOpR (x : TOp) (cs : List Value) : Prop := cs = encTOp x ∧ wfI x.n

set_option maxRecDepth 100000 in
theorem opens_top (w : World) : Opens Try.prog w 41 TOpR := by
  intro H enc held fuel cs y h
  obtain ⟨xs, n, rfl, _, hl, hx, hf⟩ := DataW.trod_struct Try.underlying41 h
  have c4 : Try.prog.cellsOf 41 = 3 := by kernel_rfl
  have c1 : Try.prog.cellsOf 3 = 1 := by kernel_rfl
  rw [c4] at hl
  match cs, hl with
  | [x0, x1, x2], _ =>
    have f0 := hf 0 _ rfl
    have f1 := hf 1 _ rfl
    have f2 := hf 2 _ rfl
    obtain ⟨y0, g0⟩ := fld (m := 3) hx (by omega) f0
    obtain ⟨y1, g1⟩ := fld (m := 3) hx (by omega) f1
    obtain ⟨y2, g2⟩ := fld (m := 3) hx (by omega) f2
    obtain ⟨n0, e0, _⟩ := opens_int (w := w) Try.underlying3 _ _ _ _ _ g0
    obtain ⟨n1, e1, _⟩ := opens_int (w := w) Try.underlying3 _ _ _ _ _ g1
    obtain ⟨n2, e2, k2⟩ := opens_int (w := w) Try.underlying3 _ _ _ _ _ g2
    simp [c1] at e0 e1 e2
    subst e0 e1 e2
    exact ⟨⟨n0, n1, n2⟩, rfl, wfI_of k2⟩

theorem opens_tops (w : World) : Opens Try.prog w 35 (fun (l : List TOp) cs => ∃ v, cs = [v] ∧ RdR w 3 TOpR v l) :=
  opens_slice Try.underlying35 (by kernel_rfl) (by omega) (opens_top w)

/-- The cells of element k, in a later world. -/
theorem top_at {w wr : World} {a : Option Addr} {l : List TOp} (h : ∀ i x, l[i]? = some x → ∃ cs b off, TOpR x cs ∧ cs.length = 3 ∧ a = some ⟨b, off, none⟩ ∧ ∀ j u, cs[j]? = some u → w.cell? ⟨b, off + i * 3 + j, none⟩ = some u) (hc : Chg NoB w wr) (k : Nat) (hk : k < l.length) :
    ∃ x b off, Hid (l[k] = x) ∧ wfI x.n ∧ a = some ⟨b, off, none⟩ ∧ wr.cell? ⟨b, off + k * 3, none⟩ = some (.int .i64 x.kind) ∧ wr.cell? ⟨b, off + k * 3 + 1, none⟩ = some (.int .i64 x.txn) ∧ wr.cell? ⟨b, off + k * 3 + 2, none⟩ = some (.int .i64 x.n) := by
  obtain ⟨cs, b, off, ⟨rfl, hn⟩, _, ha, h2⟩ := h k _ (List.getElem?_eq_getElem hk)
  have g : ∀ j u, (encTOp l[k])[j]? = some u → wr.cell? ⟨b, off + k * 3 + j, none⟩ = some u := fun j u hu => hc.cell (h2 j u hu) (fun e => e)
  exact ⟨l[k], b, off, rfl, hn, ha, g 0 _ rfl, g 1 _ rfl, g 2 _ rfl⟩

/-- What every table keeps. -/
def tOk (T : TTab) : Prop := (T.map (·.txn)).Nodup ∧ T.length ≤ 4 ∧ ∀ s ∈ T, 1 ≤ s.txn ∧ s.txn ≤ 2147483647 ∧ 0 ≤ s.left ∧ s.left ≤ 1048576
theorem TB.ok {w0 w : World} {p : Nat} {T : TTab} (h : TB w0 w p T) : tOk T := by
  obtain ⟨⟨r, E, rfl, h2, h3⟩, h4⟩ := h
  refine ⟨by have := h2.nodup; simpa [List.map_map, Function.comp_def] using this, by simpa using h2.few, ?_⟩
  intro s hs
  obtain ⟨e, he, rfl⟩ := List.mem_map.1 hs
  obtain ⟨f1, f2, f3, f4, _⟩ := h2.fit e he
  exact ⟨f1, f2, f3, f4⟩
end Go.Proofs.Ytmikbjlgcndmeaa
