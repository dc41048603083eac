import Derived.Test.YtobmaipjbepphaaProg
import Derived.Test.YtobmaipjbepphaaOpen
namespace Go.Proofs.Ytobmaipjbepphaa
open Go.RowKit Go.ChangeMaps
set_option linter.unusedVariables false

/-- The integers fit. -/
def fits (x : Int) : Prop := -9223372036854775808 ≤ x ∧ x < 9223372036854775808
theorem fits_of {x : Int} (h : (Lit.int .i64 x).wf = true) : fits x := by
  simp [Lit.wf, IntKind.min, IntKind.max, IntKind.signed, IntKind.bits] at h
  unfold fits
  omega

/-- A record of the log. -/
structure Rec where
  kind : Int
  txn : Int
  page : Int
  off : Int
  prev : Int
  next : Int
  beg : Int
  before : ByteArray
  after : ByteArray
  txns : List (Int × Int × Int)
  pages : List (Int × Int)
deriving DecidableEq
/-- A record, and where it stands. -/
structure Ent where
  at_ : Int
  r : Rec

def encTx (x : Int × Int × Int) : List Value := [.int .i64 x.1, .int .i64 x.2.1, .int .i64 x.2.2]
def encPg (x : Int × Int) : List Value := [.int .i64 x.1, .int .i64 x.2]

/-- The cells of a record. -/
def Rec.cs (r : Rec) (v1 v2 : Value) : List Value := [.int .i64 r.kind, .int .i64 r.txn, .int .i64 r.page, .int .i64 r.off, .int .i64 r.prev, .int .i64 r.next, .int .i64 r.beg, .string r.before, .string r.after, v1, v2]
/-- Its value. -/
def Rec.val (r : Rec) (v1 v2 : Value) : Value := .agg #[.int .i64 r.kind, .int .i64 r.txn, .int .i64 r.page, .int .i64 r.off, .int .i64 r.prev, .int .i64 r.next, .int .i64 r.beg, .string r.before, .string r.after, v1, v2]

/-- Its numbers fit; its texts are not too long. -/
def Rec.ok (r : Rec) : Prop :=
  fits r.kind ∧ fits r.txn ∧ fits r.page ∧ fits r.off ∧ fits r.prev ∧ fits r.next ∧ fits r.beg ∧ r.before.size ≤ maxLen ∧ r.after.size ≤ maxLen ∧ (∀ x ∈ r.txns, fits x.1) ∧ (∀ x ∈ r.pages, fits x.1)

/-- The two tables of a record. -/
def Tabs (w : World) (r : Rec) (v1 v2 : Value) : Prop := Rd w 3 encTx v1 r.txns ∧ Rd w 2 encPg v2 r.pages

def RecAt (w : World) (r : Rec) (cs : List Value) : Prop := ∃ v1 v2, cs = r.cs v1 v2 ∧ Tabs w r v1 v2 ∧ r.ok
def EntAt (w : World) (x : Ent) (cs : List Value) : Prop := ∃ v1 v2, cs = .int .i64 x.at_ :: x.r.cs v1 v2 ∧ Tabs w x.r v1 v2 ∧ x.r.ok ∧ fits x.at_

theorem RdR.mono {α : Type} {w w' : World} {size : Nat} {R R' : α → List Value → Prop} {v : Value} {l : List α} (h : RdR w size R v l) (hc : Chg NoB w w') (hr : ∀ x cs, R x cs → R' x cs) : RdR w' size R' v l := by
  obtain ⟨a, c, h1, h2, h3, h4⟩ := h
  refine ⟨a, c, h1, h2, h3, fun i x hi => ?_⟩
  obtain ⟨cs, b, off, h5, h6, h7, h8⟩ := h4 i x hi
  exact ⟨cs, b, off, hr _ _ h5, h6, h7, fun j u hu => hc.cell (h8 j u hu) (fun e => e)⟩
theorem Rd.mono {α : Type} {w w' : World} {size : Nat} {enc : α → List Value} {v : Value} {l : List α} (h : Rd w size enc v l) (hc : Chg NoB w w') : Rd w' size enc v l :=
  h.keep hc (fun _ _ _ e => e)
theorem Tabs.mono {w w' : World} {r : Rec} {v1 v2 : Value} (h : Tabs w r v1 v2) (hc : Chg NoB w w') : Tabs w' r v1 v2 := ⟨h.1.mono hc, h.2.mono hc⟩
theorem EntAt.mono {w w' : World} {x : Ent} {cs : List Value} (h : EntAt w x cs) (hc : Chg NoB w w') : EntAt w' x cs := by
  obtain ⟨v1, v2, h1, h2, h3⟩ := h; exact ⟨v1, v2, h1, h2.mono hc, h3⟩

/-- A list of entries. -/
def Ents (w : World) (v : Value) (l : List Ent) : Prop := RdR w 12 (EntAt w) v l
theorem Ents.mono {w w' : World} {v : Value} {l : List Ent} (h : Ents w v l) (hc : Chg NoB w w') : Ents w' v l := RdR.mono h hc fun _ _ h => h.mono hc

theorem opens_rows {w : World} {α : Type} {t : TypeId} {enc : α → List Value} (h : Opens Try.prog w t (fun (x : α) cs => cs = enc x)) : Opens Try.prog w t (fun (x : α) cs => cs = enc x) := h

theorem RdR.rd' {α : Type} {w : World} {size : Nat} {enc : α → List Value} {p : α → Prop} {v : Value} {l : List α} (h : RdR w size (fun x cs => cs = enc x ∧ p x) v l) : Rd w size enc v l ∧ ∀ x ∈ l, p x := by
  obtain ⟨a, c, h1, h2, h3, h4⟩ := h
  refine ⟨⟨a, c, h1, h2, h3, fun i x hi => by obtain ⟨cs, b, off, ⟨rfl, _⟩, _, ha, hc⟩ := h4 i x hi; exact ⟨b, off, ha, hc⟩⟩, fun x hx => ?_⟩
  obtain ⟨i, hi⟩ := List.getElem?_of_mem hx
  obtain ⟨cs, b, off, ⟨_, h5⟩, _⟩ := h4 i x hi
  exact h5

set_option maxRecDepth 100000 in
theorem opens_txn (w : World) : Opens Try.prog w 38 (fun (x : Int × Int × Int) cs => cs = encTx x ∧ fits x.1) := by
  intro H enc held fuel cs y h
  obtain ⟨xs, n, rfl, _, hl, hx, hf⟩ := DataW.trod_struct Try.underlying38 h
  have c4 : Try.prog.cellsOf 38 = 3 := by kernel_rfl
  have c1 : Try.prog.cellsOf 3 = 1 := by kernel_rfl
  rw [c4] at hl
  match cs, hl with
  | [x0, x1, x2], _ =>
    have f0 := hf 0 _ rfl
    have f1 := hf 1 _ rfl
    have f2 := hf 2 _ rfl
    obtain ⟨y0, g0⟩ := fld (m := 3) hx (by omega) f0
    obtain ⟨y1, g1⟩ := fld (m := 3) hx (by omega) f1
    obtain ⟨y2, g2⟩ := fld (m := 3) hx (by omega) f2
    obtain ⟨n0, e0, k0⟩ := opens_int (w := w) Try.underlying3 _ _ _ _ _ g0
    obtain ⟨n1, e1, _⟩ := opens_int (w := w) Try.underlying3 _ _ _ _ _ g1
    obtain ⟨n2, e2, _⟩ := opens_int (w := w) Try.underlying3 _ _ _ _ _ g2
    simp [c1] at e0 e1 e2
    subst e0 e1 e2
    exact ⟨⟨n0, n1, n2⟩, rfl, fits_of k0⟩

set_option maxRecDepth 100000 in
theorem opens_page (w : World) : Opens Try.prog w 73 (fun (x : Int × Int) cs => cs = encPg x ∧ fits x.1) := by
  intro H enc held fuel cs y h
  obtain ⟨xs, n, rfl, _, hl, hx, hf⟩ := DataW.trod_struct Try.underlying73 h
  have c4 : Try.prog.cellsOf 73 = 2 := by kernel_rfl
  have c1 : Try.prog.cellsOf 3 = 1 := by kernel_rfl
  rw [c4] at hl
  match cs, hl with
  | [x0, x1], _ =>
    have f0 := hf 0 _ rfl
    have f1 := hf 1 _ rfl
    obtain ⟨y0, g0⟩ := fld (m := 2) hx (by omega) f0
    obtain ⟨y1, g1⟩ := fld (m := 2) hx (by omega) f1
    obtain ⟨n0, e0, k0⟩ := opens_int (w := w) Try.underlying3 _ _ _ _ _ g0
    obtain ⟨n1, e1, _⟩ := opens_int (w := w) Try.underlying3 _ _ _ _ _ g1
    simp [c1] at e0 e1
    subst e0 e1
    exact ⟨⟨n0, n1⟩, rfl, fits_of k0⟩

set_option maxRecDepth 100000 in
theorem opens_rec (w : World) : Opens Try.prog w 30 (RecAt w) := by
  intro H enc held fuel cs y h
  obtain ⟨xs, n, rfl, _, hl, hx, hf⟩ := DataW.trod_struct Try.underlying30 h
  have c4 : Try.prog.cellsOf 30 = 11 := by kernel_rfl
  have c1 : Try.prog.cellsOf 3 = 1 := by kernel_rfl
  have c2 : Try.prog.cellsOf 9 = 1 := by kernel_rfl
  have c5 : Try.prog.cellsOf 27 = 1 := by kernel_rfl
  have c6 : Try.prog.cellsOf 28 = 1 := by kernel_rfl
  rw [c4] at hl
  match cs, hl with
  | [x0, x1, x2, x3, x4, x5, x6, x7, x8, x9, x10], _ =>
    have f0 := hf 0 _ rfl
    have f1 := hf 1 _ rfl
    have f2 := hf 2 _ rfl
    have f3 := hf 3 _ rfl
    have f4 := hf 4 _ rfl
    have f5 := hf 5 _ rfl
    have f6 := hf 6 _ rfl
    have f7 := hf 7 _ rfl
    have f8 := hf 8 _ rfl
    have f9 := hf 9 _ rfl
    have f10 := hf 10 _ rfl
    obtain ⟨y0, g0⟩ := fld (m := 11) hx (by omega) f0
    obtain ⟨y1, g1⟩ := fld (m := 11) hx (by omega) f1
    obtain ⟨y2, g2⟩ := fld (m := 11) hx (by omega) f2
    obtain ⟨y3, g3⟩ := fld (m := 11) hx (by omega) f3
    obtain ⟨y4, g4⟩ := fld (m := 11) hx (by omega) f4
    obtain ⟨y5, g5⟩ := fld (m := 11) hx (by omega) f5
    obtain ⟨y6, g6⟩ := fld (m := 11) hx (by omega) f6
    obtain ⟨y7, g7⟩ := fld (m := 11) hx (by omega) f7
    obtain ⟨y8, g8⟩ := fld (m := 11) hx (by omega) f8
    obtain ⟨y9, g9⟩ := fld (m := 11) hx (by omega) f9
    obtain ⟨y10, g10⟩ := fld (m := 11) hx (by omega) f10
    obtain ⟨n0, e0, k0⟩ := opens_int (w := w) Try.underlying3 _ _ _ _ _ g0
    obtain ⟨n1, e1, k1⟩ := opens_int (w := w) Try.underlying3 _ _ _ _ _ g1
    obtain ⟨n2, e2, k2⟩ := opens_int (w := w) Try.underlying3 _ _ _ _ _ g2
    obtain ⟨n3, e3, k3⟩ := opens_int (w := w) Try.underlying3 _ _ _ _ _ g3
    obtain ⟨n4, e4, k4⟩ := opens_int (w := w) Try.underlying3 _ _ _ _ _ g4
    obtain ⟨n5, e5, k5⟩ := opens_int (w := w) Try.underlying3 _ _ _ _ _ g5
    obtain ⟨n6, e6, k6⟩ := opens_int (w := w) Try.underlying3 _ _ _ _ _ g6
    obtain ⟨n7, e7, k7⟩ := opens_string (w := w) Try.underlying9 _ _ _ _ _ g7
    obtain ⟨n8, e8, k8⟩ := opens_string (w := w) Try.underlying9 _ _ _ _ _ g8
    obtain ⟨n9, ⟨v9, e9, k9⟩⟩ := opens_slice (size := 3) Try.underlying27 (by kernel_rfl) (by decide) (opens_txn w) _ _ _ _ _ g9
    obtain ⟨n10, ⟨v10, e10, k10⟩⟩ := opens_slice (size := 2) Try.underlying28 (by kernel_rfl) (by decide) (opens_page w) _ _ _ _ _ g10
    simp [c1, c2, c5, c6] at e0 e1 e2 e3 e4 e5 e6 e7 e8 e9 e10
    subst e0 e1 e2 e3 e4 e5 e6 e7 e8 e9 e10
    exact ⟨⟨n0, n1, n2, n3, n4, n5, n6, n7, n8, n9, n10⟩, _, _, rfl, ⟨k9.rd'.1, k10.rd'.1⟩, fits_of k0, fits_of k1, fits_of k2, fits_of k3, fits_of k4, fits_of k5, fits_of k6, k7, k8, k9.rd'.2, k10.rd'.2⟩

set_option maxRecDepth 100000 in
theorem opens_ent (w : World) : Opens Try.prog w 32 (EntAt w) := by
  intro H enc held fuel cs y h
  obtain ⟨xs, n, rfl, _, hl, hx, hf⟩ := DataW.trod_struct Try.underlying32 h
  have c4 : Try.prog.cellsOf 32 = 12 := by kernel_rfl
  have c1 : Try.prog.cellsOf 3 = 1 := by kernel_rfl
  have c2 : Try.prog.cellsOf 30 = 11 := by kernel_rfl
  rw [c4] at hl
  match cs, hl with
  | [x0, x1, x2, x3, x4, x5, x6, x7, x8, x9, x10, x11], _ =>
    have f0 := hf 0 _ rfl
    have f1 := hf 1 _ rfl
    obtain ⟨y0, g0⟩ := fld (m := 2) hx (by omega) f0
    obtain ⟨y1, g1⟩ := fld (m := 2) hx (by omega) f1
    obtain ⟨n0, e0, k0⟩ := opens_int (w := w) Try.underlying3 _ _ _ _ _ g0
    obtain ⟨r, ⟨v1, v2, e1, k1⟩⟩ := opens_rec w _ _ _ _ _ g1
    simp [c1, c2] at e0 e1
    subst e0
    exact ⟨⟨n0, r⟩, v1, v2, by rw [e1], k1.1, k1.2, fits_of k0⟩

set_option maxRecDepth 100000 in
theorem opens_ents (w : World) : Opens Try.prog w 22 (fun (l : List Ent) cs => ∃ v, cs = [v] ∧ Ents w v l) :=
  opens_slice (size := 12) Try.underlying22 (by kernel_rfl) (by decide) (opens_ent w)
end Go.Proofs.Ytobmaipjbepphaa
