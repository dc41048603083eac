import Derived.Test.YtghklbflbodajaaA1
import Derived.Test.YtghklbflbodajaaA3
namespace Go.Proofs.Ytghklbflbodajaa
open Go.RowKit Go.ChangeMaps Go.MapKept
set_option linter.unusedVariables false
set_option linter.unusedSimpArgs false
set_option linter.unnecessarySimpa false

def PgOk (p : Pg) : Prop := fits p.at_ ∧ p.data.size ≤ maxLen
set_option maxRecDepth 100000 in
theorem opens_pg (w : World) : Opens Try.prog w 40 (fun (x : Pg) cs => cs = encP x ∧ PgOk x) := by
  intro H enc held fuel cs y h
  obtain ⟨xs, n, rfl, _, hl, hx, hf⟩ := DataW.trod_struct Try.underlying40 h
  have c4 : Try.prog.cellsOf 40 = 2 := by kernel_rfl
  have c1 : Try.prog.cellsOf 3 = 1 := by kernel_rfl
  have c2 : Try.prog.cellsOf 9 = 1 := by kernel_rfl
  rw [c4] at hl
  match cs, hl with
  | [x0, x1], _ =>
    have f0 := hf 0 _ rfl
    have f1 := hf 1 _ rfl
    obtain ⟨y0, g0⟩ := fld (m := 2) hx (by omega) f0
    obtain ⟨y1, g1⟩ := fld (m := 2) hx (by omega) f1
    obtain ⟨n0, e0, k0⟩ := opens_int (w := w) Try.underlying3 _ _ _ _ _ g0
    obtain ⟨s1, e1, k1⟩ := opens_string (w := w) Try.underlying9 _ _ _ _ _ g1
    simp [c1, c2] at e0 e1
    subst e0 e1
    exact ⟨⟨n0, s1⟩, rfl, fits_of k0, k1⟩
/-- What Take is told. -/
structure Cpy where
  n : Int
  at_ : Int
  p : Pg
def encCp (x : Cpy) : List Value := [.int .i64 x.n, .int .i64 x.at_, .int .i64 x.p.at_, .string x.p.data]
def CpOk (x : Cpy) : Prop := fits x.n ∧ fits x.at_ ∧ PgOk x.p
set_option maxRecDepth 100000 in
theorem opens_cpy (w : World) : Opens Try.prog w 42 (fun (x : Cpy) cs => cs = encCp x ∧ CpOk x) := by
  intro H enc held fuel cs y h
  obtain ⟨xs, n, rfl, _, hl, hx, hf⟩ := DataW.trod_struct Try.underlying42 h
  have c4 : Try.prog.cellsOf 42 = 4 := by kernel_rfl
  have c1 : Try.prog.cellsOf 3 = 1 := by kernel_rfl
  have c2 : Try.prog.cellsOf 40 = 2 := by kernel_rfl
  rw [c4] at hl
  match cs, hl with
  | [x0, x1, x2, x3], _ =>
    have f0 := hf 0 _ rfl
    have f1 := hf 1 _ rfl
    have f2 := hf 2 _ rfl
    obtain ⟨y0, g0⟩ := fld (m := 3) hx (by omega) f0
    obtain ⟨y1, g1⟩ := fld (m := 3) hx (by omega) f1
    obtain ⟨y2, g2⟩ := fld (m := 3) hx (by omega) f2
    obtain ⟨n0, e0, k0⟩ := opens_int (w := w) Try.underlying3 _ _ _ _ _ g0
    obtain ⟨n1, e1, k1⟩ := opens_int (w := w) Try.underlying3 _ _ _ _ _ g1
    obtain ⟨p2, e2, k2⟩ := opens_pg w _ _ _ _ _ g2
    simp [c1, c2] at e0 e1 e2
    subst e0 e1
    simp only [encP, List.cons.injEq, and_true] at e2
    obtain ⟨rfl, rfl⟩ := e2
    exact ⟨⟨n0, n1, p2⟩, rfl, fits_of k0, fits_of k1, k2⟩
set_option maxRecDepth 100000 in
theorem opens_cpys (w : World) : Opens Try.prog w 22 (fun (l : List Cpy) cs => ∃ v, cs = [v] ∧ RdR w 4 (fun x cs => cs = encCp x ∧ CpOk x) v l) :=
  opens_slice (size := 4) Try.underlying22 (by kernel_rfl) (by decide) (opens_cpy w)
end Go.Proofs.Ytghklbflbodajaa

namespace Go.Proofs.Ytghklbflbodajaa
open Go.RowKit Go.ChangeMaps Go.MapKept
set_option linter.unusedVariables false
set_option linter.unusedSimpArgs false
set_option linter.unnecessarySimpa false
set_option maxHeartbeats 8000000

def cpFew (l : List Cpy) : Bool := l.all (fun c => decide (c.p.data.size ≤ 500)) && decide (l.length ≤ 40)
theorem Rd.cp_at {w wr : World} {a : Option Addr} {l : List Cpy} (h : ∀ i x, l[i]? = some x → ∃ b off, a = some ⟨b, off, none⟩ ∧ ∀ j u, (encCp x)[j]? = some u → w.cell? ⟨b, off + i * 4 + j, none⟩ = some u) (hc : Chg NoB w wr) (k : Nat) (hk : k < l.length) :
    ∃ x b off, Hid (l[k] = x) ∧ a = some ⟨b, off, none⟩ ∧ wr.cell? ⟨b, off + k * 4, none⟩ = some (.int .i64 x.n) ∧ wr.cell? ⟨b, off + k * 4 + 1, none⟩ = some (.int .i64 x.at_) ∧ wr.cell? ⟨b, off + k * 4 + 2, none⟩ = some (.int .i64 x.p.at_) ∧ wr.cell? ⟨b, off + k * 4 + 3, none⟩ = some (.string x.p.data) := by
  obtain ⟨b, off, ha, h2⟩ := Rd.cells h hc k hk
  exact ⟨l[k], b, off, rfl, ha, h2 0 _ rfl, h2 1 _ rfl, h2 2 _ rfl, h2 3 _ rfl⟩
set_option maxRecDepth 100000 in
theorem cpFew_calls (v : Value) (l : List Cpy) (w : World) (hv : Rd w 4 encCp v l) (res : Bool) (hres : Hid (res = cpFew l)) :
    Calls Try.prog 12 #[v] w fun e w' => e = .returned (.bool res) ∧ Chg NoB w w' := by
  obtain ⟨a, c, rfl, h1, h2, h3⟩ := hv
  have H3 := hid h3
  unfold maxLen at h2
  clear h3
  go_enter Try.func12, Try.ntmps12
  go_wp2
  go_loopw [7] (fun i wr => ∃ k : Nat, k ≤ l.length ∧ i = .int .i64 k ∧ Hid ((∀ j (hj : j < k) (h : j < l.length), l[j].p.data.size ≤ 500) ∧ Chg NoB w wr)) (fun i _ => l.length - (intOf i).toNat)
  case atStart => exact ⟨0, by omega, rfl, hid ⟨fun j h => by omega, Chg.refl _ _⟩⟩
  case round =>
    obtain ⟨k, hk, rfl, hI⟩ := hrel
    by_cases hlt : k < l.length
    · obtain ⟨x, b, off, hx, rfl, c0, c1, c2, c3⟩ := Rd.cp_at H3.out hI.out.2 k hlt
      by_cases hz : (x.p.data.size : Int) > 500
      · go_wp2
        go_ret
        refine ⟨ret_bool ?_, hI.out.2.alloc _⟩
        rw [hres.out]
        unfold cpFew
        rw [eq_comm, Bool.and_eq_false_iff]
        left
        rw [List.all_eq_false]
        exact ⟨l[k], List.getElem_mem _, by rw [hx.out]; simp; omega⟩
      · go_wp2
        go_roundw
        case rel =>
          refine ⟨k + 1, by omega, by go_num, hid ⟨fun j hj h => ?_, hI.out.2.alloc _⟩⟩
          by_cases hjk : j < k
          · exact hI.out.1 j hjk h
          · obtain rfl : j = k := by omega
            rw [hx.out]
            omega
        case measure => simp [intOf] <;> omega
    · obtain rfl : k = l.length := by omega
      have hall : l.all (fun c => decide (c.p.data.size ≤ 500)) = true := by
        rw [List.all_eq_true]
        intro x hx
        obtain ⟨i, hi, rfl⟩ := List.getElem_of_mem hx
        simpa using hI.out.1 i hi hi
      have HALL := hid hall
      clear hall
      go_wp2
      go_ret
      exact ⟨ret_bool (by rw [hres.out]; simp only [cpFew, HALL.out, Bool.true_and]; rw [Bool.eq_iff_iff]; simp; omega), hI.out.2⟩
end Go.Proofs.Ytghklbflbodajaa
