import Derived.Test.YtkkhlomfddalnaaRises
import Derived.Test.YtkkhlomfddalnaaCell
namespace Go.Proofs.Ytkkhlomfddalnaa
open Go.RowKit Go.ChangeMaps
set_option linter.unusedVariables false

/-- A walker: its list, its transaction, where it stops, its error. -/
def WkAt (w : World) (q : Nat) (v : Value) (txn : Int) (stop : Option Addr) (er : Int) : Prop :=
  w.heap[q]? = some (.cells #[v, .int .i64 txn, .pointer stop, .int .i64 er] 60 (0, 0))

theorem WkAt.cells {w : World} {q : Nat} {v : Value} {txn : Int} {stop : Option Addr} {er : Int} (h : WkAt w q v txn stop er) :
    w.cell? ⟨q, 0, none⟩ = some v ∧ w.cell? ⟨q, 1, none⟩ = some (.int .i64 txn) ∧ w.cell? ⟨q, 2, none⟩ = some (.pointer stop) ∧ w.cell? ⟨q, 3, none⟩ = some (.int .i64 er) ∧ (∀ i, w.frozen? ⟨q, i, none⟩ = false) := by
  unfold WkAt at h
  exact ⟨by rw [cell_blk h]; rfl, by rw [cell_blk h]; rfl, by rw [cell_blk h]; rfl, by rw [cell_blk h]; rfl, fun i => frozen_blk h i⟩

def beginErr (l : List Ent) : Int := if risesB l then 0 else 3

/-- The error when the first k places have been seen. -/
def ErrK (l : List Ent) (k : Nat) (er : Int) : Prop := (er = 0 ∧ ∀ i (h : i + 1 < l.length), i + 1 < k → l[i].at_ < l[i + 1].at_) ∨ (er = 3 ∧ ∃ i, ∃ h : i + 1 < l.length, i + 1 < k ∧ ¬ l[i].at_ < l[i + 1].at_)
theorem ErrK.zero (l : List Ent) : ErrK l 0 0 := .inl ⟨rfl, fun i _ h => by omega⟩
theorem ErrK.one {l : List Ent} {er : Int} (h : ErrK l 0 er) : ErrK l 1 er := by
  rcases h with ⟨h1, h2⟩ | ⟨h1, i, h, h2, h3⟩
  · exact .inl ⟨h1, fun i _ h => by omega⟩
  · omega
theorem ErrK.yes {l : List Ent} {k : Nat} {er : Int} (h : ErrK l (k + 1) er) (hk : k + 1 < l.length) (hr : l[k].at_ < l[k + 1].at_) : ErrK l (k + 2) er := by
  rcases h with ⟨h1, h2⟩ | ⟨h1, i, h, h2, h3⟩
  · refine .inl ⟨h1, fun i hi h => ?_⟩
    by_cases e : i = k
    · subst e; exact hr
    · exact h2 i hi (by omega)
  · exact .inr ⟨h1, i, h, by omega, h3⟩
theorem ErrK.no {l : List Ent} {k : Nat} (hk : k + 1 < l.length) (hr : ¬ l[k].at_ < l[k + 1].at_) : ErrK l (k + 2) 3 := .inr ⟨rfl, k, hk, by omega, hr⟩
theorem ErrK.done {l : List Ent} {er : Int} (h : ErrK l l.length er) : er = beginErr l := by
  unfold beginErr
  rcases h with ⟨h1, h2⟩ | ⟨h1, i, h, h2, h3⟩
  · rw [if_pos (risesB_iff.2 fun i hi => h2 i hi hi)]; exact h1
  · rw [if_neg (fun hr => h3 (risesB_iff.1 hr i h))]; exact h1

theorem WkAt.keep {w w' : World} {q : Nat} {v : Value} {txn : Int} {stop : Option Addr} {er : Int} (h : WkAt w q v txn stop er) {S : Nat → Prop} (hc : Chg S w w') (hs : ¬ S q) : WkAt w' q v txn stop er := hc.heap h hs
theorem WkAt.drewN {w : World} {q : Nat} {v : Value} {txn : Int} {stop : Option Addr} {er : Int} (h : WkAt w q v txn stop er) (n : Nat) : WkAt (w.drewN n) q v txn stop er := h
theorem WkAt.setErr {w : World} {q : Nat} {v : Value} {txn : Int} {stop : Option Addr} {er : Int} (h : WkAt w q v txn stop er) (er' : Int) : WkAt (w.setCell ⟨q, 3, none⟩ (.int .i64 er')) q v txn stop er' := by
  unfold WkAt; rw [blk_setCell h]; rfl

set_option maxRecDepth 100000 in
set_option maxHeartbeats 8000000 in
theorem begin_calls (v : Value) (l : List Ent) (txn : Int) (w : World) (hv : Ents w v l) :
    Calls Try.prog 22 #[v, .int .i64 txn] w fun e w' => e = .returned (.pointer (some ⟨w.heap.size, 0, none⟩)) ∧ WkAt w' w.heap.size v txn none (beginErr l) ∧ Chg NoB w w' := by
  obtain ⟨a, c, rfl, h1, h2, h3⟩ := hv
  unfold maxLen at h2
  have H3 := hid h3
  clear h3
  go_enter Try.func22, Try.ntmps22
  go_wp2
  go_loopw [13] (fun i wr => ∃ (k : Nat) (er : Int), k ≤ l.length ∧ i = .int .i64 k ∧ Hid (ErrK l k er) ∧ Hid (WkAt wr w.heap.size (.slice a l.length c) txn none er) ∧ Hid (Chg NoB w wr)) (fun i _ => l.length - (intOf i).toNat)
  case atStart => exact ⟨0, 0, by omega, rfl, ErrK.zero l, blk_new _ _, (Chg.refl _ _).alloc _⟩
  case round =>
    obtain ⟨k, er, hk, rfl, HE, HW, hc⟩ := hrel
    obtain ⟨c0, c1, c2, c3, c4⟩ := HW.out.cells
    have c43 := c4 3
    clear c4
    by_cases hlt : k < l.length
    · cases k with
      | zero =>
        go_wp2
        go_quiet (fail)
        go_wp2
        go_roundw
        case rel => exact ⟨1, er, by omega, by go_num, HE.out.one, HW.out.drewN _, hc.out.drewN _⟩
        case measure => simp [intOf]; omega
      | succ k =>
        obtain ⟨x, b, off, v1, v2, hx, rfl, _, _, g0, _⟩ := Ents.cells H3.out hc.out k (by omega)
        obtain ⟨y, b', off', v1', v2', hy, e', _, _, g0', _⟩ := Ents.cells H3.out hc.out (k + 1) hlt
        cases e'
        have hk1 : k < l.length := by omega
        have hw : IntKind.i64.wrap (k : Int) = (k : Int) := by simp [IntKind.wrap, IntKind.signed, IntKind.bits]; omega
        by_cases hxy : y.at_ ≤ x.at_
        · go_wp2
          go_quiet (fail)
          go_wp2
          go_roundw
          case rel => exact ⟨k + 2, 3, by omega, by go_num, ErrK.no hlt (by rw [hx.out, hy.out]; omega), (HW.out.drewN _).setErr 3, (hc.out.drewN _).setCell (.inr (Nat.le_refl _)) _⟩
          case measure => simp [intOf]; omega
        · go_wp2
          go_quiet (fail)
          go_wp2
          go_roundw
          case rel => exact ⟨k + 2, er, by omega, by go_num, HE.out.yes hlt (by rw [hx.out, hy.out]; omega), HW.out.drewN _, hc.out.drewN _⟩
          case measure => simp [intOf]; omega
    · obtain rfl : k = l.length := by omega
      have HD := HE.out.done
      subst HD
      go_wp2
      go_ret
      exact ⟨rfl, HW.out, hc.out⟩
end Go.Proofs.Ytkkhlomfddalnaa
