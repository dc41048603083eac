import Derived.Test.YtghklbflbodajaaBk8
import Derived.Test.YtghklbflbodajaaB5
namespace Go.Proofs.Ytghklbflbodajaa
open Go.RowKit Go.ChangeMaps Go.MapKept
set_option linter.unusedVariables false
set_option linter.unusedSimpArgs false
set_option linter.unnecessarySimpa false
set_option maxHeartbeats 8000000

set_option maxRecDepth 100000 in
theorem backupNil_walk (w : World) (a0 : Int) (wa0 : (Lit.int .i64 a0).wf = true) (v : Value) (x : Pg) (hv0 : v.cells.toList = encP x ∧ PgOk x) :
    Calls Try.prog 4 #[.int .i64 a0, v] w fun e w' => e = .returned (.bool true) ∧ Chg NoB w w' := by
  have hv : v = .agg (encP x).toArray := by
    cases v with
    | agg cs =>
      have h : cs.toList = encP x := hv0.1
      congr 1
      rw [← Array.toArray_toList (xs := cs), h]
    | _ => exfalso; have := hv0.1; simp [Value.cells, encP] at this
  subst hv
  clear hv0
  have HA : Hid (Chg NoB w (w.alloc (.cells (encP x).toArray 40))) := hid ((Chg.refl NoB w).alloc _)
  have hb := blk_new w (.cells (encP x).toArray 40)
  have HB := hid hb
  clear hb
  unfold encP at HA HB ⊢
  go_enter Try.func4, Try.ntmps4
  go_wp2_with (first
    | (go_at_call 17; refine (roll_nil _ _).mono ?_; rintro e w1 ⟨rfl, hc1⟩)
    | (go_at_call 18; refine (bk_undo_nil _ _).mono ?_; rintro e w2 ⟨rfl, hc2⟩)
    | (go_at_call 10; refine (bk_bytes_nil _).mono ?_; rintro e w3 ⟨rfl, hc3⟩)
    | (go_at_call 9; refine (bkAwake _).mono ?_; rintro e w4 ⟨rfl, hc4⟩; have HC4 := hid (HA.out.trans' (hc1.trans' (hc2.trans' (hc3.trans' hc4)))); have hb4 := (hc1.trans' (hc2.trans' (hc3.trans' hc4))).heap HB.out nob; have z0 := cell_blk hb4 0; have z1 := cell_blk hb4 1)
    | (go_at_call 13; refine (bk_take_nil a0 0 x _).mono ?_; rintro e w5 ⟨rfl, hc5⟩)
    | (go_at_call 19; refine (bk_whole_nil _).mono ?_; rintro e w6 ⟨rfl, hc6⟩)
    | (go_at_call 16; refine (bk_from_nil _).mono ?_; rintro e w7 ⟨rfl, hc7⟩))
  go_ret
  exact ⟨rfl, HC4.out.trans' (hc5.trans' (hc6.trans' hc7))⟩
end Go.Proofs.Ytghklbflbodajaa
