import Derived.Test.YtobmaipjbepphaaRec
import Derived.Test.YtobmaipjbepphaaPg
namespace Go.Proofs.Ytobmaipjbepphaa
open Go.RowKit Go.ChangeMaps Go.MapKept
set_option linter.unusedVariables false
set_option maxHeartbeats 4000000

/-- A page: where it stands in the log, and its bytes. -/
structure Pg where
  at_ : Int
  data : ByteArray
def Pg.val (p : Pg) : Value := .agg #[.int .i64 p.at_, .string p.data]
def Pg.right (p : Pg) : Bool := decide (0 ≤ p.at_) && (decide (p.at_ ≤ 2147483647) && decide (p.data.size = 220))

set_option maxRecDepth 100000 in
theorem right_calls (p : Pg) (w : World) (res : Bool) (hres : Hid (res = p.right)) (hf : p.data.size ≤ 2 ^ 62) :
    Calls Try.prog 39 #[p.val] w fun e w' => e = .returned (.bool res) ∧ Chg NoB w w' := by
  unfold Pg.val
  obtain ⟨n1, h1⟩ := named p.data.size
  go_enter Try.func39, Try.ntmps39
  go_wp2
  all_goals go_ret
  all_goals exact ⟨ret_bool (by rw [hres.out]; simp only [Pg.right]; rw [Bool.eq_iff_iff]; simp; omega), (Chg.refl _ _).alloc _⟩

/-- What Get answers: the bytes, and the error's number. -/
def Pg.get (p : Pg) (off n : Int) : ByteArray × Int :=
  if p.right = false then (⟨#[]⟩, 3)
  else if off < 0 ∨ n < 0 ∨ 220 < n ∨ 220 - n < off then (⟨#[]⟩, 2)
  else (p.data.extract off.toNat (off + n).toNat, 0)

set_option maxRecDepth 100000 in
theorem get_calls (p : Pg) (off n : Int) (w : World) (res : ByteArray × Int) (hres : Hid (res = p.get off n)) (hf : p.data.size ≤ 2 ^ 62)
    (ho : fits off) (hn : fits n) :
    Calls Try.prog 40 #[p.val, .int .i64 off, .int .i64 n] w fun e w' => e = .returned (.tuple #[.string res.1, .int .i64 res.2]) ∧ Chg NoB w w' := by
  unfold fits at ho hn
  have hv : p.val = .agg #[.int .i64 p.at_, .string p.data] := rfl
  obtain ⟨f, hfr⟩ := named p.right
  have hsz : f = true → p.data.size = 220 := fun h => by
    rw [h] at hfr
    have := hfr.out.symm
    simp [Pg.right] at this
    exact this.2.2
  have hres' := hid hres.out
  rw [hv]
  go_enter Try.func40, Try.ntmps40
  cases f
  · go_wp2_with (go_at_call 39; refine (right_calls p _ _ hfr hf).mono ?_; rintro e w' ⟨rfl, hc⟩)
    go_ret2
    refine ⟨?_, ((Chg.refl _ _).alloc _).trans' hc⟩
    have hx := hres.out
    simp only [Pg.get, hfr.out.symm, if_true] at hx
    rw [hx]
    rfl
  · have hz := hsz rfl
    clear hsz
    go_wp2_with (go_at_call 39; refine (right_calls p _ _ hfr hf).mono ?_; rintro e w' ⟨rfl, hc⟩; have hb1 : w'.cell? ⟨w.heap.size, 1, none⟩ = some (.string p.data) := hc.cell ((cell_blk (blk_new _ _) 1).trans rfl) (fun e => e))
    all_goals go_ret2
    all_goals refine ⟨?_, ((Chg.refl _ _).alloc _).trans' hc⟩
    all_goals have hx := hres.out
    all_goals unfold Pg.get at hx
    all_goals rw [if_neg (by rw [← hfr.out]; decide)] at hx
    all_goals first
      | (rw [if_pos (by omega)] at hx; rw [hx]; rfl)
      | (rw [if_neg (by omega)] at hx; rw [hx]; try simp only []; try rfl)
end Go.Proofs.Ytobmaipjbepphaa
