import Derived.Test.YtekjchphlphecaaSb24
namespace Go.Proofs.Ytekjchphlphecaa
open Go.RowKit Go.ChangeMaps Go.MapKept
set_option linter.unusedVariables false
set_option linter.unusedSimpArgs false
set_option linter.unnecessarySimpa false
set_option maxHeartbeats 8000000

theorem feed_nil (v : Value) (w : World) : Calls Try.prog 11 #[.pointer none, v] w fun e w' => e = .returned (.tuple #[.int .i64 0, .int .i64 10]) ∧ Chg NoB w w' := by
  go_enter Try.func11, Try.ntmps11
  go_wp2
  go_ret2
  exact ⟨rfl, Chg.refl _ _⟩
theorem prom_nil (w : World) : Calls Try.prog 18 #[.pointer none] w fun e w' => e = .returned (.tuple #[.slice none 0 0, .int .i64 10]) ∧ Chg NoB w w' := by
  go_enter Try.func18, Try.ntmps18
  go_wp2
  go_ret2
  exact ⟨rfl, (Chg.refl _ _).alloc _⟩
theorem upto_nil (w : World) : Calls Try.prog 13 #[.pointer none] w fun e w' => e = .returned (.int .i64 0) ∧ Chg NoB w w' := by
  go_enter Try.func13, Try.ntmps13
  go_wp2
  go_ret
  exact ⟨rfl, Chg.refl _ _⟩
theorem pages_nil (w : World) : Calls Try.prog 21 #[.pointer none] w fun e w' => e = .returned (.slice none 0 0) ∧ Chg NoB w w' := by
  go_enter Try.func21, Try.ntmps21
  go_wp2
  go_ret
  exact ⟨rfl, Chg.refl _ _⟩
theorem open_nil (w : World) : Calls Try.prog 16 #[.pointer none] w fun e w' => e = .returned (.slice none 0 0) ∧ Chg NoB w w' := by
  go_enter Try.func16, Try.ntmps16
  go_wp2
  go_ret
  exact ⟨rfl, Chg.refl _ _⟩
theorem lag_nil (v : Value) (w : World) : Calls Try.prog 22 #[.pointer none, v] w fun e w' => e = .returned (.int .i64 0) ∧ Chg NoB w w' := by
  go_enter Try.func22, Try.ntmps22
  go_wp2
  go_ret
  exact ⟨rfl, Chg.refl _ _⟩

set_option maxRecDepth 100000 in
theorem standbyNil_walk (w : World) (v : Value) (l : List Ent) (hv : Ents w v l) :
    Calls Try.prog 5 #[v] w fun e w' => e = .returned (.bool true) ∧ Chg NoB w w' := by
  clear hv
  go_enter Try.func5, Try.ntmps5
  go_wp2_with (first
    | (go_at_call 11; refine (feed_nil _ _).mono ?_; rintro e w1 ⟨rfl, c1⟩)
    | (go_at_call 18; refine (prom_nil _).mono ?_; rintro e w2 ⟨rfl, c2⟩)
    | (go_at_call 8; refine (awake _).mono ?_; rintro e w3 ⟨rfl, c3⟩)
    | (go_at_call 13; refine (upto_nil _).mono ?_; rintro e w4 ⟨rfl, c4⟩)
    | (go_at_call 21; refine (pages_nil _).mono ?_; rintro e w5 ⟨rfl, c5⟩)
    | (go_at_call 16; refine (open_nil _).mono ?_; rintro e w6 ⟨rfl, c6⟩)
    | (go_at_call 22; refine (lag_nil _ _).mono ?_; rintro e w7 ⟨rfl, c7⟩))
  go_ret
  exact ⟨rfl, c1.trans' (c2.trans' (c3.trans' (c4.trans' (c5.trans' (c6.trans' c7)))))⟩
end Go.Proofs.Ytekjchphlphecaa
