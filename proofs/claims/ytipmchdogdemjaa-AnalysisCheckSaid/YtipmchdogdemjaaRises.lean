import Derived.Test.YtipmchdogdemjaaRecFn
namespace Go.Proofs.Ytipmchdogdemjaa
open Go.RowKit Go.ChangeMaps
set_option linter.unusedVariables false

set_option maxRecDepth 100000 in
theorem rises_calls (v : Value) (l : List Ent) (w : World) (hv : Ents w v l) (res : Bool) (hres : Hid (res = risesB l)) :
    Calls Try.prog 11 #[v] w fun e w' => e = .returned (.bool res) ∧ ∃ n, w' = w.drewN n := by
  obtain ⟨a, c, rfl, h1, h2, h3⟩ := hv
  unfold maxLen at h2
  go_enter Try.func11, Try.ntmps11
  go_wp2
  go_loopw [3] (fun i wr => ∃ k : Nat, k ≤ l.length ∧ i = .int .i64 ((k : Int) + 1) ∧ Hid (∀ j (hj : j < k) (h : j + 1 < l.length), l[j].at_ < l[j + 1].at_) ∧ ∃ n, wr = w.drewN n) (fun i _ => l.length + 1 - (intOf i).toNat)
  case atStart => exact ⟨0, by omega, rfl, hid (fun j h => by omega), 0, rfl⟩
  case round =>
    obtain ⟨k, hk, rfl, HE, n, rfl⟩ := hrel
    by_cases hlt : k + 1 < l.length
    · obtain ⟨x, b, off, v1, v2, hx, rfl, _, _, g0, _⟩ := Ents.cells h3 (Chg.refl NoB w) k (by omega)
      obtain ⟨y, b', off', v1', v2', hy, e', _, _, g0', _⟩ := Ents.cells h3 (Chg.refl NoB w) (k + 1) hlt
      cases e'
      have hk1 : k < l.length := by omega
      have hw : IntKind.i64.wrap (k : Int) = (k : Int) := by simp [IntKind.wrap, IntKind.signed, IntKind.bits]; omega
      have HA := hid h3
      clear h3
      by_cases hxy : y.at_ ≤ x.at_
      · go_wp2
        go_quiet (fail)
        go_wp2
        go_ret
        refine ⟨ret_bool ?_, _, World.drewN_drewN _ _ _⟩
        rw [hres.out]
        symm
        rw [Bool.eq_false_iff]
        intro h
        have := risesB_iff.1 h k hlt
        rw [hx.out, hy.out] at this
        omega
      · go_wp2
        go_quiet (fail)
        go_wp2
        go_roundw
        case rel =>
          refine ⟨k + 1, by omega, by go_num, hid (fun j hj h => ?_), _, rfl⟩
          by_cases hjk : j < k
          · exact HE.out j hjk h
          · obtain rfl : j = k := by omega
            rw [hx.out, hy.out]
            omega
        case measure => simp [intOf]; omega
    · go_wp2
      go_ret
      exact ⟨ret_bool (by rw [hres.out]; symm; exact risesB_iff.2 (fun i hi => HE.out i (by omega) hi)), _, rfl⟩
end Go.Proofs.Ytipmchdogdemjaa
