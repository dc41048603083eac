import Derived.Test.YtlhblkpdfdpiaaaProg
import Derived.Test.YtlhblkpdfdpiaaaSl
namespace Go.Proofs.Ytlhblkpdfdpiaaa
open Go.RowKit Go.ChangeMaps

theorem same_len {a b : List Int} (h : ¬ a.length = b.length) : decide (a = b) = false := by
  rw [decide_eq_false_iff_not]; intro e; exact h (by rw [e])
theorem same_at {a b : List Int} {k : Nat} (ha : k < a.length) (hb : k < b.length) (h : ¬ a[k] = b[k]) : decide (a = b) = false := by
  rw [decide_eq_false_iff_not]; intro e; subst e; exact h rfl
theorem same_all {a b : List Int} (hl : a.length = b.length) (h : ∀ j (ha : j < a.length) (hb : j < b.length), a[j] = b[j]) : decide (a = b) = true := by
  rw [decide_eq_true_iff]
  exact List.ext_getElem hl fun i h1 h2 => h i h1 h2

set_option maxRecDepth 100000 in
theorem refSame (va vb : Value) (a b : List Int) (w : World) (ha : Rd w 1 encI va a) (hb : Rd w 1 encI vb b) (r : Bool) (hr : Hid (r = decide (a = b))) :
    Calls Try.prog 11 #[va, vb] w fun e w' => e = .returned (.bool r) ∧ ∃ n, w' = w.drewN n := by
  obtain ⟨aa, ca, rfl, ha1, ha2, ha3⟩ := ha
  obtain ⟨ab, cb, rfl, hb1, hb2, hb3⟩ := hb
  unfold maxLen at ha2 hb2
  by_cases hl : a.length = b.length
  · have hl2 : (a.length == b.length) = true := by simpa using hl
    have HL := hid hl
    clear hl
    go_enter Try.func11, Try.ntmps11
    go_wp2
    go_loopw [5] (fun i wr => ∃ k : Nat, k ≤ a.length ∧ i = .int .i64 k ∧ Hid (∀ j (h1 : j < k) (h2 : j < a.length) (h3 : j < b.length), a[j] = b[j]) ∧ ∃ n, wr = w.drewN n) (fun i _ => a.length - (intOf i).toNat)
    case atStart => exact ⟨0, by omega, rfl, hid (fun j h => by omega), 0, rfl⟩
    case round =>
      obtain ⟨k, hk, rfl, HE, n, rfl⟩ := hrel
      by_cases hlt : k < a.length
      · have hlb : k < b.length := by rw [← HL.out]; exact hlt
        obtain ⟨ba, oa, rfl, hca⟩ := Rd.int_at ha3 k hlt
        obtain ⟨bb, ob, rfl, hcb⟩ := Rd.int_at hb3 k hlb
        have HA := hid ha3
        have HB := hid hb3
        clear ha3 hb3
        obtain ⟨x, hx⟩ := named a[k]
        obtain ⟨y, hy⟩ := named b[k]
        rw [← hx.out] at hca
        rw [← hy.out] at hcb
        cases hxy : (x != y)
        · go_wp2
          go_quiet (fail)
          go_wp2
          go_roundw
          case rel =>
            refine ⟨k + 1, by omega, by go_num, hid (fun j h1 h2 h3 => ?_), _, rfl⟩
            by_cases hjk : j < k
            · exact HE.out j hjk h2 h3
            · obtain rfl : j = k := by omega
              rw [← hx.out, ← hy.out]
              simpa using hxy
          case measure => simp [intOf]; omega
        · go_wp2
          go_quiet (fail)
          go_wp2
          go_ret
          exact ⟨ret_bool (by rw [hr.out]; symm; exact same_at hlt hlb (by rw [← hx.out, ← hy.out]; simpa using hxy)), _, World.drewN_drewN _ _ _⟩
      · obtain rfl : k = a.length := by omega
        go_wp2
        go_ret
        exact ⟨ret_bool (by rw [hr.out]; symm; exact same_all HL.out (fun j h1 h2 => HE.out j h1 h1 h2)), _, rfl⟩
  · have HR := hid (hr.out.trans (same_len hl))
    have hl2 : (a.length == b.length) = false := by simpa using hl
    clear hl
    go_enter Try.func11, Try.ntmps11
    go_wp2
    go_ret
    exact ⟨ret_bool HR.out.symm, 0, rfl⟩
end Go.Proofs.Ytlhblkpdfdpiaaa
