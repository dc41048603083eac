import Derived.Test.YtipmchdogdemjaaAnTab
import Derived.Test.YtipmchdogdemjaaSameR2
namespace Go.Proofs.Ytipmchdogdemjaa
open Go.RowKit Go.ChangeMaps Go.MapKept
set_option linter.unusedVariables false

def minP (m : Int) (p : Int × Int) : Int := min m p.2
def minT (m : Int) (t : Row3) : Int := min m t.2.1

set_option maxRecDepth 100000 in
set_option maxHeartbeats 4000000 in
theorem from_calls (c : Int) (v : Value) (l : List (Int × Int)) (w : World) (hv : Rd w 2 encPg v l) (x y : Int) (l2 : List (Int × Int)) (hl : l = (x, y) :: l2) (res : Int) (hr : Hid (res = l.foldl minP y)) :
    Calls Try.prog 12 #[.int .i64 c, v] w fun e w' => e = .returned (.int .i64 res) ∧ Chg NoB w w' := by
  obtain ⟨a, n, rfl, h1, h2, h3⟩ := hv
  unfold maxLen at h2
  have hlp : 0 < l.length := by rw [hl]; simp
  obtain ⟨x0, y0, b0, o0, hx0, ea, f0, f1⟩ := pow_at h3 (Chg.refl NoB w) 0 hlp
  have hxy : y0 = y := by have := hx0.out; simp [hl] at this; exact this.2.symm
  subst hxy ea
  simp only [Nat.zero_mul, Nat.add_zero] at f0 f1
  have HR := hid h3
  have hl0 : (l.length == 0) = false := beq_false_of_ne (by omega)
  have hl1 : ((l.length : Int) == 0) = false := beq_false_of_ne (by omega)
  clear h3 hl hx0
  go_enter Try.func12, Try.ntmps12
  go_wp2
  go_loopw [5, 17] (fun m i wr => ∃ k : Nat, k ≤ l.length ∧ i = .int .i64 k ∧ m = .int .i64 ((l.take k).foldl minP y0) ∧ Hid (Chg NoB w wr)) (fun _ i _ => l.length - (intOf i).toNat)
  case atStart => exact ⟨0, by omega, rfl, rfl, Chg.refl _ _⟩
  case round =>
    obtain ⟨k, hk, rfl, rfl, hc⟩ := hrel
    by_cases hlt : k < l.length
    · obtain ⟨x1, y1, b1, o1, hx1, ea, g0, g1⟩ := pow_at HR.out hc.out k hlt
      cases ea
      have HF := hid (foldl_take minP l y0 hlt hx1.out)
      obtain ⟨m0, hm0⟩ := named ((l.take k).foldl minP y0)
      rw [← hm0.out] at HF ⊢
      go_wp2_with fail
      go_roundw
      case rel => exact ⟨k + 1, by omega, by go_num, by rw [HF.out]; rfl, hc.out.alloc _⟩
      case measure => simp [intOf]; omega
    · obtain rfl : l.length = k := by omega
      rw [List.take_length]
      go_wp2_with fail
      go_ret
      exact ⟨ret_int hr.out.symm, hc.out⟩

set_option maxRecDepth 100000 in
set_option maxHeartbeats 4000000 in
theorem hor_calls (c : Int) (hc0 : (c == 0) = false) (vt : Value) (t : List Row3) (v : Value) (l : List (Int × Int)) (w : World) (ht : Rd w 3 encTx vt t) (hv : Rd w 2 encPg v l) (res : Int) (hr : Hid (res = l.foldl minP (t.foldl minT c))) :
    Calls Try.prog 13 #[.int .i64 c, vt, v] w fun e w' => e = .returned (.int .i64 res) ∧ Chg NoB w w' := by
  obtain ⟨a, n, rfl, h1, h2, h3⟩ := hv
  obtain ⟨a', n', rfl, h1', h2', h3'⟩ := ht
  unfold maxLen at h2 h2'
  have HR := hid h3
  have HT := hid h3'
  clear h3 h3'
  go_enter Try.func13, Try.ntmps13
  go_wp2
  go_loopw [0, 15] (fun m i wr => ∃ k : Nat, k ≤ t.length ∧ i = .int .i64 k ∧ m = .int .i64 ((t.take k).foldl minT c) ∧ Hid (Chg NoB w wr)) (fun _ i _ => t.length - (intOf i).toNat)
  case atStart => exact ⟨0, by omega, rfl, rfl, Chg.refl _ _⟩
  case round =>
    obtain ⟨k, hk, rfl, rfl, hc⟩ := hrel
    by_cases hlt : k < t.length
    · obtain ⟨x1, y1, z1, b1, o1, hx1, ea, g0, g1, g2⟩ := row_at HT.out hc.out k hlt
      cases ea
      have HF := hid (foldl_take minT t c hlt hx1.out)
      obtain ⟨m0, hm0⟩ := named ((t.take k).foldl minT c)
      rw [← hm0.out] at HF ⊢
      go_wp2_with fail
      go_roundw
      case rel => exact ⟨k + 1, by omega, by go_num, by rw [HF.out]; rfl, hc.out.alloc _⟩
      case measure => simp [intOf]; omega
    · obtain rfl : t.length = k := by omega
      rw [List.take_length]
      obtain ⟨c1, hc1⟩ := named (t.foldl minT c)
      rw [← hc1.out] at hr ⊢
      have HC := hc
      go_wp2_with fail
      go_loopw [0, 26] (fun m i wr => ∃ k : Nat, k ≤ l.length ∧ i = .int .i64 k ∧ m = .int .i64 ((l.take k).foldl minP c1) ∧ Hid (Chg NoB w wr)) (fun _ i _ => l.length - (intOf i).toNat)
      case atStart => exact ⟨0, by omega, rfl, rfl, HC⟩
      case round =>
        obtain ⟨k, hk, rfl, rfl, hc⟩ := hrel
        by_cases hlt : k < l.length
        · obtain ⟨x1, y1, b1, o1, hx1, ea, g0, g1⟩ := pow_at HR.out hc.out k hlt
          cases ea
          have HF := hid (foldl_take minP l c1 hlt hx1.out)
          obtain ⟨m0, hm0⟩ := named ((l.take k).foldl minP c1)
          rw [← hm0.out] at HF ⊢
          go_wp2_with fail
          go_roundw
          case rel => exact ⟨k + 1, by omega, by go_num, by rw [HF.out]; rfl, hc.out.alloc _⟩
          case measure => simp [intOf]; omega
        · obtain rfl : l.length = k := by omega
          rw [List.take_length]
          go_wp2_with fail
          go_ret
          exact ⟨ret_int hr.out.symm, hc.out⟩
end Go.Proofs.Ytipmchdogdemjaa
