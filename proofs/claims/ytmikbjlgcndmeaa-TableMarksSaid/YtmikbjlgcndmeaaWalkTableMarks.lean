import Derived.Test.YtmikbjlgcndmeaaMarksLaw
namespace Go.Proofs.Ytmikbjlgcndmeaa
open Go.RowKit Go.ChangeMaps
set_option linter.unusedVariables false

theorem opens_intsl (w : World) : Opens Try.prog w 22 (fun (l : List Int) cs => ∃ v, cs = [v] ∧ RdR w 1 (fun (n : Int) cs => cs = [.int .i64 n] ∧ (Lit.int .i64 n).wf = true) v l) :=
  opens_slice (size := 1) Try.underlying22 (by kernel_rfl) (by decide) (opens_int (w := w) Try.underlying3)

theorem u64_nonneg (x : Int) : 0 ≤ IntKind.u64.wrap x := by
  simp [IntKind.wrap, IntKind.signed, IntKind.bits]
  omega
theorem w64_small (y : Int) (h1 : -9223372036854775808 ≤ y) (h2 : y ≤ 9223372036854775807) : wrap64 y = y := by
  rw [← IntWalk.i64_left, IntKind.wrap_i64]; omega
theorem uM (x : Int) : ∃ M : Nat, wrap64 (1 + wrap64 ((IntKind.u64.wrap x).tmod 4)) = (M : Int) ∧ 1 ≤ M ∧ M ≤ 4 := by
  have h := u64_nonneg x
  have h2 : (IntKind.u64.wrap x).tmod 4 = (IntKind.u64.wrap x) % 4 := Int.tmod_eq_emod_of_nonneg h
  rw [h2, w64_small (IntKind.u64.wrap x % 4) (by omega) (by omega), w64_small _ (by omega) (by omega)]
  exact ⟨(1 + IntKind.u64.wrap x % 4).toNat, by omega, by omega, by omega⟩
theorem uB (x : Int) : ∃ M : Nat, wrap64 ((IntKind.u64.wrap x).tmod 5) = (M : Int) ∧ M < 5 := by
  have h := u64_nonneg x
  have h2 : (IntKind.u64.wrap x).tmod 5 = (IntKind.u64.wrap x) % 5 := Int.tmod_eq_emod_of_nonneg h
  rw [h2, w64_small (IntKind.u64.wrap x % 5) (by omega) (by omega)]
  exact ⟨(IntKind.u64.wrap x % 5).toNat, by omega, by omega⟩

set_option maxRecDepth 100000 in
set_option maxHeartbeats 8000000 in
theorem tableMarks_walk (w : World) (x : Int) (hx : (Lit.int .i64 x).wf = true) (v : Value) (l : List Int) (hv : RdR w 1 (fun (n : Int) cs => cs = [.int .i64 n] ∧ (Lit.int .i64 n).wf = true) v l) :
    Calls Try.prog 3 #[.int .i64 x, v] w fun e w' => e = .returned (.bool true) ∧ Chg NoB w w' := by
  obtain ⟨a, c, rfl, q1, q2, hr⟩ := hv
  unfold maxLen at q2
  by_cases hlen : 50 < l.length
  · have hl : (50 : Int) < (l.length : Int) := by omega
    go_enter Try.func3, Try.ntmps3
    go_wp2_with (go_at_call 8; refine (awake w).mono ?_; rintro e w1 ⟨rfl, c1⟩)
    refine (awake w1).mono ?_
    rintro e w2 ⟨rfl, c2⟩
    go_wp2
    go_ret
    exact ⟨rfl, c1.trans' c2⟩
  have hl : ¬ (50 : Int) < (l.length : Int) := by omega
  have HR := hid hr
  clear hr
  go_enter Try.func3, Try.ntmps3
  go_wp2_with (first
    | (go_at_call 8; refine (awake w).mono ?_; rintro e w1 ⟨rfl, c1⟩)
    | (go_at_call 9; refine (tbNew w w1 c1).mono ?_; rintro e w2 ⟨p, rfl, hT0⟩)
    | (go_at_call 10; refine (tbBegin hT0 7 0 (stM 0) (hid rfl)).mono ?_; rintro e w3 ⟨rfl, hT1⟩))
  obtain ⟨M, hM, hM1, hM4⟩ := uM x
  rw [hM]
  clear hM hT0
  go_loopw [34] (fun i wr => ∃ k : Nat, k ≤ M ∧ i = .int .i64 k ∧ Hid (TB w wr p (stM k))) (fun i _ => M - toN i)
  case atStart => exact ⟨0, by omega, rfl, hT1⟩
  case round =>
    clear hT1
    obtain ⟨k, hk, rfl, hT⟩ := hrel
    by_cases hlt : k < M
    · have hk4 : k < 4 := by omega
      go_wp2_with (first
        | (go_at_call 11; refine (tbLog hT.out 7 _ 0 (stL k) (hid (m_log hk4).symm)).mono ?_; rintro e w4 ⟨rfl, hT4⟩)
        | (go_at_call 12; refine (tbLeft hT4 7 1 (by decide) 0 (stA k) (hid (m_left hk4).symm)).mono ?_; rintro e w5 ⟨rfl, hT5⟩)
        | (go_at_call 13; refine (tbMark hT5 7 _ k 0 (stM (k + 1)) (hid (m_mark hk4).symm)).mono ?_; rintro e w6 ⟨rfl, hT6⟩))
      go_roundw
      case rel => exact ⟨k + 1, by omega, by go_num, hid hT6⟩
      case measure => simp [toN]; omega
    · obtain rfl : M = k := by omega
      obtain ⟨n, hmore⟩ := m_more ⟨hM1, hM4⟩
      have HMM := hid hmore
      clear hmore
      have hM4b : (M : Int) ≤ 4 := by omega
      go_wp2_with (go_at_call 13; refine (tbMark hT.out 7 _ n _ _ (hid HMM.out.symm)).mono ?_; rintro e w6 ⟨rfl, hT6⟩)
      all_goals
        go_loopw [11, 84] (fun hv i wr => ∃ k h : Nat, k ≤ l.length ∧ i = .int .i64 k ∧ hv = .int .i64 (h : Int) ∧ Hid (1 ≤ h ∧ h ≤ min (M + 1) 4) ∧ Hid (TB w wr p (stB M h))) (fun _ i _ => l.length - toN i)
        case atStart => exact ⟨0, min (M + 1) 4, by omega, rfl, by first | rfl | (congr 1; omega), ⟨by omega, by omega⟩, hT6⟩
        case round =>
          obtain ⟨k, h, hk2, rfl, rfl, hh, hT7⟩ := hrel
          by_cases hlt2 : k < l.length
          · obtain ⟨cs, b, off, ⟨rfl, hwf⟩, _, rfl, hcell⟩ := HR.out k _ (List.getElem?_eq_getElem hlt2)
            have g0 := hT7.out.chg.cell (hcell 0 _ rfl) (fun e => e)
            rw [Nat.mul_one, Nat.add_zero] at g0
            obtain ⟨y, hy⟩ := named (l[k])
            rw [← hy.out] at g0
            clear hwf hcell
            obtain ⟨q, hq, hq5⟩ := uB y
            go_wp2_with fail
            rw [hq]
            by_cases hqh : q < h
            · have hbk := m_back ⟨hM1, hM4⟩ hh.out hqh
              obtain ⟨L, hL⟩ := named (min ((q : Int) + 1) (M : Int))
              rw [← hL.out] at hbk
              have HBK := hid hbk
              have hL5 : 0 ≤ L ∧ L ≤ 5 := by have := hL.out; omega
              obtain ⟨hL6, hL7⟩ := hL5
              have hqi : (q : Int) < (h : Int) := by omega
              have HQH := hid hqh
              clear hbk hqh
              refine (tbBack hT7.out 7 q _ _ _ _ (hid HBK.out.symm)).mono ?_
              rintro e w8 ⟨rfl, hT8⟩
              go_wp2_with fail
              all_goals first
                | (exfalso; have := hL.out; omega)
                | (go_roundw
                   case rel => exact ⟨k + 1, q + 1, by omega, by go_num, by go_num, hid ⟨by omega, by have := hh.out; omega⟩, hid hT8⟩
                   case measure => simp [toN]; omega)
            · have hbk := m_none ⟨hM1, hM4⟩ hh.out (show h ≤ q by omega)
              have HBK := hid hbk
              have hqi : (h : Int) ≤ (q : Int) := by omega
              clear hbk
              refine (tbBack hT7.out 7 q _ _ _ _ (hid HBK.out.symm)).mono ?_
              rintro e w8 ⟨rfl, hT8⟩
              go_wp2_with fail
              go_roundw
              case rel => exact ⟨k + 1, h, by omega, by go_num, rfl, hh, hid hT8⟩
              case measure => simp [toN]; omega
          · obtain rfl : l.length = k := by omega
            go_wp2
            go_ret
            exact ⟨rfl, hT7.out.chg⟩
end Go.Proofs.Ytmikbjlgcndmeaa
