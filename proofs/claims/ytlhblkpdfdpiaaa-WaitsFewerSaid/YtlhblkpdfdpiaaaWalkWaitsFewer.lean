import Derived.Test.YtlhblkpdfdpiaaaWtAw
namespace Go.Proofs.Ytlhblkpdfdpiaaa.Wt
open Go.RowKit Go.ChangeMaps Go.MapKept Go.Shelf
set_option linter.unusedVariables false
set_option linter.unusedSimpArgs false
set_option linter.unnecessarySimpa false
set_option maxHeartbeats 8000000

theorem Rd.head {α : Type} {w : World} {size : Nat} {enc : α → List Value} {a : Option Addr} {c : Nat} {l : List α} (h : Rd w size enc (.slice a l.length c) l) (n : Nat) (hn : n ≤ l.length) : Rd w size enc (.slice a n c) (l.take n) := by
  obtain ⟨a', c', e, h1, h2, h3⟩ := h
  cases e
  refine ⟨_, _, by rw [List.length_take, Nat.min_eq_left hn], by rw [List.length_take]; omega, by rw [List.length_take]; omega, fun i x hi => ?_⟩
  rw [List.getElem?_take] at hi
  split at hi
  · exact h3 i x hi
  · cases hi
theorem u64_nonneg (x : Int) : 0 ≤ IntKind.u64.wrap x := by
  simp [IntKind.wrap, IntKind.signed, IntKind.bits]
  omega
theorem w64_small (y : Int) (h1 : -9223372036854775808 ≤ y) (h2 : y ≤ 9223372036854775807) : wrap64 y = y := by
  rw [← IntWalk.i64_left, IntKind.wrap_i64]; omega
theorem uMod (x m : Int) (h0 : 0 < m) (hn : m ≤ 1001) : ∃ M : Nat, wrap64 ((IntKind.u64.wrap x).tmod m) = (M : Int) ∧ (M : Int) < m := by
  have h := u64_nonneg x
  rw [Int.tmod_eq_emod_of_nonneg h]
  have h1 := Int.emod_nonneg (IntKind.u64.wrap x) (show m ≠ 0 by omega)
  have h2 := Int.emod_lt_of_pos (IntKind.u64.wrap x) h0
  rw [w64_small _ (by omega) (by omega)]
  exact ⟨((IntKind.u64.wrap x) % m).toNat, by omega, by omega⟩

set_option maxRecDepth 100000 in
theorem waitsFewer_walk (w : World) (v : Value) (l : Edges) (hv0 : RdR w 2 (fun x cs => cs = encE x ∧ wf64 x.1 ∧ wf64 x.2) v l) (q : Int) (wq : (Lit.int .i64 q).wf = true) :
    Calls Try.prog 6 #[v, .int .i64 q] w fun e w' => e = .returned (.bool true) ∧ Chg NoB w w' := by
  obtain ⟨hv, hwf⟩ := RdE.rd hv0
  have HV := hid hv
  have HWF := hid hwf
  have HW : Hid (EdW l) := hid (EdW.of hwf)
  obtain ⟨a, c, rfl, q1, q2, hr⟩ := hv
  unfold maxLen at q2
  have HR := hid hr
  clear hv0 hwf hr wq
  by_cases h40 : 40 < l.length
  · have h40i : (40 : Int) < (l.length : Int) := by omega
    go_enter Try.func6, Try.ntmps6
    go_upto_region 2 with (go_at_call 8; refine (awake w).mono ?_; rintro e w1 ⟨rfl, c1⟩)
    go_wp2_with fail
    refine (awake w1).mono ?_
    rintro e w2 ⟨rfl, c2⟩
    go_wp2
    go_ret
    exact ⟨rfl, c1.out.trans' c2.out⟩
  have h40i : ¬ (40 : Int) < (l.length : Int) := by omega
  have hl : l.length ≤ 40 := by omega
  have hl2 : l.length ≤ 1000 := by omega
  clear h40
  go_enter Try.func6, Try.ntmps6
  go_upto_region 3 with (go_at_call 8; refine (awake w).mono ?_; rintro e w1 ⟨rfl, c1⟩)
  go_cut [1] (fun s1 wx => ∃ m : Nat, m ≤ l.length ∧ s1 = .int .i64 m ∧ Hid (Chg NoB w wx))
  case first =>
    go_wp2_with fail
    go_meet
    obtain ⟨M, h1, h2⟩ := uMod q ((l.length : Int) + 1) (by omega) (by omega)
    exact ⟨M, by omega, by rw [h1], c1⟩
  case rest =>
    obtain ⟨m, hm, rfl, HC2⟩ := hcut
    clear c1
    have hm0 : (0 : Int) ≤ (m : Int) := by omega
    have hm1 : (m : Int) ≤ (c : Int) := by omega
    have HV2 := hid (HV.out.keep HC2.out (fun _ _ _ => nob))
    have HVT := hid (Rd.head HV.out m hm)
    have hlm : (l.take m).length ≤ 1000 := by rw [List.length_take]; omega
    have HWT : Hid (EdW (l.take m)) := hid (EdW.of fun x hx => HWF.out x (List.mem_of_mem_take hx))
    have hmid : Hid (∀ (w' : World), True) := hid (fun _ => trivial)
    have KEY : ∀ w' : World, Hid (Chg NoB w w') → True := fun _ _ => trivial
    clear hmid KEY
    go_upto_region 4 with fail
    go_cut [33] (fun s33 wy => s33 = .bool false ∧ Hid (Chg NoB w wy))
    case first =>
      by_cases hcy : cyc l = []
      · have HCY := hid hcy
        have HCT : Hid (cyc (l.take m) = []) := hid (cyc_sub (fun x hx => List.mem_of_mem_take hx) hcy)
        clear hcy
        go_wp2_with fail
        refine (cycle_calls wc _ l HV2.out hl2 HW.out).mono ?_
        rintro ee w3 ⟨v3, rfl, h3, c3⟩
        obtain rfl := h3.out.2 HCY.out
        go_wp2_with fail
        refine (cycle_calls w3 _ (l.take m) (HVT.out.keep (HC2.out.trans' c3.out) (fun _ _ _ => nob)) hlm HWT.out).mono ?_
        rintro ee w4 ⟨v4, rfl, h4, c4⟩
        obtain rfl := h4.out.2 HCT.out
        go_wp2_with fail
        go_meet
        exact ⟨rfl, hid (HC2.out.trans' (c3.out.trans' c4.out))⟩
      · have hlen0 : 0 < (cyc l).length := List.length_pos_iff.2 hcy
        have hz : (((cyc l).length : Int) == 0) = false := by simp; omega
        go_wp2_with fail
        refine (cycle_calls wc _ l HV2.out hl2 HW.out).mono ?_
        rintro ee w3 ⟨v3, rfl, h3, c3⟩
        obtain ⟨a3, n3, e3⟩ := ownsForm h3.out.1
        subst e3
        go_wp2_with fail
        go_meet
        exact ⟨rfl, hid (HC2.out.trans' c3.out)⟩
    case rest =>
      obtain ⟨rfl, HC⟩ := hcut
      rcases Nat.eq_zero_or_pos l.length with h0 | h0
      · have hz1 : ((l.length : Int) == 0) = true := by rw [h0]; rfl
        go_wp2_with fail
        go_ret
        exact ⟨rfl, HC.out⟩
      · have hz1 : ((l.length : Int) == 0) = false := by rw [beq_eq_false_iff_ne]; omega
        obtain ⟨⟨x, y⟩, hx⟩ := named l[0]
        have hin : (x, y) ∈ l := by rw [hx.out]; exact List.getElem_mem h0
        obtain ⟨b, off, hab, h2⟩ := Rd.cells HR.out HC.out 0 h0
        rw [← hx.out] at h2
        subst hab
        have g0 := h2 0 _ rfl
        have g1 := h2 1 _ rfl
        simp only [Nat.add_zero, Nat.zero_mul] at g0 g1
        have h0i : (0 : Int) < (l.length : Int) := by omega
        have HWN : Hid (EdW ((y, x) :: l)) := hid (EdW.of fun z hz => by
          rcases List.mem_cons.1 hz with rfl | hz
          · exact ⟨(HWF.out _ hin).2, (HWF.out _ hin).1⟩
          · exact HWF.out z hz)
        have HCY : Hid (cyc ((y, x) :: l) ≠ []) := hid (cyc_back hin)
        have hlen0 : (0 : Int) < ((cyc ((y, x) :: l)).length : Int) := by have h9 : 0 < (cyc ((y, x) :: l)).length := List.length_pos_iff.2 HCY.out; omega
        have HVc := hid (HV.out.keep HC.out (fun _ _ _ => nob))
        clear h2 hin
        go_upto_region 9 with fail
        obtain ⟨ob, hob⟩ := named wc.heap.size
        have hw3 : Hid (Chg NoB wc (wc.alloc (.cells #[.int .i64 x, .int .i64 y] 50)) ∧ (wc.alloc (.cells #[.int .i64 x, .int .i64 y] 50)).heap[ob]? = some (.cells #[.int .i64 x, .int .i64 y] 50 (0, 0))) := hid ⟨(Chg.refl NoB wc).alloc _, by rw [hob.out]; exact blk_new _ _⟩
        rw [← hob.out]
        refine wp_gen (fun W => Hid (Chg NoB wc W ∧ W.heap[ob]? = some (.cells #[.int .i64 x, .int .i64 y] 50 (0, 0)))) hw3 ?_
        intro W HW3
        clear hw3 g0 g1
        have y0 : W.cell? ⟨ob, 0, none⟩ = some (.int .i64 x) := cell_blk HW3.out.2 0
        have y1 : W.cell? ⟨ob, 1, none⟩ = some (.int .i64 y) := cell_blk HW3.out.2 1
        have HVW := hid (HVc.out.keep HW3.out.1 (fun _ _ _ => nob))
        go_wp2_with (at_builtin; refine step_appO slE rfl _ _ rfl (n := 1) (xs := encE (y, x)) (base := W.heap.size) (v := .slice (some ⟨W.heap.size, 0, none⟩) 1 1) ⟨by simp [encE], .inr ⟨W.heap.size, 1, _, rfl, Nat.le_refl _, blk_new _ _, Nat.le_refl _, by simp [maxLen], by simp, by simp [encE]⟩⟩ (by simp) rfl (enc := encE) (fun x => rfl) (fun x _ u hu => by simp [encE] at hu; rcases hu with rfl | rfl <;> rfl) (HVW.out.keep ((Chg.refl NoB W).alloc _) (fun _ _ _ => nob)) rfl (by omega) (by unfold maxLen; omega) ?_; intro v5 w5 ho5 hc5 hn5)
        have HO5 : Hid (w5.ownsRow W.heap.size 50 2 v5 ((y, x) :: l).length (((y, x) :: l).flatMap encE)) := hid (by
          have := ho5
          rw [Nat.add_comm] at this
          simpa [List.flatMap_cons] using this)
        have HC5 := hid (HC.out.trans' (HW3.out.1.trans' (((Chg.refl NoB W).alloc (.cells #[.int .i64 y, .int .i64 x] 50)).new hc5 (fun i hi => Nat.le_of_eq (show W.heap.size = i by simpa [OwnB, Value.ownBlock] using hi)))))
        have HR5 := hid (Rd.of_own (enc := encE) (size := 2) (l := (y, x) :: l) (fun _ => rfl) HO5.out)
        clear ho5 hc5 hn5
        refine (cycle_calls w5 v5 ((y, x) :: l) HR5.out (by simp; omega) HWN.out).mono ?_
        rintro ee w6 ⟨v6, rfl, h6, c6⟩
        obtain ⟨a6, n6, e6⟩ := ownsForm h6.out.1
        subst e6
        go_wp2_with fail
        go_ret
        exact ⟨show Ending.returned (.bool (decide (0 < (cyc ((y, x) :: l)).length))) = _ by rw [decide_eq_true (List.length_pos_iff.2 HCY.out)], HC5.out.trans' c6.out⟩
end Go.Proofs.Ytlhblkpdfdpiaaa.Wt
namespace Go.Proofs.Ytlhblkpdfdpiaaa
export Wt (waitsFewer_walk)
end Go.Proofs.Ytlhblkpdfdpiaaa
