import Derived.Test.YtlhblkpdfdpiaaaWtAw
namespace Go.Proofs.Ytlhblkpdfdpiaaa.Wt
open Go.RowKit Go.ChangeMaps Go.MapKept Go.Shelf
set_option linter.unusedVariables false
set_option linter.unusedSimpArgs false
set_option linter.unnecessarySimpa false
set_option maxHeartbeats 8000000

theorem Rd.nil0 {α : Type} (w : World) (size : Nat) (enc : α → List Value) : Rd w size enc (.slice none 0 0) [] := ⟨none, 0, rfl, Nat.le_refl _, by simp, fun i x hi => by simp at hi⟩
theorem cyc_len {l : Edges} (h : l.length ≤ 1000) : (cyc l).length ≤ 2001 := by
  unfold cyc
  cases hff : (nm l).find? (fun n => dst l n n != 0) with
  | none => simp
  | some x =>
    have := List.find?_some hff
    simp at this
    have h9 := (dst_pos (e := l) (a := x) (b := x) (by omega)).2
    have := nm_len l
    simp [cgo_len]; omega
set_option maxRecDepth 100000 in
theorem rord_cyc (w : World) (v : Value) (e : Edges) (hv : Rd w 2 encE v e) (he : e.length ≤ 1000) (hc : cyc e ≠ []) :
    Calls Try.prog 10 #[v] w fun ee w' => ee = .returned (.tuple #[.slice none 0 0, .bool false]) ∧ Hid (Chg NoB w w') := by
  have HV := hid hv
  have hlen0 : 0 < (cyc e).length := by rcases h : cyc e with _ | _; · exact absurd h hc
                                        · simp
  have hli : (0 : Int) < ((cyc e).length : Int) := by omega
  clear hc
  go_enter Try.func10, Try.ntmps10
  go_upto_region 2 with (go_at_call 30; refine (rnames_calls w _ e HV.out he).mono ?_; rintro ee w1 ⟨lv, rfl, hL⟩)
  have HC1 := hid hL.out.chg
  obtain ⟨la, lc, e1, l1, l2, l3⟩ := hL.out.rd
  subst e1
  clear hL l3
  go_wp2_with (go_at_call 13; refine (rcyc_calls w1 _ e (HV.out.keep HC1.out (fun _ _ _ => nob)) he).mono ?_; rintro ee w2 ⟨v2, rfl, h2, hc2⟩; obtain ⟨a2, n2, e2⟩ := ownsForm h2.out.1; subst e2)
  go_ret2
  exact ⟨rfl, hid (HC1.out.trans' hc2.out)⟩
set_option maxRecDepth 100000 in
theorem rvic_nil (w : World) (v : Value) (hv : Rd w 2 encE v ([] : Edges)) :
    Calls Try.prog 15 #[v] w fun ee w' => ∃ v', ee = .returned v' ∧ Hid (OwnL w w' v' (victims [])) ∧ Hid (Chg NoB w w') := by
  have HV := hid hv
  have HCY : Hid (cyc ([] : Edges) = []) := hid (by decide +kernel)
  go_enter Try.func15, Try.ntmps15
  go_wp2_with fail
  go_loopg [0, 3] 0 (fun k s0 s3 wr => s0 = v ∧ s3 = .slice none 0 0 ∧ w = wr)
  case atStart => exact ⟨rfl, rfl, rfl⟩
  case round =>
    obtain ⟨rfl, rfl, rfl⟩ := hrel
    obtain ⟨sa, sc, e1, _⟩ := HV.out
    subst e1
    go_wp2_with (go_at_call 13; refine (rcyc_calls w _ [] HV.out (by simp)).mono ?_; rintro ee w2 ⟨v2, rfl, h2, hc2⟩; obtain rfl := h2.out.2 HCY.out)
    go_ret
    exact ⟨_, rfl, hid ⟨World.ownsRow_nil _ _ _ _, fun _ => rfl⟩, hc2⟩
theorem rvic_any (w : World) (v : Value) (e : Edges) (hv : Rd w 2 encE v e) (he : e.length ≤ 1000) :
    Calls Try.prog 15 #[v] w fun ee w' => ∃ v', ee = .returned v' ∧ Hid (OwnL w w' v' (victims e)) ∧ Hid (Chg NoB w w') := by
  rcases Nat.eq_zero_or_pos e.length with h0 | h0
  · obtain rfl : e = [] := List.eq_nil_of_length_eq_zero h0
    exact rvic_nil w v hv
  · refine rvic_calls w v e hv he ?_
    obtain ⟨a, c, rfl, q1, q2, hr⟩ := hv
    obtain ⟨b, off, rfl, h2⟩ := hr 0 _ (List.getElem?_eq_getElem h0)
    have := h2 0 _ rfl
    intro k hk
    have hk : k = b := by simpa [OwnB, Value.ownBlock, eq_comm] using hk
    subst hk
    unfold World.cell? at this
    split at this
    · rename_i h; exact (Array.getElem?_eq_some_iff.1 h).1
    · cases this

set_option maxRecDepth 100000 in
theorem waitsTell_walk (w : World) (v : Value) (l : Edges) (hv0 : RdR w 2 (fun x cs => cs = encE x ∧ wf64 x.1 ∧ wf64 x.2) v l) :
    Calls Try.prog 3 #[v] w fun e w' => e = .returned (.bool true) ∧ Chg NoB w w' := by
  obtain ⟨hv, hwf⟩ := RdE.rd hv0
  have HV := hid hv
  have HW : Hid (EdW l) := hid (EdW.of hwf)
  obtain ⟨a, c, rfl, q1, q2, hr⟩ := hv
  unfold maxLen at q2
  clear hv0 hwf hr
  by_cases h40 : 40 < l.length
  · have h40i : (40 : Int) < (l.length : Int) := by omega
    go_enter Try.func3, Try.ntmps3
    go_upto_region 2 with (go_at_call 8; refine (awake w).mono ?_; rintro e w1 ⟨rfl, c1⟩)
    go_wp2_with fail
    refine (awake w1).mono ?_
    rintro e w2 ⟨rfl, c2⟩
    go_wp2
    go_ret
    exact ⟨rfl, c1.out.trans' c2.out⟩
  have h40i : ¬ (40 : Int) < (l.length : Int) := by omega
  have hl : l.length ≤ 1000 := by omega
  go_enter Try.func3, Try.ntmps3
  go_upto_region 3 with (go_at_call 8; refine (awake w).mono ?_; rintro e w1 ⟨rfl, c1⟩)
  have HC1 := hid c1.out
  have HV1 := hid (HV.out.keep HC1.out (fun _ _ _ => nob))
  clear c1
  go_wp2_with (at_builtin; refine step_appO slE rfl _ _ rfl (n := 0) (xs := []) (base := w1.heap.size) (v := .slice (some ⟨w1.heap.size, 0, none⟩) 0 0) ⟨by simp, .inr ⟨w1.heap.size, 0, _, rfl, Nat.le_refl _, blk_new _ _, Nat.le_refl _, by simp [maxLen], by simp, by simp⟩⟩ (by simp) rfl (enc := encE) (fun x => rfl) (fun x _ u hu => by simp [encE] at hu; rcases hu with rfl | rfl <;> rfl) (HV1.out.keep ((Chg.refl NoB w1).alloc _) (fun _ _ _ => nob)) rfl (by omega) (by unfold maxLen; omega) ?_; intro v5 w5 ho5 hc5 hn5)
  simp only [Nat.zero_add, List.nil_append] at ho5
  obtain ⟨a5, n5, e5⟩ := ownsForm ho5
  subst e5
  have HC5 := hid (HC1.out.trans' (((Chg.refl NoB w1).alloc (.cells #[] 50)).new hc5 (fun i hi => Nat.le_of_eq (show w1.heap.size = i by simpa [OwnB, Value.ownBlock] using hi))))
  have HR5 := hid (Rd.of_own (enc := encE) (size := 2) (l := l) (fun _ => rfl) ho5)
  have HV5 := hid (HV.out.keep HC5.out (fun _ _ _ => nob))
  clear ho5 hc5 hn5 HV1 HC1
  have HRW : Hid (∀ {w' : World} {v' : Value}, OwnL w5 w' v' (cyc l) → Rd w' 1 encI v' (cyc l)) := hid (fun h => Rd.ints_of h.1)
  by_cases hcy : cyc l = []
  · have HCY := hid hcy
    clear hcy
    refine (order_ok w5 _ l HR5.out hl HW.out HCY.out).mono ?_
    rintro ee w6 ⟨lv, rfl, ho6, hc6⟩
    obtain ⟨la, lc, e6⟩ := ownsForm ho6.out.1
    subst e6
    go_wp2_with fail
    refine (rord_calls w6 _ l (HV5.out.keep hc6.out (fun _ _ _ => nob)) hl HCY.out).mono ?_
    rintro ee w7 ⟨mv, rfl, ho7, hc7⟩
    obtain ⟨ma, mc, e7⟩ := ownsForm ho7.out.1
    subst e7
    have HL7 := hid ((Rd.ints_of ho6.out.1).keep hc7.out (fun _ _ _ => nob))
    have HM7 := hid (Rd.ints_of ho7.out.1)
    have HC7 := hid (hc6.out.trans' hc7.out)
    clear ho6 hc6 ho7 hc7
    go_wp2_with fail
    refine (cycle_calls w7 _ l (HV5.out.keep HC7.out (fun _ _ _ => nob)) hl HW.out).mono ?_
    rintro ee w8 ⟨v8, rfl, h8, c8⟩
    obtain ⟨a8, n8, e8⟩ := ownsForm h8.out.1
    subst e8
    go_wp2_with fail
    refine (rcyc_calls w8 _ l (HV5.out.keep (HC7.out.trans' c8.out) (fun _ _ _ => nob)) hl).mono ?_
    rintro ee w9 ⟨v9, rfl, h9, c9⟩
    obtain ⟨a9, n9, e9⟩ := ownsForm h9.out.1
    subst e9
    go_wp2_with fail
    refine (sameC _ _ (cyc l) (cyc l) w9 ((Rd.ints_of h8.out.1).keep c9.out (fun _ _ _ => nob)) (Rd.ints_of h9.out.1) true (hid (by simp))).mono ?_
    rintro ee w10 ⟨rfl, c10⟩
    have HC10 := hid (HC7.out.trans' (c8.out.trans' (c9.out.trans' c10.out)))
    have HV10 := hid (HV5.out.keep HC10.out (fun _ _ _ => nob))
    have HL10 := hid (HL7.out.keep (c8.out.trans' (c9.out.trans' c10.out)) (fun _ _ _ => nob))
    have HM10 := hid (HM7.out.keep (c8.out.trans' (c9.out.trans' c10.out)) (fun _ _ _ => nob))
    clear h8 h9 c8 c9 c10 HL7 HM7 HC7 HV5
    go_wp2_with (at_builtin; refine step_appOw slE rfl _ _ rfl (n := 0) (xs := []) (base := w10.heap.size) (v := .slice (some ⟨w10.heap.size, 0, none⟩) 0 0) ⟨by simp, .inr ⟨w10.heap.size, 0, _, rfl, Nat.le_refl _, blk_new _ _, Nat.le_refl _, by simp [maxLen], by simp, by simp⟩⟩ (by simp) rfl (enc := encE) (fun x => rfl) (fun x _ u hu => by simp [encE] at hu; rcases hu with rfl | rfl <;> rfl) (HV10.out.keep ((Chg.refl NoB w10).alloc _) (fun _ _ _ => nob)) rfl (by omega) (by unfold maxLen; omega) ?_; intro v11 w11 ho11 hc11 hn11)
    simp only [Nat.zero_add, List.nil_append] at ho11
    obtain ⟨a11, n11, e11⟩ := ownsForm ho11
    subst e11
    have HC11 := hid ((((Chg.refl NoB w10).alloc (.cells #[] 50)).new hc11 (fun i hi => Nat.le_of_eq (show w10.heap.size = i by simpa [OwnB, Value.ownBlock] using hi))))
    have HR11 := hid (Rd.of_own (enc := encE) (size := 2) (l := l) (fun _ => rfl) ho11)
    clear ho11 hc11 hn11
    refine (victims_calls w11 _ l HR11.out hl HW.out).mono ?_
    rintro ee w12 ⟨v12, rfl, h12, c12⟩
    obtain ⟨a12, n12, e12⟩ := ownsForm h12.out.1
    subst e12
    go_wp2_with fail
    refine (rvic_any w12 _ l (HV10.out.keep (HC11.out.trans' c12.out) (fun _ _ _ => nob)) hl).mono ?_
    rintro ee w13 ⟨v13, rfl, h13, c13⟩
    obtain ⟨a13, n13, e13⟩ := ownsForm h13.out.1
    subst e13
    go_wp2_with fail
    refine (sameC _ _ (victims l) (victims l) w13 ((Rd.ints_of h12.out.1).keep c13.out (fun _ _ _ => nob)) (Rd.ints_of h13.out.1) true (hid (by simp))).mono ?_
    rintro ee w14 ⟨rfl, c14⟩
    have HC14 := hid (HC11.out.trans' (c12.out.trans' (c13.out.trans' c14.out)))
    go_wp2_with fail
    refine (sameC _ _ (ord l) (ord l) w14 (HL10.out.keep HC14.out (fun _ _ _ => nob)) (HM10.out.keep HC14.out (fun _ _ _ => nob)) true (hid (by simp))).mono ?_
    rintro ee w15 ⟨rfl, c15⟩
    go_wp2_with fail
    go_ret
    exact ⟨rfl, (HC5.out.trans' HC10.out).trans' (HC14.out.trans' c15.out)⟩
  · have HCY := hid hcy
    clear hcy
    refine (order_cyc w5 _ l HR5.out hl HW.out HCY.out).mono ?_
    rintro ee w6 ⟨rfl, hc6⟩
    go_wp2_with fail
    refine (rord_cyc w6 _ l (HV5.out.keep hc6.out (fun _ _ _ => nob)) hl HCY.out).mono ?_
    rintro ee w7 ⟨rfl, hc7⟩
    have HL7 := hid (Rd.nil0 w7 1 encI)
    have HM7 := hid (Rd.nil0 w7 1 encI)
    have HC7 := hid (hc6.out.trans' hc7.out)
    clear hc6 hc7
    go_wp2_with fail
    refine (cycle_calls w7 _ l (HV5.out.keep HC7.out (fun _ _ _ => nob)) hl HW.out).mono ?_
    rintro ee w8 ⟨v8, rfl, h8, c8⟩
    obtain ⟨a8, n8, e8⟩ := ownsForm h8.out.1
    subst e8
    go_wp2_with fail
    refine (rcyc_calls w8 _ l (HV5.out.keep (HC7.out.trans' c8.out) (fun _ _ _ => nob)) hl).mono ?_
    rintro ee w9 ⟨v9, rfl, h9, c9⟩
    obtain ⟨a9, n9, e9⟩ := ownsForm h9.out.1
    subst e9
    go_wp2_with fail
    refine (sameC _ _ (cyc l) (cyc l) w9 ((Rd.ints_of h8.out.1).keep c9.out (fun _ _ _ => nob)) (Rd.ints_of h9.out.1) true (hid (by simp))).mono ?_
    rintro ee w10 ⟨rfl, c10⟩
    have HC10 := hid (HC7.out.trans' (c8.out.trans' (c9.out.trans' c10.out)))
    have HV10 := hid (HV5.out.keep HC10.out (fun _ _ _ => nob))
    have HL10 := hid (HL7.out.keep (c8.out.trans' (c9.out.trans' c10.out)) (fun _ _ _ => nob))
    have HM10 := hid (HM7.out.keep (c8.out.trans' (c9.out.trans' c10.out)) (fun _ _ _ => nob))
    clear h8 h9 c8 c9 c10 HL7 HM7 HC7 HV5
    go_wp2_with (at_builtin; refine step_appOw slE rfl _ _ rfl (n := 0) (xs := []) (base := w10.heap.size) (v := .slice (some ⟨w10.heap.size, 0, none⟩) 0 0) ⟨by simp, .inr ⟨w10.heap.size, 0, _, rfl, Nat.le_refl _, blk_new _ _, Nat.le_refl _, by simp [maxLen], by simp, by simp⟩⟩ (by simp) rfl (enc := encE) (fun x => rfl) (fun x _ u hu => by simp [encE] at hu; rcases hu with rfl | rfl <;> rfl) (HV10.out.keep ((Chg.refl NoB w10).alloc _) (fun _ _ _ => nob)) rfl (by omega) (by unfold maxLen; omega) ?_; intro v11 w11 ho11 hc11 hn11)
    simp only [Nat.zero_add, List.nil_append] at ho11
    obtain ⟨a11, n11, e11⟩ := ownsForm ho11
    subst e11
    have HC11 := hid ((((Chg.refl NoB w10).alloc (.cells #[] 50)).new hc11 (fun i hi => Nat.le_of_eq (show w10.heap.size = i by simpa [OwnB, Value.ownBlock] using hi))))
    have HR11 := hid (Rd.of_own (enc := encE) (size := 2) (l := l) (fun _ => rfl) ho11)
    clear ho11 hc11 hn11
    refine (victims_calls w11 _ l HR11.out hl HW.out).mono ?_
    rintro ee w12 ⟨v12, rfl, h12, c12⟩
    obtain ⟨a12, n12, e12⟩ := ownsForm h12.out.1
    subst e12
    go_wp2_with fail
    refine (rvic_any w12 _ l (HV10.out.keep (HC11.out.trans' c12.out) (fun _ _ _ => nob)) hl).mono ?_
    rintro ee w13 ⟨v13, rfl, h13, c13⟩
    obtain ⟨a13, n13, e13⟩ := ownsForm h13.out.1
    subst e13
    go_wp2_with fail
    refine (sameC _ _ (victims l) (victims l) w13 ((Rd.ints_of h12.out.1).keep c13.out (fun _ _ _ => nob)) (Rd.ints_of h13.out.1) true (hid (by simp))).mono ?_
    rintro ee w14 ⟨rfl, c14⟩
    have HC14 := hid (HC11.out.trans' (c12.out.trans' (c13.out.trans' c14.out)))
    go_wp2_with fail
    refine (sameC _ _ ([] : List Int) ([] : List Int) w14 (HL10.out.keep HC14.out (fun _ _ _ => nob)) (HM10.out.keep HC14.out (fun _ _ _ => nob)) true (hid (by simp))).mono ?_
    rintro ee w15 ⟨rfl, c15⟩
    go_wp2_with fail
    go_ret
    exact ⟨rfl, (HC5.out.trans' HC10.out).trans' (HC14.out.trans' c15.out)⟩
end Go.Proofs.Ytlhblkpdfdpiaaa.Wt
namespace Go.Proofs.Ytlhblkpdfdpiaaa
export Wt (waitsTell_walk)
end Go.Proofs.Ytlhblkpdfdpiaaa
