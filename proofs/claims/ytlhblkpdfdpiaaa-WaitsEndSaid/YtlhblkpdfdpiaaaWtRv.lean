import Derived.Test.YtlhblkpdfdpiaaaWtRc
namespace Go.Proofs.Ytlhblkpdfdpiaaa.Wt
open Go.RowKit Go.ChangeMaps Go.MapKept
set_option linter.unusedVariables false
set_option linter.unusedSimpArgs false
set_option linter.unnecessarySimpa false
set_option maxHeartbeats 16000000

set_option maxRecDepth 100000 in
theorem rwo_calls (w : World) (v : Value) (e : Edges) (hv : Rd w 2 encE v e) (he : e.length ≤ 1000) (n : Int) :
    Calls Try.prog 39 #[v, .int .i64 n] w fun ee w' => ∃ v', ee = .returned v' ∧ Hid (w'.ownsRow w.heap.size 50 2 v' (wo e n).length ((wo e n).flatMap encE)) ∧ Hid (Chg NoB w w') := by
  obtain ⟨a, c, rfl, q1, q2, hr⟩ := hv
  unfold maxLen at q2
  have HR := hid hr
  clear hr
  go_enter Try.func39, Try.ntmps39
  go_wp2_with fail
  go_loopw [5, 6] (fun s5 s6 wr => ∃ i : Nat, i ≤ e.length ∧ s6 = .int .i64 i ∧ Hid (wr.ownsRow w.heap.size 50 2 s5 (wo (e.take i) n).length ((wo (e.take i) n).flatMap encE) ∧ Chg NoB w wr)) (fun _ i _ => e.length - (intOf i).toNat)
  case atStart => exact ⟨0, by omega, rfl, hid ⟨World.ownsRow_nil _ _ _ _, Chg.refl _ _⟩⟩
  case round =>
    obtain ⟨i, hi, rfl, hI⟩ := hrel
    obtain ⟨oa, oc, e1⟩ := ownsForm hI.out.1
    subst e1
    by_cases hlt : i < e.length
    · obtain ⟨⟨x, y⟩, hx⟩ := named e[i]
      obtain ⟨b, off, hab, h2⟩ := Rd.cells HR.out hI.out.2 i hlt
      rw [← hx.out] at h2
      subst hab
      have g0 := h2 0 _ rfl
      have g1 := h2 1 _ rfl
      simp only [Nat.add_zero] at g0
      have htk : e.take (i + 1) = e.take i ++ [(x, y)] := by rw [List.take_succ_eq_append_getElem hlt, hx.out]
      have HTK := hid htk
      obtain ⟨O, hO⟩ := named (wo (e.take i) n)
      have hol : O.length ≤ 1000 := by rw [hO.out]; have := wo_len (e.take i) n; rw [List.length_take] at this; omega
      rw [← hO.out] at hI
      rw [← hO.out]
      have hI := hI
      clear h2 htk
      cases h1 : x == n
      · cases h3 : y == n
        · have b1 : (x != n) = true := by rw [bne, h1]; rfl
          have b2 : (y != n) = true := by rw [bne, h3]; rfl
          have HWN : Hid (wo (e.take (i + 1)) n = O ++ [(x, y)]) := hid (by rw [HTK.out, wo_snoc, hO.out]; unfold hit; simp only [h1, h3]; rfl)
          clear h1 h3
          go_wp2_with (at_builtin; refine step_app1 slE rfl _ _ rfl (World.ownsRow.alloc hI.out.1 _) rfl wr.heap.size [.int .i64 x, .int .i64 y] rfl (blk_new _ _) rfl rfl (by simp [Value.oneCell']) (by omega) (by unfold maxLen; omega) (by have := hI.out.2.size; simp; omega) ?_; intro v5 w5 hv5 hc5 hn5 hnil)
          obtain ⟨a5, n5, rfl⟩ := ownsForm hv5
          have HV5 := hid hv5
          have HC5 := hid ((hI.out.2.alloc (.cells #[.int .i64 x, .int .i64 y] 50)).new hc5 (fun b hb => (OwnB.ge hI.out.1 b hb).1))
          clear hv5 hc5 hn5 hnil g0 g1
          go_wp2_with fail
          go_roundw
          case rel => exact ⟨i + 1, by omega, by go_num, hid ⟨by rw [HWN.out]; simpa [encE] using HV5.out, HC5.out⟩⟩
          case measure => simp [intOf]; omega
        · have b1 : (x != n) = true := by rw [bne, h1]; rfl
          have b2 : (y != n) = false := by rw [bne, h3]; rfl
          have HWN : Hid (wo (e.take (i + 1)) n = O) := hid (by rw [HTK.out, wo_snoc, hO.out]; unfold hit; simp only [h1, h3]; simp)
          clear h1 h3
          go_wp2_with fail
          go_roundw
          case rel => exact ⟨i + 1, by omega, by go_num, by rw [HWN.out]; exact hI⟩
          case measure => simp [intOf]; omega
      · have b1 : (x != n) = false := by rw [bne, h1]; rfl
        have HWN : Hid (wo (e.take (i + 1)) n = O) := hid (by rw [HTK.out, wo_snoc, hO.out]; unfold hit; simp only [h1]; simp)
        clear h1
        go_wp2_with fail
        go_roundw
        case rel => exact ⟨i + 1, by omega, by go_num, by rw [HWN.out]; exact hI⟩
        case measure => simp [intOf]; omega
    · obtain rfl : e.length = i := by omega
      rw [List.take_length] at hI
      rw [List.take_length]
      go_wp2_with fail
      go_ret
      exact ⟨_, rfl, hid hI.out.1, hid hI.out.2⟩

theorem max_all (c : Int) (cs : List Int) : (c :: cs).foldl max c = maxL c cs := by
  unfold maxL
  rw [List.foldl_cons, Int.max_self]
set_option maxRecDepth 100000 in
theorem rvic_calls (w : World) (v : Value) (e : Edges) (hv : Rd w 2 encE v e) (he : e.length ≤ 1000) (hvl : ∀ b, OwnB v b → b < w.heap.size) :
    Calls Try.prog 15 #[v] w fun ee w' => ∃ v', ee = .returned v' ∧ Hid (OwnL w w' v' (victims e)) ∧ Hid (Chg NoB w w') := by
  have HV := hid hv
  have HVL := hid hvl
  clear hv hvl
  go_enter Try.func15, Try.ntmps15
  go_wp2_with fail
  go_loopg [0, 3] e.length (fun k s0 s3 wr => Hid (∃ (l : Edges) (out : List Int), l.length ≤ k ∧ l.length ≤ e.length ∧ OwnL w wr s3 out ∧ Rd wr 2 encE s0 l ∧ victims e = out ++ victims l ∧ Chg NoB w wr ∧ (∀ b, OwnB s0 b → ¬ OwnB s3 b ∧ b < wr.heap.size) ∧ out.length + l.length ≤ e.length))
  case atStart => exact hid ⟨e, [], Nat.le_refl _, Nat.le_refl _, ⟨World.ownsRow_nil _ _ _ _, fun _ => rfl⟩, HV.out, rfl, Chg.refl _ _, fun b hb => ⟨by simp [OwnB, Value.ownBlock], HVL.out b hb⟩, by simp⟩
  case round =>
    obtain ⟨l, out, hk, hle, hO, hR, hVi, hC, hD, hN⟩ := hrel.out
    rename World => wq
    have HO := hid hO
    have HRd := hid hR
    have HVi := hid hVi
    have HC := hid hC
    have HD := hid hD
    obtain ⟨oa, oc, e1⟩ := ownsForm hO.1
    subst e1
    obtain ⟨sa, sc, e1, _⟩ := hR
    subst e1
    have hl1 : l.length ≤ 1000 := by omega
    clear hrel hO hVi hC hD
    cases hc : cyc l with
    | nil =>
      have HCY := hid hc
      have HFN : Hid (victims e = out) := hid (by rw [HVi.out, victims_nil hc, List.append_nil])
      clear hc
      go_wp2_with (go_at_call 13; refine (rcyc_calls wq _ l HRd.out hl1).mono ?_; rintro ee w2 ⟨v2, rfl, h2, hc2⟩; obtain rfl := h2.out.2 HCY.out)
      go_ret
      exact ⟨_, rfl, hid (by rw [HFN.out]; exact ⟨ownsRow.chg HO.out.1 hc2.out (fun _ _ => nob), HO.out.2⟩), hid (HC.out.trans' hc2.out)⟩
    | cons c cs =>
      have HCY := hid hc
      have hlt := wo_lt hc
      have HLT := hid hlt
      have HVW := hid (victims_cons hc)
      have hcl : (cyc l).length ≤ 2001 := by
        unfold cyc
        cases hff : (nm l).find? (fun n => dst l n n != 0) with
        | none => simp
        | some x =>
          have := List.find?_some hff
          simp at this
          have h9 := (dst_pos (e := l) (a := x) (b := x) (by omega)).2
          have := nm_len l
          simp [cgo_len]; omega
      have hlen0 : 0 < (cyc l).length := by rw [hc]; simp
      have hz : (((cyc l).length : Int) == 0) = false := by simp; intro h; rw [h] at hlen0; simp at hlen0
      have hz2 : ((cyc l).length == 0) = false := by simp; intro h; rw [h] at hlen0; simp at hlen0
      have HL0 := hid hlen0
      clear hc hlt hlen0
      go_upto_region 5 with (go_at_call 13; refine (rcyc_calls wq _ l HRd.out hl1).mono ?_; rintro ee w2 ⟨v2, rfl, h2, hc2⟩; obtain ⟨g2, k2, e2⟩ := nsl_ne h2.out.1 (by rw [HCY.out]; simp); subst e2)
      obtain ⟨_, _, e3, m1, m2, hr3⟩ := Rd.ints_of h2.out.1
      cases e3
      have HR3 := hid hr3
      have HC2 := hid hc2.out
      have HO2 := hid (ownsRow.chg HO.out.1 HC2.out (fun _ _ => nob))
      have HRd2 := hid (HRd.out.keep HC2.out (fun _ _ _ => nob))
      have HCw := hid (HC.out.trans' HC2.out)
      obtain ⟨L, hL⟩ := named (cyc l)
      rw [← hL.out] at HR3 hcl HL0 HCY hz hz2
      rw [← hL.out]
      have hc0 : L[0]? = some c := by rw [HCY.out]; rfl
      obtain ⟨_, _, e4, h5⟩ := HR3.out 0 c hc0
      cases e4
      have g0 := h5 0 _ rfl
      simp only [Nat.add_zero, Nat.zero_mul, Nat.zero_add] at g0
      have hli : (0 : Int) < (L.length : Int) := by have := HL0.out; omega
      have hol : out.length ≤ 1000 := by omega
      clear hr3 h2 hc2 h5 hc0
      go_wp2_with fail
      go_loopw [5, 6] (fun s5 s6 wr => ∃ t : Nat, t ≤ L.length ∧ s6 = .int .i64 t ∧ s5 = .int .i64 ((L.take t).foldl max c) ∧ w2 = wr) (fun _ t _ => L.length - (intOf t).toNat)
      case atStart => exact ⟨0, by omega, rfl, rfl, rfl⟩
      case round =>
        obtain ⟨t, ht, rfl, rfl, rfl⟩ := hrel
        by_cases htl : t < L.length
        · obtain ⟨y, hy⟩ := named L[t]
          obtain ⟨_, _, e4, h5⟩ := HR3.out t y (by rw [List.getElem?_eq_getElem htl, hy.out])
          cases e4
          have g1 := h5 0 _ rfl
          simp only [Nat.add_zero, Nat.mul_one, Nat.zero_add] at g1
          have HTN : Hid ((L.take (t + 1)).foldl max c = max ((L.take t).foldl max c) y) := hid (by rw [List.take_succ_eq_append_getElem htl, List.foldl_append, ← hy.out]; rfl)
          obtain ⟨mx, hmx⟩ := named ((L.take t).foldl max c)
          rw [← hmx.out] at HTN ⊢
          have ht0 : (0 : Int) ≤ (t : Int) := by omega
          have ht1 : (t : Int) < (L.length : Int) := by omega
          clear h5 g0
          go_wp2_with fail
          go_roundw
          case rel => exact ⟨t + 1, by omega, by go_num, by rw [HTN.out], by trivial⟩
          case measure => simp [intOf]; omega
        · obtain rfl : L.length = t := by omega
          rw [List.take_length]
          obtain ⟨n, hn⟩ := named (L.foldl max c)
          have HMX : Hid (n = maxL c cs) := hid (by rw [hn.out, HCY.out, max_all])
          rw [← hn.out]
          rw [← HMX.out] at HLT HVW
          clear g0
          go_wp2_with (first
            | (at_builtin; refine step_app1 slInt rfl _ _ rfl (World.ownsRow.alloc HO2.out _) rfl w2.heap.size [.int .i64 n] rfl (blk_new _ _) rfl rfl (by simp [Value.oneCell']) (by omega) (by unfold maxLen; omega) (by have := HCw.out.size; simp; omega) ?_; intro v5 w5 hv5 hc5 hn5 hnil5; have HC5 : Hid (Chg (OwnB (.slice oa out.length oc)) w2 w5) := hid (((Chg.refl (OwnB (.slice oa out.length oc)) w2).alloc _).trans' hc5); have HN5 : Hid (∀ i, OwnB v5 i → OwnB (.slice oa out.length oc) i ∨ w2.heap.size ≤ i) := hid (fun i hi => (hn5 i hi).elim .inl (fun h => by simp at h; right; omega)); have HR5 : Hid (Rd w5 2 encE (.slice sa l.length sc) l) := hid (HRd2.out.keep HC5.out (fun b off hb h => by obtain ⟨n', c', hb⟩ := hb; exact (HD.out b (by rw [hb]; simp [OwnB, Value.ownBlock])).1 h)))
            | (go_at_call 39; refine (rwo_calls w5 _ l HR5.out hl1 n).mono ?_; rintro ee w6 ⟨v6, rfl, ho6, hc6⟩))
          obtain ⟨a6, n6, e6⟩ := ownsForm ho6.out
          subst e6
          obtain ⟨a5, n5, e5⟩ := ownsForm hv5
          subst e5
          have HV5 := hid hv5
          have hz5 := HC5.out.size
          have hz6 := hc6.out.size
          go_roundg (wo l n).length
          case measure => have := HLT.out; omega
          case rel =>
            refine hid ⟨wo l n, out ++ [n], Nat.le_refl _, by have := HLT.out; omega, ⟨by simpa using ownsRow.chg HV5.out hc6.out (fun _ _ => nob), fun h => by simp at h⟩, Rd.of_own (enc := encE) (size := 2) (fun _ => rfl) ho6.out, by rw [HVi.out, HVW.out]; simp, (HCw.out.new HC5.out (fun i hi => (OwnB.ge HO2.out i hi).1)).trans' hc6.out, fun b hb => ⟨fun h => ?_, (OwnB.ge ho6.out b hb).2⟩, by have := HLT.out; simp; omega⟩
            have h1 := (OwnB.ge ho6.out b hb).1
            have h2 := (OwnB.ge HV5.out b h).2
            omega
end Go.Proofs.Ytlhblkpdfdpiaaa.Wt
