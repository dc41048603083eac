import Derived.Test.YtlhblkpdfdpiaaaWtRg
namespace Go.Proofs.Ytlhblkpdfdpiaaa.Wt
open Go.RowKit Go.ChangeMaps Go.MapKept
attribute [local go_sem] Go.Oper.rdK
set_option linter.unusedVariables false
set_option linter.unusedSimpArgs false
set_option linter.unnecessarySimpa false
set_option maxHeartbeats 16000000

theorem nxt_at {e : Edges} {i at_ : Int} {left k : Nat} {kk : Int} (hk : (nm e)[k]? = some kk) (hy : e.contains (at_, kk) = true) (hd : dst e kk i = left) (hno : ∀ j, j < k → ∀ y, (nm e)[j]? = some y → (e.contains (at_, y) && dst e y i == left) = false) : nxt e i left at_ = kk := by
  unfold nxt
  have : (nm e).find? (fun k => e.contains (at_, k) && dst e k i == left) = some kk := by
    rw [List.find?_eq_some_iff_getElem]
    obtain ⟨h1, h2⟩ := List.getElem?_eq_some_iff.1 hk
    refine ⟨by rw [hy, hd]; simp, k, h1, h2, fun j hj => ?_⟩
    have := hno j hj _ (List.getElem?_eq_getElem (by omega))
    rw [this]; rfl
  rw [this]; rfl

set_option maxRecDepth 100000 in
theorem rcyc_calls (w : World) (v : Value) (e : Edges) (hv : Rd w 2 encE v e) (he : e.length ≤ 1000) :
    Calls Try.prog 13 #[v] w fun ee w' => ∃ v', ee = .returned v' ∧ Hid (OwnL w w' v' (cyc e)) ∧ Hid (Chg NoB w w') := by
  have HV := hid hv
  have hnl := nm_len e
  clear hv
  go_enter Try.func13, Try.ntmps13
  go_upto_region 2 with (go_at_call 30; refine (rnames_calls w v e HV.out he).mono ?_; rintro ee w1 ⟨lv, rfl, hL⟩)
  have HLR := hid hL.out.rd
  have HC1 := hid hL.out.chg
  obtain ⟨la, lc, e1, l1, l2, l3⟩ := hL.out.rd
  subst e1
  have HL3 := hid l3
  unfold maxLen at l2
  clear hL l3
  go_upto_region 3 with (go_at_call 33; refine (far_calls w1 v _ e (nm e) (HV.out.keep HC1.out (fun _ _ _ => nob)) HLR.out he (by omega) rfl).mono ?_; rintro ee w2 ⟨vo, gs, D, rfl, hF⟩)
  obtain ⟨hF, hgl, hD⟩ := hF.out
  have HF := hid hF
  have HGL := hid hgl
  have HD := hid hD
  obtain ⟨fa, fc, e1⟩ := ownsForm hF.out
  subst e1
  clear hF hgl hD
  have hg1 : gs.length ≤ (nm e).length := by have := HGL.out; omega
  have hg2 : (nm e).length ≤ gs.length := by have := HGL.out; omega
  go_wp2_with fail
  go_loopw [5] (fun s5 wr => ∃ i : Nat, i ≤ (nm e).length ∧ s5 = .int .i64 i ∧ w2 = wr ∧ Hid (∀ a, a < i → ∀ x, (nm e)[a]? = some x → dst e x x = 0)) (fun i _ => (nm e).length - (intOf i).toNat)
  case atStart => exact ⟨0, by omega, rfl, rfl, hid (fun a ha => by omega)⟩
  case round =>
    obtain ⟨i, hi, rfl, rfl, hI⟩ := hrel
    by_cases hlt : i < (nm e).length
    · obtain ⟨x, hx⟩ := named (nm e)[i]
      have HXI : Hid ((nm e)[i]? = some x) := hid (by rw [List.getElem?_eq_getElem hlt, hx.out])
      obtain ⟨gi, og, c1, e1, hc1, hgi, o1, ci⟩ := HF.out.cells (i := i) (by omega)
      cases e1
      have p1 := ci i hlt
      obtain ⟨dd, hdd⟩ := named (D i i)
      rw [← hdd.out] at p1
      have HDD : Hid (dd = dst e x x) := hid (by rw [hdd.out]; exact HD.out i i x x HXI.out HXI.out)
      have hdb : dd ≤ 2000 := by
        rw [HDD.out]
        rcases Nat.eq_zero_or_pos (dst e x x) with h0 | h0
        · omega
        · have := (dst_pos h0).2; omega
      unfold rowV at o1
      have hi0 : (0 : Int) ≤ (i : Int) := by omega
      have hi1 : (i : Int) < ((nm e).length : Int) := by omega
      have hi2 : (i : Int) < (gs.length : Int) := by omega
      clear ci hgi
      rcases Nat.eq_zero_or_pos dd with h0 | h0
      · have hz : ((dd : Int) == 0) = true := by simp [h0]
        have HNX : Hid (∀ a, a < i + 1 → ∀ x, (nm e)[a]? = some x → dst e x x = 0) := hid (fun a ha y hy => by
          rcases Nat.lt_or_ge a i with h3 | h3
          · exact hI.out a h3 y hy
          · obtain rfl : a = i := by omega
            rw [HXI.out] at hy
            cases hy
            rw [← HDD.out, h0])
        have hz2 : (dd == 0) = true := by simpa using h0
        clear h0
        go_wp2_with fail
        go_roundw
        case rel => exact ⟨i + 1, by omega, by go_num, by trivial, HNX⟩
        case measure => simp [intOf]; omega
      · have hz : ((dd : Int) == 0) = false := by simp; omega
        have hz2 : (dd == 0) = false := by simp; omega
        obtain ⟨d, hd⟩ : ∃ d, dd = d + 1 := ⟨dd - 1, by omega⟩
        have HCY : Hid (cyc e = x :: cgo e x d x) := hid (by
          rw [cyc_rnd HXI.out (by rw [← HDD.out]; omega) hI.out]
          unfold rnd
          rw [if_neg (by rw [← HDD.out]; omega), ← HDD.out, hd]; rfl)
        have HDX : Hid (dst e x x = d + 1) := hid (by rw [← HDD.out, hd])
        have hw1 : IntKind.i64.wrap ((dd : Int) - 1) = (d : Int) := by rw [IntKind.wrap_i64]; omega
        obtain ⟨lb, lo, hab, h5⟩ := HL3.out i x HXI.out
        have h5 := HF.out.chg.cell (h5 0 _ rfl) nob
        subst hab
        simp only [Nat.add_zero, Nat.mul_one] at h5
        have H5 := hid h5
        have hd1 : (1 : Int) ≤ (dd : Int) := by omega
        have o1b := ((Chg.refl NoB w2).alloc (.cells #[.int .i64 x] 3)).cell o1 nob
        have p1b := ((Chg.refl NoB w2).alloc (.cells #[.int .i64 x] 3)).cell p1 nob
        clear h0
        have hd9 : d ≤ 1999 := by omega
        have HDe := hid hd
        clear hd
        have HI0 : Hid (∃ (left a : Nat) (out : List Int) (at_ : Int), left ≤ d ∧ Value.int .i64 (d : Int) = .int .i64 (left : Int) ∧ Value.int .i64 (i : Int) = .int .i64 (a : Int) ∧ (w2.alloc (.cells #[.int .i64 x] 3)).ownsRow w2.heap.size 3 1 (.slice (some ⟨w2.heap.size, 0, none⟩) 1 1) out.length (out.map (Value.int .i64)) ∧ (nm e)[a]? = some at_ ∧ out ++ cgo e x left at_ = x :: cgo e x d x ∧ dst e at_ x = left + 1 ∧ Chg NoB w2 (w2.alloc (.cells #[.int .i64 x] 3))) :=
          hid ⟨d, i, [x], x, Nat.le_refl _, rfl, rfl, ⟨by simp, .inr ⟨w2.heap.size, 1, _, rfl, Nat.le_refl _, blk_new _ _, by simp, by simp [maxLen], by simp, by simp⟩⟩, HXI.out, rfl, HDX.out, (Chg.refl _ _).alloc _⟩
        go_wp2_with fail
        clear h5 o1 p1 o1b p1b
        go_loopw [6, 7, 8] (fun s6 s7 s8 wr => ∃ (left a : Nat), s8 = .int .i64 (left : Int) ∧ s7 = .int .i64 (a : Int) ∧ left ≤ d ∧ a < (nm e).length ∧ Hid (∃ (out : List Int) (at_ : Int), wr.ownsRow w2.heap.size 3 1 s6 out.length (out.map (Value.int .i64)) ∧ (nm e)[a]? = some at_ ∧ out ++ cgo e x left at_ = x :: cgo e x d x ∧ dst e at_ x = left + 1 ∧ Chg NoB w2 wr)) (fun _ _ l _ => (intOf l).toNat)
        case atStart =>
          obtain ⟨left, a, out, at_, h1, h2, h3, h4, h5, h6, h7, h8⟩ := HI0.out
          exact ⟨left, a, h2, h3, h1, (List.getElem?_eq_some_iff.1 h5).1, hid ⟨out, at_, h4, h5, h6, h7, h8⟩⟩
        case round =>
          clear HI0
          obtain ⟨left, a, rfl, rfl, hld, hal, hJ⟩ := hrel
          obtain ⟨out, at_, hO, hA, hT, hDl, hC⟩ := hJ.out
          rename World => wq
          have HO := hid hO
          have HA := hid hA
          have HT := hid hT
          have HDl := hid hDl
          have HC := hid hC
          obtain ⟨oa, oc, e1⟩ := ownsForm hO
          subst e1
          have hol : out.length ≤ 2001 := by
            have := congrArg List.length hT
            rw [List.length_append, List.length_cons, cgo_len, cgo_len] at this; omega
          have HOL := hid hol
          obtain ⟨_, _, hab, h5⟩ := HL3.out a at_ hA
          cases hab
          have h5 := HC.out.cell (HF.out.chg.cell (h5 0 _ rfl) nob) nob
          simp only [Nat.add_zero, Nat.mul_one] at h5
          have H5a := hid h5
          clear hJ hO hA hT hDl hC h5
          rcases Nat.eq_zero_or_pos left with h0 | h0
          · subst h0
            have HFN : Hid (cyc e = out) := hid (by rw [HCY.out, ← HT.out]; simp [cgo])
            go_wp2_with fail
            go_ret
            refine ⟨_, rfl, hid ⟨?_, fun h => by rw [HCY.out] at h; cases h⟩, hid ((HC1.out.trans' HF.out.chg).trans' HC.out)⟩
            rw [HFN.out]
            obtain ⟨r1, r2⟩ := HO.out
            refine ⟨r1, r2.imp id ?_⟩
            rintro ⟨g, cap, cur, e4, h6, h7⟩
            exact ⟨g, cap, cur, e4, Nat.le_trans (HC1.out.trans' HF.out.chg).size h6, h7⟩
          · have hlp : (0 : Int) < (left : Int) := by omega
            have ha0 : (0 : Int) ≤ (a : Int) := by omega
            have ha1 : (a : Int) < ((nm e).length : Int) := by omega
            go_wp2_with fail
            go_loopw [7, 9] (fun s7 s9 wr => ∃ k : Nat, k ≤ (nm e).length ∧ s9 = .int .i64 k ∧ s7 = .int .i64 (a : Int) ∧ Hid (Chg NoB wq wr ∧ ∀ j, j < k → ∀ y, (nm e)[j]? = some y → (e.contains (at_, y) && dst e y x == left) = false)) (fun _ k _ => (nm e).length - (intOf k).toNat)
            case atStart => exact ⟨0, by omega, rfl, rfl, hid ⟨Chg.refl _ _, fun j hj => by omega⟩⟩
            case round =>
              obtain ⟨k, hk, rfl, rfl, hK⟩ := hrel
              by_cases hkl : k < (nm e).length
              · obtain ⟨kk, hkk⟩ := named (nm e)[k]
                have HKK : Hid ((nm e)[k]? = some kk) := hid (by rw [List.getElem?_eq_getElem hkl, hkk.out])
                obtain ⟨_, _, hab, h6⟩ := HL3.out k kk HKK.out
                cases hab
                have HCA := hid (HC.out.trans' hK.out.1)
                have h6 := HCA.out.cell (HF.out.chg.cell (h6 0 _ rfl) nob) nob
                simp only [Nat.add_zero, Nat.mul_one] at h6
                have h5 := hK.out.1.cell H5a.out nob
                obtain ⟨gk2, _, _, e1, _, hgk, o2, ck⟩ := (HF.out.keep HCA.out).cells (i := k) (by omega)
                cases e1
                have p2 := ck i hlt
                obtain ⟨dk, hdk⟩ := named (D k i)
                rw [← hdk.out] at p2
                have HDK : Hid (dk = dst e kk x) := hid (by rw [hdk.out]; exact HD.out k i kk x HKK.out HXI.out)
                unfold rowV at o2
                have hk0 : (0 : Int) ≤ (k : Int) := by omega
                have hk1 : (k : Int) < ((nm e).length : Int) := by omega
                have hk2 : (k : Int) < (gs.length : Int) := by omega
                have HV9 : Hid (Rd wr.drew 2 encE v e) := hid (HV.out.keep (((HC1.out.trans' HF.out.chg).trans' HCA.out).drew) (fun _ _ _ => nob))
                have hnx : (e.contains (at_, kk) && dst e kk x == left) = false → Hid (∀ j, j < k + 1 → ∀ y, (nm e)[j]? = some y → (e.contains (at_, y) && dst e y x == left) = false) := fun hn => hid (fun j hj y hy => by
                  rcases Nat.lt_or_ge j k with h3 | h3
                  · exact hK.out.2 j h3 y hy
                  · obtain rfl : j = k := by omega
                    rw [HKK.out] at hy; cases hy; exact hn)
                have HNX := hid hnx
                clear hnx ck hgk
                obtain ⟨rb, hrb⟩ := named (e.contains (at_, kk))
                cases rb
                · have HN2 := hid (HNX.out (by rw [← hrb.out]; rfl)).out
                  go_upto_region 15 with fail
                  refine wp_region_ord 21 (.rd 0 (.rd 1 (.rd 2 (.rd 3 (.rd 4 (.rd 5 (.rd 6 (.rd 7 (.rd 8 (.one 9 (.rd 10 (.rd 11 (.rd 12 (.rd 13 (.rd 14 (.rd 15 (.rd 16 (.rd 17 (.rd 18 (.rd 19 (.rd 20 (.done)))))))))))))))))))))) (Same wr) (by kernel_rfl) (by kernel_rfl) (by kernel_rfl) (by kernel_rfl) (by kernel_rfl) (fun _ _ d _ _ h => by cases d <;> exact h) (Same.of (Chg.refl _ _).drew) (fun hS0 => ?_)
                  refine wpOrd_rd rfl rfl (by first | decide | simp) (by assumption) (fun w' hw' K hK => by ((try unfold Same at hw'); (try go_split_ands); go_simp; exact hK)) ?_
                  refine wpOrd_rd rfl rfl (by first | decide | simp) (by assumption) (fun w' hw' K hK => by ((try unfold Same at hw'); (try go_split_ands); go_simp; exact hK)) ?_
                  refine wpOrd_rd rfl rfl (by first | decide | simp) (by assumption) (fun w' hw' K hK => by ((try unfold Same at hw'); (try go_split_ands); go_simp; exact hK)) ?_
                  refine wpOrd_rd rfl rfl (by first | decide | simp) (by assumption) (fun w' hw' K hK => by ((try unfold Same at hw'); (try go_split_ands); go_simp; exact hK)) ?_
                  refine wpOrd_rd rfl rfl (by first | decide | simp) (by assumption) (fun w' hw' K hK => by ((try unfold Same at hw'); (try go_split_ands); go_simp; exact hK)) ?_
                  refine wpOrd_rd rfl rfl (by first | decide | simp) (by assumption) (fun w' hw' K hK => by ((try unfold Same at hw'); (try go_split_ands); go_simp; exact hK)) ?_
                  refine wpOrd_rd rfl rfl (by first | decide | simp) (by assumption) (fun w' hw' K hK => by ((try unfold Same at hw'); (try go_split_ands); go_simp; exact hK)) ?_
                  refine wpOrd_rd rfl rfl (by first | decide | simp) (by assumption) (fun w' hw' K hK => by ((try unfold Same at hw'); (try go_split_ands); go_simp; exact hK)) ?_
                  refine wpOrd_rd rfl rfl (by first | decide | simp) (by assumption) (fun w' hw' K hK => by ((try unfold Same at hw'); (try go_split_ands); go_simp; exact hK)) ?_
                  refine wpOrd_do rfl ?_
                  (first | refine wpList_plain rfl (fun K hK => ?_) | refine wpList_step (fun K hK => ?_))
                  go_simp
                  ((with_reducible refine (edge_calls _ v e HV9.out at_ kk false hrb).mono ?_); rintro ee w3 ⟨rfl, hc3⟩)
                  refine hK _ _ ?_
                  clear hK K
                  (try dsimp only [Act.put])
                  refine wpOrd_done (Same.of ((Chg.refl NoB wr).drew.trans' hc3.out)) (fun hS1 => ?_)
                  refine wpOrd_rd rfl rfl (by first | decide | simp) (by assumption) (fun w' hw' K hK => by ((try unfold Same at hw'); (try go_split_ands); go_simp; exact hK)) ?_
                  refine wpOrd_rd rfl rfl (by first | decide | simp) (by assumption) (fun w' hw' K hK => by ((try unfold Same at hw'); (try go_split_ands); go_simp; exact hK)) ?_
                  refine wpOrd_rd rfl rfl (by first | decide | simp) (by assumption) (fun w' hw' K hK => by ((try unfold Same at hw'); (try go_split_ands); go_simp; exact hK)) ?_
                  refine wpOrd_rd rfl rfl (by first | decide | simp) (by assumption) (fun w' hw' K hK => by ((try unfold Same at hw'); (try go_split_ands); go_simp; exact hK)) ?_
                  refine wpOrd_rd rfl rfl (by first | decide | simp) (by assumption) (fun w' hw' K hK => by ((try unfold Same at hw'); (try go_split_ands); go_simp; exact hK)) ?_
                  refine wpOrd_rd rfl rfl (by first | decide | simp) (by assumption) (fun w' hw' K hK => by ((try unfold Same at hw'); (try go_split_ands); go_simp; exact hK)) ?_
                  refine wpOrd_rd rfl rfl (by first | decide | simp) (by assumption) (fun w' hw' K hK => by ((try unfold Same at hw'); (try go_split_ands); go_simp; exact hK)) ?_
                  refine wpOrd_rd rfl rfl (by first | decide | simp) (by assumption) (fun w' hw' K hK => by ((try unfold Same at hw'); (try go_split_ands); go_simp; exact hK)) ?_
                  refine wpOrd_rd rfl rfl (by first | decide | simp) (by assumption) (fun w' hw' K hK => by ((try unfold Same at hw'); (try go_split_ands); go_simp; exact hK)) ?_
                  refine wpOrd_rd rfl rfl (by first | decide | simp) (by assumption) (fun w' hw' K hK => by ((try unfold Same at hw'); (try go_split_ands); go_simp; exact hK)) ?_
                  refine wpOrd_rd rfl rfl (by first | decide | simp) (by assumption) (fun w' hw' K hK => by ((try unfold Same at hw'); (try go_split_ands); go_simp; exact hK)) ?_
                  refine wpOrd_nil ?_
                  have HC3 := hid ((Chg.refl NoB wr).drew.trans' hc3.out)
                  clear hc3 h5 h6 o2 p2 hS0 hS1
                  go_wp2_with fail
                  go_roundw
                  case rel => exact ⟨k + 1, by omega, by go_num, rfl, hid ⟨hK.out.1.trans' HC3.out, HN2.out⟩⟩
                  case measure => simp [intOf]; omega
                · by_cases hdl : dk = left
                  · obtain ⟨l0, rfl⟩ : ∃ l0, left = l0 + 1 := ⟨left - 1, by omega⟩
                    have HNE : Hid (nxt e x (l0 + 1) at_ = kk) := hid (nxt_at HKK.out hrb.out.symm (by rw [← HDK.out, hdl]) hK.out.2)
                    have HDN : Hid (dst e kk x = l0 + 1) := hid (by rw [← HDK.out, hdl])
                    have hz3 : ((dk : Int) == ((l0 + 1 : Nat) : Int)) = true := by simp [hdl]
                    have hz4 : (dk == l0 + 1) = true := by simpa using hdl
                    have hsb : IntKind.i64.wrap (((l0 + 1 : Nat) : Int) - 1) = (l0 : Int) := by rw [IntKind.wrap_i64]; omega
                    have H6 := hid h6
                    clear hdl h0
                    go_upto_region 15 with fail
                    refine wp_region_ord 21 (.rd 0 (.rd 1 (.rd 2 (.rd 3 (.rd 4 (.rd 5 (.rd 6 (.rd 7 (.rd 8 (.one 9 (.rd 10 (.rd 11 (.rd 12 (.rd 13 (.rd 14 (.rd 15 (.rd 16 (.rd 17 (.rd 18 (.rd 19 (.rd 20 (.done)))))))))))))))))))))) (Same wr) (by kernel_rfl) (by kernel_rfl) (by kernel_rfl) (by kernel_rfl) (by kernel_rfl) (fun _ _ d _ _ h => by cases d <;> exact h) (Same.of (Chg.refl _ _).drew) (fun hS0 => ?_)
                    refine wpOrd_rd rfl rfl (by first | decide | simp) (by assumption) (fun w' hw' K hK => by ((try unfold Same at hw'); (try go_split_ands); go_simp; exact hK)) ?_
                    refine wpOrd_rd rfl rfl (by first | decide | simp) (by assumption) (fun w' hw' K hK => by ((try unfold Same at hw'); (try go_split_ands); go_simp; exact hK)) ?_
                    refine wpOrd_rd rfl rfl (by first | decide | simp) (by assumption) (fun w' hw' K hK => by ((try unfold Same at hw'); (try go_split_ands); go_simp; exact hK)) ?_
                    refine wpOrd_rd rfl rfl (by first | decide | simp) (by assumption) (fun w' hw' K hK => by ((try unfold Same at hw'); (try go_split_ands); go_simp; exact hK)) ?_
                    refine wpOrd_rd rfl rfl (by first | decide | simp) (by assumption) (fun w' hw' K hK => by ((try unfold Same at hw'); (try go_split_ands); go_simp; exact hK)) ?_
                    refine wpOrd_rd rfl rfl (by first | decide | simp) (by assumption) (fun w' hw' K hK => by ((try unfold Same at hw'); (try go_split_ands); go_simp; exact hK)) ?_
                    refine wpOrd_rd rfl rfl (by first | decide | simp) (by assumption) (fun w' hw' K hK => by ((try unfold Same at hw'); (try go_split_ands); go_simp; exact hK)) ?_
                    refine wpOrd_rd rfl rfl (by first | decide | simp) (by assumption) (fun w' hw' K hK => by ((try unfold Same at hw'); (try go_split_ands); go_simp; exact hK)) ?_
                    refine wpOrd_rd rfl rfl (by first | decide | simp) (by assumption) (fun w' hw' K hK => by ((try unfold Same at hw'); (try go_split_ands); go_simp; exact hK)) ?_
                    refine wpOrd_do rfl ?_
                    (first | refine wpList_plain rfl (fun K hK => ?_) | refine wpList_step (fun K hK => ?_))
                    go_simp
                    ((with_reducible refine (edge_calls _ v e HV9.out at_ kk true hrb).mono ?_); rintro ee w3 ⟨rfl, hc3⟩)
                    refine hK _ _ ?_
                    clear hK K
                    (try dsimp only [Act.put])
                    refine wpOrd_done (Same.of ((Chg.refl NoB wr).drew.trans' hc3.out)) (fun hS1 => ?_)
                    refine wpOrd_rd rfl rfl (by first | decide | simp) (by assumption) (fun w' hw' K hK => by ((try unfold Same at hw'); (try go_split_ands); go_simp; exact hK)) ?_
                    refine wpOrd_rd rfl rfl (by first | decide | simp) (by assumption) (fun w' hw' K hK => by ((try unfold Same at hw'); (try go_split_ands); go_simp; exact hK)) ?_
                    refine wpOrd_rd rfl rfl (by first | decide | simp) (by assumption) (fun w' hw' K hK => by ((try unfold Same at hw'); (try go_split_ands); go_simp; exact hK)) ?_
                    refine wpOrd_rd rfl rfl (by first | decide | simp) (by assumption) (fun w' hw' K hK => by ((try unfold Same at hw'); (try go_split_ands); go_simp; exact hK)) ?_
                    refine wpOrd_rd rfl rfl (by first | decide | simp) (by assumption) (fun w' hw' K hK => by ((try unfold Same at hw'); (try go_split_ands); go_simp; exact hK)) ?_
                    refine wpOrd_rd rfl rfl (by first | decide | simp) (by assumption) (fun w' hw' K hK => by ((try unfold Same at hw'); (try go_split_ands); go_simp; exact hK)) ?_
                    refine wpOrd_rd rfl rfl (by first | decide | simp) (by assumption) (fun w' hw' K hK => by ((try unfold Same at hw'); (try go_split_ands); go_simp; exact hK)) ?_
                    refine wpOrd_rd rfl rfl (by first | decide | simp) (by assumption) (fun w' hw' K hK => by ((try unfold Same at hw'); (try go_split_ands); go_simp; exact hK)) ?_
                    refine wpOrd_rd rfl rfl (by first | decide | simp) (by assumption) (fun w' hw' K hK => by ((try unfold Same at hw'); (try go_split_ands); go_simp; exact hK)) ?_
                    refine wpOrd_rd rfl rfl (by first | decide | simp) (by assumption) (fun w' hw' K hK => by ((try unfold Same at hw'); (try go_split_ands); go_simp; exact hK)) ?_
                    refine wpOrd_rd rfl rfl (by first | decide | simp) (by assumption) (fun w' hw' K hK => by ((try unfold Same at hw'); (try go_split_ands); go_simp; exact hK)) ?_
                    refine wpOrd_nil ?_
                    have HC3 := hid ((Chg.refl NoB wr).drew.trans' hc3.out)
                    have HCW := hid (hK.out.1.trans' HC3.out)
                    clear hc3 h5 h6 o2 p2 hS0 hS1
                    have h6b := ((Chg.refl NoB w3).alloc (.cells #[.int .i64 kk] 3)).cell (HC3.out.cell H6.out nob) nob
                    have h6 := HC3.out.cell H6.out nob
                    have hzz := HC.out.size
                    have hzy := HCW.out.size
                    go_wp2_with (at_builtin; refine step_app1 slInt rfl _ _ rfl (World.ownsRow.alloc (ownsRow.chg HO.out HCW.out (fun _ _ => nob)) _) rfl w3.heap.size [.int .i64 kk] rfl (blk_new _ _) rfl rfl (by simp [Value.oneCell']) (by have := HOL.out; omega) (by have := HOL.out; unfold maxLen; omega) (by simp; omega) ?_; intro v5 w5 hv5 hc5 hn5 hnil)
                    have HV5 := hid hv5
                    have HC5 : Hid (Chg (OwnB (.slice oa out.length oc)) wq w5) := hid (((HCW.out.mono (T := OwnB (.slice oa out.length oc)) (fun _ h => h.elim)).alloc _).trans' hc5)
                    clear h6 h6b hv5 hc5 hn5 hnil
                    go_roundw
                    case rel =>
                      refine ⟨l0, k, by first | rfl | go_num, rfl, by omega, hkl, hid ⟨out ++ [kk], kk, by simpa using HV5.out, HKK.out, ?_, HDN.out, HC.out.new HC5.out (fun i hi => (OwnB.ge HO.out i hi).1)⟩⟩
                      have := HT.out
                      rw [cgo, HNE.out] at this
                      simpa using this
                    case measure => simp [intOf] <;> omega
                  · have HN2 := hid (HNX.out (by rw [← HDK.out]; simp; intro _ h; exact hdl h)).out
                    have hz3 : ((dk : Int) == (left : Int)) = false := by simp; omega
                    have hz4 : (dk == left) = false := by simpa using hdl
                    clear hdl
                    go_upto_region 15 with fail
                    refine wp_region_ord 21 (.rd 0 (.rd 1 (.rd 2 (.rd 3 (.rd 4 (.rd 5 (.rd 6 (.rd 7 (.rd 8 (.one 9 (.rd 10 (.rd 11 (.rd 12 (.rd 13 (.rd 14 (.rd 15 (.rd 16 (.rd 17 (.rd 18 (.rd 19 (.rd 20 (.done)))))))))))))))))))))) (Same wr) (by kernel_rfl) (by kernel_rfl) (by kernel_rfl) (by kernel_rfl) (by kernel_rfl) (fun _ _ d _ _ h => by cases d <;> exact h) (Same.of (Chg.refl _ _).drew) (fun hS0 => ?_)
                    refine wpOrd_rd rfl rfl (by first | decide | simp) (by assumption) (fun w' hw' K hK => by ((try unfold Same at hw'); (try go_split_ands); go_simp; exact hK)) ?_
                    refine wpOrd_rd rfl rfl (by first | decide | simp) (by assumption) (fun w' hw' K hK => by ((try unfold Same at hw'); (try go_split_ands); go_simp; exact hK)) ?_
                    refine wpOrd_rd rfl rfl (by first | decide | simp) (by assumption) (fun w' hw' K hK => by ((try unfold Same at hw'); (try go_split_ands); go_simp; exact hK)) ?_
                    refine wpOrd_rd rfl rfl (by first | decide | simp) (by assumption) (fun w' hw' K hK => by ((try unfold Same at hw'); (try go_split_ands); go_simp; exact hK)) ?_
                    refine wpOrd_rd rfl rfl (by first | decide | simp) (by assumption) (fun w' hw' K hK => by ((try unfold Same at hw'); (try go_split_ands); go_simp; exact hK)) ?_
                    refine wpOrd_rd rfl rfl (by first | decide | simp) (by assumption) (fun w' hw' K hK => by ((try unfold Same at hw'); (try go_split_ands); go_simp; exact hK)) ?_
                    refine wpOrd_rd rfl rfl (by first | decide | simp) (by assumption) (fun w' hw' K hK => by ((try unfold Same at hw'); (try go_split_ands); go_simp; exact hK)) ?_
                    refine wpOrd_rd rfl rfl (by first | decide | simp) (by assumption) (fun w' hw' K hK => by ((try unfold Same at hw'); (try go_split_ands); go_simp; exact hK)) ?_
                    refine wpOrd_rd rfl rfl (by first | decide | simp) (by assumption) (fun w' hw' K hK => by ((try unfold Same at hw'); (try go_split_ands); go_simp; exact hK)) ?_
                    refine wpOrd_do rfl ?_
                    (first | refine wpList_plain rfl (fun K hK => ?_) | refine wpList_step (fun K hK => ?_))
                    go_simp
                    ((with_reducible refine (edge_calls _ v e HV9.out at_ kk true hrb).mono ?_); rintro ee w3 ⟨rfl, hc3⟩)
                    refine hK _ _ ?_
                    clear hK K
                    (try dsimp only [Act.put])
                    refine wpOrd_done (Same.of ((Chg.refl NoB wr).drew.trans' hc3.out)) (fun hS1 => ?_)
                    refine wpOrd_rd rfl rfl (by first | decide | simp) (by assumption) (fun w' hw' K hK => by ((try unfold Same at hw'); (try go_split_ands); go_simp; exact hK)) ?_
                    refine wpOrd_rd rfl rfl (by first | decide | simp) (by assumption) (fun w' hw' K hK => by ((try unfold Same at hw'); (try go_split_ands); go_simp; exact hK)) ?_
                    refine wpOrd_rd rfl rfl (by first | decide | simp) (by assumption) (fun w' hw' K hK => by ((try unfold Same at hw'); (try go_split_ands); go_simp; exact hK)) ?_
                    refine wpOrd_rd rfl rfl (by first | decide | simp) (by assumption) (fun w' hw' K hK => by ((try unfold Same at hw'); (try go_split_ands); go_simp; exact hK)) ?_
                    refine wpOrd_rd rfl rfl (by first | decide | simp) (by assumption) (fun w' hw' K hK => by ((try unfold Same at hw'); (try go_split_ands); go_simp; exact hK)) ?_
                    refine wpOrd_rd rfl rfl (by first | decide | simp) (by assumption) (fun w' hw' K hK => by ((try unfold Same at hw'); (try go_split_ands); go_simp; exact hK)) ?_
                    refine wpOrd_rd rfl rfl (by first | decide | simp) (by assumption) (fun w' hw' K hK => by ((try unfold Same at hw'); (try go_split_ands); go_simp; exact hK)) ?_
                    refine wpOrd_rd rfl rfl (by first | decide | simp) (by assumption) (fun w' hw' K hK => by ((try unfold Same at hw'); (try go_split_ands); go_simp; exact hK)) ?_
                    refine wpOrd_rd rfl rfl (by first | decide | simp) (by assumption) (fun w' hw' K hK => by ((try unfold Same at hw'); (try go_split_ands); go_simp; exact hK)) ?_
                    refine wpOrd_rd rfl rfl (by first | decide | simp) (by assumption) (fun w' hw' K hK => by ((try unfold Same at hw'); (try go_split_ands); go_simp; exact hK)) ?_
                    refine wpOrd_rd rfl rfl (by first | decide | simp) (by assumption) (fun w' hw' K hK => by ((try unfold Same at hw'); (try go_split_ands); go_simp; exact hK)) ?_
                    refine wpOrd_nil ?_
                    have HC3 := hid ((Chg.refl NoB wr).drew.trans' hc3.out)
                    clear hc3 h5 h6 o2 p2 hS0 hS1
                    go_wp2_with fail
                    go_roundw
                    case rel => exact ⟨k + 1, by omega, by go_num, rfl, hid ⟨hK.out.1.trans' HC3.out, HN2.out⟩⟩
                    case measure => simp [intOf]; omega
              · exfalso
                obtain ⟨l0, rfl⟩ : ∃ l0, left = l0 + 1 := ⟨left - 1, by omega⟩
                obtain ⟨c, hc2, hc3⟩ := dst_step HDl.out (by omega)
                obtain ⟨j, hj, he2⟩ := List.getElem_of_mem (nm_snd hc2)
                have := hK.out.2 j (by omega) c (by rw [List.getElem?_eq_getElem hj, he2])
                simp [hc2, hc3] at this
    · obtain rfl : (nm e).length = i := by omega
      have HCY := hid (cyc_none hI.out)
      go_wp2_with fail
      go_ret
      refine ⟨_, rfl, hid ⟨?_, fun _ => rfl⟩, hid (HC1.out.trans' HF.out.chg)⟩
      rw [HCY.out]
      exact World.ownsRow_nil _ _ _ _
end Go.Proofs.Ytlhblkpdfdpiaaa.Wt
