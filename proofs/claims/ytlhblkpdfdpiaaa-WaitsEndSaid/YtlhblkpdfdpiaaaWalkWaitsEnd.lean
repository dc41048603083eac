import Derived.Test.YtlhblkpdfdpiaaaWtEndL
namespace Go.Proofs.Ytlhblkpdfdpiaaa.Wt
open Go.RowKit Go.ChangeMaps Go.MapKept Go.Shelf
set_option linter.unusedVariables false
set_option linter.unusedSimpArgs false
set_option linter.unnecessarySimpa false
set_option maxHeartbeats 16000000

set_option maxRecDepth 100000 in
theorem waitsEnd_walk (w : World) (v : Value) (l : Edges) (hv0 : RdR w 2 (fun x cs => cs = encE x ∧ wf64 x.1 ∧ wf64 x.2) v l) :
    Calls Try.prog 5 #[v] w fun e w' => e = .returned (.bool true) ∧ Chg NoB w w' := by
  obtain ⟨hv, hwf⟩ := RdE.rd hv0
  have HV := hid hv
  have HWF := hid hwf
  have HW : Hid (EdW l) := hid (EdW.of hwf)
  obtain ⟨a, c, rfl, q1, q2, hr⟩ := hv
  unfold maxLen at q2
  have HR := hid hr
  clear hv0 hwf hr
  by_cases h40 : 40 < l.length
  · have h40i : (40 : Int) < (l.length : Int) := by omega
    go_enter Try.func5, Try.ntmps5
    go_upto_region 2 with (go_at_call 8; refine (awake w).mono ?_; rintro e w1 ⟨rfl, c1⟩)
    go_wp2_with fail
    refine (awake w1).mono ?_
    rintro e w2 ⟨rfl, c2⟩
    go_wp2
    go_ret
    exact ⟨rfl, c1.out.trans' c2.out⟩
  have h40i : ¬ (40 : Int) < (l.length : Int) := by omega
  have hl : l.length ≤ 40 := by omega
  have hl2 : l.length ≤ 1000 := by omega
  clear h40
  obtain ⟨C, hCy⟩ := named (cyc l)
  have HCL : Hid (C.length ≤ 2001) := hid (by
    rw [hCy.out]
    unfold cyc
    cases hff : (nm l).find? (fun n => dst l n n != 0) with
    | none => simp
    | some x =>
      have := List.find?_some hff
      simp at this
      have h9 := (dst_pos (e := l) (a := x) (b := x) (by omega)).2
      have := nm_len l
      simp [cgo_len]; omega)
  go_enter Try.func5, Try.ntmps5
  go_upto_region 3 with (go_at_call 8; refine (awake w).mono ?_; rintro e w1 ⟨rfl, c1⟩)
  go_upto_region 4 with (go_at_call 12; refine (cycle_calls w1 _ l (HV.out.keep c1.out (fun _ _ _ => nob)) hl2 HW.out).mono ?_; rintro ee w2 ⟨v2, rfl, h2, c2⟩; rw [← hCy.out] at h2; obtain ⟨ca, cc, e2⟩ := ownsForm h2.out.1; subst e2)
  have HC2 := hid (c1.out.trans' c2.out)
  obtain ⟨_, _, e3, m1, m2, hr3⟩ := Rd.ints_of h2.out.1
  cases e3
  unfold maxLen at m2
  have HR3 := hid hr3
  clear h2 c1 c2 hr3
  have hcl := HCL.out
  go_wp2_with fail
  go_loopw [33] (fun s33 wr => ∃ k : Nat, k ≤ C.length ∧ s33 = .int .i64 k ∧ Hid (Chg NoB w2 wr)) (fun s33 _ => C.length - (intOf s33).toNat)
  case atStart => exact ⟨0, by omega, rfl, hid (Chg.refl _ _)⟩
  case round =>
    obtain ⟨k, hk, rfl, hI⟩ := hrel
    by_cases hlt : k < C.length
    · rename World => wq
      obtain ⟨x, hx⟩ := named C[k]
      have hmlt : (k + 1) % C.length < C.length := Nat.mod_lt _ (by omega)
      obtain ⟨y, hy⟩ := named C[(k + 1) % C.length]
      have hin : Hid ((x, y) ∈ l) := hid (by
        have hk' : k < (cyc l).length := by rw [← hCy.out]; exact hlt
        have := cyc_at k hk'
        have e1 : ∀ (L : List Int) (h1 : L = C) (hkk : k < L.length) (hm : (k + 1) % L.length < L.length), (L[k], L[(k + 1) % L.length]) = (x, y) := by
          intro L h1 hkk hm
          subst h1
          rw [hx.out, hy.out]
        rw [e1 (cyc l) hCy.out.symm hk' (Nat.mod_lt _ (by omega))] at this
        exact this)
      obtain ⟨b, off, hab, h2⟩ := HR3.out k x (by rw [List.getElem?_eq_getElem hlt, hx.out])
      subst hab
      obtain ⟨_, _, e4, h3⟩ := HR3.out ((k + 1) % C.length) y (by rw [List.getElem?_eq_getElem hmlt, hy.out])
      cases e4
      have h2 := h2 0 _ rfl
      have h3 := h3 0 _ rfl
      obtain ⟨mm, hmm⟩ := named ((k + 1) % C.length)
      have hmm2 : ((k : Int) + 1).tmod (C.length : Int) = (mm : Int) := by
        rw [hmm.out]; exact (by omega : (k + 1 : Nat) % C.length = (k + 1) % C.length) ▸ rfl
      rw [← hmm.out] at h3 hmlt
      simp only [Nat.add_zero, Nat.mul_one] at h2 h3
      have hne : ((C.length : Int) == 0) = false := by rw [beq_eq_false_iff_ne]; omega
      have HNE := hid hne
      have H2 := hid h2
      have H3 := hid h3
      clear hne h2 h3
      go_upto_region 8 with fail
      go_wp2_with fail
      go_loopw [5, 38] (fun s5 s38 wx => ∃ t : Nat, t ≤ l.length ∧ s38 = .int .i64 t ∧ s5 = .bool ((l.take t).contains (x, y)) ∧ Hid (Chg NoB w2 wx)) (fun _ s38 _ => l.length - (intOf s38).toNat)
      case atStart => exact ⟨0, by omega, rfl, rfl, hI⟩
      case round =>
        obtain ⟨t, ht, rfl, rfl, hJ⟩ := hrel
        by_cases htl : t < l.length
        · obtain ⟨⟨x1, y1⟩, hz⟩ := named l[t]
          obtain ⟨b5, off5, hab, h5⟩ := Rd.cells HR.out (HC2.out.trans' hJ.out) t htl
          rw [← hz.out] at h5
          subst hab
          have g0 := h5 0 _ rfl
          have g1 := h5 1 _ rfl
          simp only [Nat.add_zero] at g0
          obtain ⟨fb, hfb⟩ := named ((l.take t).contains (x, y))
          have HFN : Hid ((l.take (t + 1)).contains (x, y) = (fb || (x1 == x && y1 == y))) := hid (by
            rw [List.take_succ_eq_append_getElem htl, ← hz.out, hfb.out]
            simp only [List.contains_eq_any_beq, List.any_append, List.any_cons, List.any_nil, Bool.or_false]
            congr 1
            rw [Bool.eq_iff_iff, beq_iff_eq, Bool.and_eq_true, beq_iff_eq, beq_iff_eq, Prod.mk.injEq]
            exact ⟨fun h => ⟨h.1.symm, h.2.symm⟩, fun h => ⟨h.1.symm, h.2.symm⟩⟩)
          rw [← hfb.out]
          clear h5
          go_upto_region 11 with fail
          obtain ⟨ob, hob⟩ := named wr.heap.size
          have hw3 : Hid (Chg NoB wr (wr.alloc (.cells #[.int .i64 x1, .int .i64 y1] 50)) ∧ (wr.alloc (.cells #[.int .i64 x1, .int .i64 y1] 50)).heap[ob]? = some (.cells #[.int .i64 x1, .int .i64 y1] 50 (0, 0))) := hid ⟨(Chg.refl NoB wr).alloc _, by rw [hob.out]; exact blk_new _ _⟩
          rw [← hob.out]
          refine wp_gen (fun W => Hid (Chg NoB wr W ∧ W.heap[ob]? = some (.cells #[.int .i64 x1, .int .i64 y1] 50 (0, 0)))) hw3 ?_
          intro W HW3
          clear hw3 g0 g1
          have y0 : W.cell? ⟨ob, 0, none⟩ = some (.int .i64 x1) := cell_blk HW3.out.2 0
          have y1c : W.cell? ⟨ob, 1, none⟩ = some (.int .i64 y1) := cell_blk HW3.out.2 1
          have c2 := (hJ.out.trans' HW3.out.1).cell H2.out nob
          have c3 := (hJ.out.trans' HW3.out.1).cell H3.out nob
          have hne := HNE.out
          have k0 : (0 : Int) ≤ (k : Int) := by omega
          have k1 : (k : Int) < (C.length : Int) := by omega
          have k2 : (0 : Int) ≤ (mm : Int) := by omega
          have k3 : (mm : Int) < (C.length : Int) := by omega
          obtain ⟨eb, heb⟩ := named (x1 == x && y1 == y)
          rw [← heb.out] at HFN
          have HE : ∀ w, (Op.equalIn 10000 50 (.agg #[.int .i64 x1, .int .i64 y1]) (.agg #[.int .i64 x, .int .i64 y])).run Try.prog w = .ok eb w := fun w => by rw [run_eq2 9998, heb.out]
          cases fb
          · go_quiet (fail)
            go_upto_region 12 with fail
            refine wp_gen (fun W' => Hid (Chg NoB wr W')) (hid (HW3.out.1.drewN _)) ?_
            intro W' HW'
            go_wp2_with fail
            go_roundw
            case rel => exact ⟨t + 1, by omega, by go_num, by rw [HFN.out]; simp, hid (hJ.out.trans' HW'.out)⟩
            case measure => simp [intOf]; omega
          · go_quiet (fail)
            go_upto_region 12 with fail
            refine wp_gen (fun W' => Hid (Chg NoB wr W')) (hid (HW3.out.1.drewN _)) ?_
            intro W' HW'
            go_wp2_with fail
            go_roundw
            case rel => exact ⟨t + 1, by omega, by go_num, by rw [HFN.out]; simp, hid (hJ.out.trans' HW'.out)⟩
            case measure => simp [intOf]; omega
        · obtain rfl : l.length = t := by omega
          have hft : (l.take l.length).contains (x, y) = true := by rw [List.take_length, List.contains_iff_mem]; exact hin.out
          rw [hft]
          go_wp2_with fail
          go_roundw
          case rel => exact ⟨k + 1, by omega, by go_num, hJ⟩
          case measure => simp [intOf]; omega
    · obtain rfl : C.length = k := by omega
      rename World => wq
      have HCq := hid (HC2.out.trans' hI.out)
      have hmm := @run_makeMap Try.prog
      obtain ⟨VL, hVL⟩ := named (victims l)
      have HVN : Hid (C = [] → VL = []) := hid (fun h => by rw [hVL.out]; exact victims_nil (hCy.out.symm.trans h))
      have HVLL : Hid (VL.length ≤ 40) := hid (by rw [hVL.out]; exact Nat.le_trans vic_len hl)
      clear hI
      go_upto_region 17 with fail
      obtain ⟨r, hr0⟩ := named wq.heap.size
      have hw3 : Hid (Chg NoB wq (wq.alloc (.map #[] 0)) ∧ MapI (wq.alloc (.map #[] 0)) r (Value.int .i64) ([] : List (Int × Int)) ∧ wq.heap.size ≤ r) := hid ⟨(Chg.refl NoB wq).alloc _, by rw [hr0.out]; exact MapI.made wq _, by rw [hr0.out]; exact Nat.le_refl _⟩
      rw [← hr0.out]
      refine wp_gen (fun W => Hid (Chg NoB wq W ∧ MapI W r (Value.int .i64) ([] : List (Int × Int)) ∧ wq.heap.size ≤ r)) hw3 ?_
      intro W HW3
      clear hw3 hmm
      have HGE : Hid (wq.heap.size ≤ r) := hid HW3.out.2.2
      go_wp2_with (go_at_call 14; refine (victims_calls W _ l (HV.out.keep (HCq.out.trans' HW3.out.1) (fun _ _ _ => nob)) hl2 HW.out).mono ?_; rintro ee w4 ⟨v4, rfl, h4, c4⟩; rw [← hVL.out] at h4; obtain ⟨va, vc, e4⟩ := ownsForm h4.out.1; subst e4)
      obtain ⟨_, _, e5, m3, m4, hr4⟩ := Rd.ints_of h4.out.1
      cases e5
      unfold maxLen at m4
      have HR4 := hid hr4
      have hvl := HVLL.out
      have HG0 : Hid (∃ m, MapI w4 r (Value.int .i64) m ∧ Gone m (VL.take 0) ∧ Chg NoB wq w4) := hid ⟨[], HW3.out.2.1.chg c4.out nob, Gone.nil, HW3.out.1.trans' c4.out⟩
      have HVO : Hid (∀ b, OwnB (.slice va VL.length vc) b → b ≠ r) := hid (fun b hb e => by have h9 := (OwnB.ge h4.out.1 b hb).1; have h8 := HW3.out.2.1.lt; omega)
      have HR4w : Hid (∀ w', Chg NoB w4 w' → True) := hid (fun _ _ => trivial)
      have HCwq4 := hid (HW3.out.1.trans' c4.out)
      clear h4 hr4 HR4w c4
      go_loopw [68] (fun s68 wr => ∃ j : Nat, j ≤ VL.length ∧ s68 = .int .i64 j ∧ Hid (∃ m, MapI wr r (Value.int .i64) m ∧ Gone m (VL.take j) ∧ Chg (OneB r) w4 wr)) (fun i _ => VL.length - (intOf i).toNat)
      case atStart => exact ⟨0, by omega, rfl, hid (by obtain ⟨m, h1, h2, h3⟩ := HG0.out; exact ⟨m, h1, h2, Chg.refl _ _⟩)⟩
      case round =>
        obtain ⟨j, hj, rfl, hJ⟩ := hrel
        clear HG0
        obtain ⟨m, hM, hG, hC⟩ := hJ.out
        have HM := hid hM
        have HG := hid hG
        have HC := hid hC
        have HCr := hid (HCwq4.out.new hC (fun i hi => by have hi : i = r := hi; rw [hi]; exact HGE.out))
        clear hJ hM hG hC
        by_cases hjl : j < VL.length
        · obtain ⟨n, hn⟩ := named VL[j]
          have h6 : ∃ b off, va = some ⟨b, off, none⟩ ∧ wr.cell? ⟨b, off + j, none⟩ = some (.int .i64 n) := by
            obtain ⟨b, off, hab, h7⟩ := HR4.out j n (by rw [List.getElem?_eq_getElem hjl, hn.out])
            have h7 := h7 0 _ rfl
            simp only [Nat.add_zero, Nat.mul_one] at h7
            exact ⟨b, off, hab, HC.out.cell h7 (fun e => HVO.out b (by rw [hab]; simp [OwnB, Value.ownBlock]) e)⟩
          obtain ⟨b, off, hab, h6⟩ := h6
          subst hab
          have hget := hid (HG.out.get n)
          obtain ⟨cn, hcn⟩ := named (((VL.take j).count n : Nat) : Int)
          have hcb : 0 ≤ cn ∧ cn ≤ 40 := by
            rw [hcn.out]
            have h9 := List.count_le_length (a := n) (l := VL.take j)
            rw [List.length_take] at h9
            omega
          have HGN : Hid (Gone (mput m n (cn + 1)) (VL.take (j + 1))) := hid (by rw [List.take_succ_eq_append_getElem hjl, ← hn.out, hcn.out]; exact HG.out.snoc HM.out.nodup n)
          rw [← hcn.out] at hget
          go_wp2_with (first
            | (at_lookup; refine step_lookup_int HM.out rfl _ _ 51 3 3 rfl Try.underlying51 Try.underlying3 (zero_int _) n rfl rfl ?_; rw [hget.out])
            | (at_mapUpdate; refine step_mapUpdate HM.out rfl _ _ _ 51 3 3 rfl Try.underlying51 Try.underlying3 n (cn + 1) rfl rfl rfl ?_; intro w6 hm6 hc6 hs6))
          have HM6 := hid hm6
          have HC6 : Hid (Chg (OneB r) w4 w6) := hid (HC.out.trans hc6 (fun i hi => .inl hi))
          clear hm6 hc6 hs6
          go_wp2_with fail
          go_roundw
          case rel => exact ⟨j + 1, by omega, by go_num, hid ⟨_, HM6.out, HGN.out, HC6.out⟩⟩
          case measure => simp [intOf]; omega
        · obtain rfl : VL.length = j := by omega
          rw [List.take_length] at HG
          have HVO2 := HVO
          clear HR4 HVO hvl
          rename World => w5
          have hlen := HM.out.len (P := Try.prog) Try.underlying51 3
          go_upto_region 22 with fail
          go_cut [84] (fun s84 wy => s84 = .bool false ∧ w5 = wy)
          case first =>
            by_cases hC : C = []
            · have hm0 : m = [] := HG.out.none (HVN.out hC)
              subst hm0
              have hC0 : ((C.length : Int) == 0) = true := by rw [hC]; rfl
              go_wp2_with fail
              go_meet
              exact ⟨rfl, rfl⟩
            · have hC0 : ((C.length : Int) == 0) = false := by rw [beq_eq_false_iff_ne]; intro h; exact hC (List.eq_nil_of_length_eq_zero (by omega))
              go_wp2_with fail
              go_meet
              exact ⟨rfl, rfl⟩
          case rest =>
            obtain ⟨rfl, rfl⟩ := hcut
            have HC5 := hid (HCq.out.trans' HCr.out)
            have hrlt : Hid (r < w5.heap.size) := hid HM.out.lt
            clear hlen HC HCr HCwq4 HVO2 hlt hk hj hjl
            go_wp2_with fail
            go_loopw [11, 87] (fun s11 s87 wr => ∃ t : Nat, t ≤ l.length ∧ s87 = .int .i64 t ∧ Hid (wr.ownsRow w5.heap.size 50 2 s11 ((l.take t).filter (stay l)).length (((l.take t).filter (stay l)).flatMap encE) ∧ Chg NoB w5 wr)) (fun _ s87 _ => l.length - (intOf s87).toNat)
            case atStart => exact ⟨0, by omega, rfl, hid ⟨World.ownsRow_nil _ _ _ _, Chg.refl _ _⟩⟩
            case round =>
              obtain ⟨t, ht, rfl, hJ⟩ := hrel
              obtain ⟨oa, oc, e1⟩ := ownsForm hJ.out.1
              subst e1
              by_cases htl : t < l.length
              · obtain ⟨⟨x1, y1⟩, hz⟩ := named l[t]
                obtain ⟨b5, off5, hab, h5⟩ := Rd.cells HR.out (HC5.out.trans' hJ.out.2) t htl
                rw [← hz.out] at h5
                subst hab
                have g0 := h5 0 _ rfl
                have g1 := h5 1 _ rfl
                simp only [Nat.add_zero] at g0
                obtain ⟨O, hO⟩ := named ((l.take t).filter (stay l))
                have hol : O.length ≤ 40 := by rw [hO.out]; have h9 := List.length_filter_le (stay l) (l.take t); rw [List.length_take] at h9; omega
                have HON : Hid ((l.take (t + 1)).filter (stay l) = O ++ if stay l (x1, y1) = true then [(x1, y1)] else []) := hid (by rw [List.take_succ_eq_append_getElem htl, List.filter_append, ← hO.out, ← hz.out]; simp only [List.filter_cons, List.filter_nil])
                rw [← hO.out] at hJ
                rw [← hO.out]
                have hJ := hJ
                clear h5
                obtain ⟨c1, hc1⟩ := named ((VL.count x1 : Nat) : Int)
                obtain ⟨c2, hc2⟩ := named ((VL.count y1 : Nat) : Int)
                have HG1 : Hid ((mget m x1).getD 0 = c1) := hid (by rw [HG.out.get, hc1.out])
                have HG2 : Hid ((mget m y1).getD 0 = c2) := hid (by rw [HG.out.get, hc2.out])
                have hcb : 0 ≤ c1 ∧ c1 ≤ 40 ∧ 0 ≤ c2 ∧ c2 ≤ 40 := by
                  rw [hc1.out, hc2.out]
                  have h9 := List.count_le_length (a := x1) (l := VL)
                  have h8 := List.count_le_length (a := y1) (l := VL)
                  have := HVLL.out
                  omega
                have HST : Hid (stay l (x1, y1) = (c1 + c2 == 0)) := hid (by rw [hc1.out, hc2.out, gone_test, hVL.out]; rfl)
                go_upto_region 28 with fail
                obtain ⟨ob, hob⟩ := named wr.heap.size
                have hw3 : Hid (Chg NoB wr (wr.alloc (.cells #[.int .i64 x1, .int .i64 y1] 50)) ∧ (wr.alloc (.cells #[.int .i64 x1, .int .i64 y1] 50)).heap[ob]? = some (.cells #[.int .i64 x1, .int .i64 y1] 50 (0, 0))) := hid ⟨(Chg.refl NoB wr).alloc _, by rw [hob.out]; exact blk_new _ _⟩
                rw [← hob.out]
                refine wp_gen (fun W => Hid (Chg NoB wr W ∧ W.heap[ob]? = some (.cells #[.int .i64 x1, .int .i64 y1] 50 (0, 0)))) hw3 ?_
                intro W6 HW6
                clear hw3 g0 g1
                have y0 : W6.cell? ⟨ob, 0, none⟩ = some (.int .i64 x1) := cell_blk HW6.out.2 0
                have y1c : W6.cell? ⟨ob, 1, none⟩ = some (.int .i64 y1) := cell_blk HW6.out.2 1
                have HMW := hid ((HM.out.chg hJ.out.2 nob).chg HW6.out.1 nob)
                have HOW := hid (ownsRow.chg hJ.out.1 HW6.out.1 (fun _ _ => nob))
                have HCW := hid (hJ.out.2.trans' HW6.out.1)
                have hzW := HCW.out.size
                clear hJ
                cases hst : (c1 + c2 == 0)
                · have HOE : Hid ((l.take (t + 1)).filter (stay l) = O) := hid (by rw [HON.out, HST.out, hst]; simp)
                  go_upto_region 29 with (first
                    | (at_lookup; refine step_lookup_int HMW.out rfl _ _ 51 3 3 rfl Try.underlying51 Try.underlying3 (zero_int _) x1 rfl rfl ?_; rw [HG1.out])
                    | (at_lookup; refine step_lookup_int HMW.out rfl _ _ 51 3 3 rfl Try.underlying51 Try.underlying3 (zero_int _) y1 rfl rfl ?_; rw [HG2.out]))
                  go_wp2_with fail
                  go_roundw
                  case rel => exact ⟨t + 1, by omega, by go_num, hid ⟨by rw [HOE.out]; exact HOW.out, HCW.out⟩⟩
                  case measure => simp [intOf]; omega
                · have HOE : Hid ((l.take (t + 1)).filter (stay l) = O ++ [(x1, y1)]) := hid (by rw [HON.out, HST.out, hst]; simp)
                  go_upto_region 29 with (first
                    | (at_lookup; refine step_lookup_int HMW.out rfl _ _ 51 3 3 rfl Try.underlying51 Try.underlying3 (zero_int _) x1 rfl rfl ?_; rw [HG1.out])
                    | (at_lookup; refine step_lookup_int HMW.out rfl _ _ 51 3 3 rfl Try.underlying51 Try.underlying3 (zero_int _) y1 rfl rfl ?_; rw [HG2.out]))
                  go_wp2_with (at_builtin; refine step_app1 slE rfl _ _ rfl (World.ownsRow.alloc HOW.out _) rfl W6.heap.size [.int .i64 x1, .int .i64 y1] rfl (blk_new _ _) rfl rfl (by simp [Value.oneCell']) (by omega) (by unfold maxLen; omega) (by simp; omega) ?_; intro v7 w7 hv7 hc7 hn7 hnil)
                  obtain ⟨a7, n7, rfl⟩ := ownsForm hv7
                  have HV7 := hid hv7
                  have HC7 := hid ((HCW.out.alloc (.cells #[.int .i64 x1, .int .i64 y1] 50)).new hc7 (fun b hb => (OwnB.ge HOW.out b hb).1))
                  clear hv7 hc7 hn7 hnil
                  go_wp2_with fail
                  go_roundw
                  case rel => exact ⟨t + 1, by omega, by go_num, hid ⟨by rw [HOE.out]; simpa [encE] using HV7.out, HC7.out⟩⟩
                  case measure => simp [intOf]; omega
              · obtain rfl : l.length = t := by omega
                rw [List.take_length] at hJ
                rw [List.take_length]
                obtain ⟨LF, hLF⟩ := named (l.filter (stay l))
                have HFC : Hid (cyc LF = []) := hid (by rw [hLF.out]; exact stay_free l)
                have HFW : Hid (EdW LF) := hid (EdW.of fun x hx => HWF.out x (by rw [hLF.out] at hx; exact (List.mem_filter.1 hx).1))
                have hfl : LF.length ≤ 40 := by rw [hLF.out]; have := List.length_filter_le (stay l) l; omega
                have hfl2 : LF.length ≤ 1000 := by omega
                rw [← hLF.out] at hJ
                rw [← hLF.out]
                have HJ := hid hJ.out
                have HRF := hid (Rd.of_own (enc := encE) (size := 2) (fun _ => rfl) HJ.out.1)
                have HC8 := hid (HC5.out.trans' HJ.out.2)
                clear hJ HM HG
                rename World => w8
                have hRC : Hid (∀ wr, Chg NoB w8 wr → ∀ t (h : t < LF.length), ∃ b off, oa = some ⟨b, off, none⟩ ∧ wr.cell? ⟨b, off + t * 2, none⟩ = some (.int .i64 LF[t].1) ∧ wr.cell? ⟨b, off + t * 2 + 1, none⟩ = some (.int .i64 LF[t].2)) := hid (fun wr hwr t h => by
                  obtain ⟨_, _, eR, _, _, hrR⟩ := HRF.out
                  cases eR
                  obtain ⟨b, off, e, h5⟩ := Rd.cells hrR hwr t h
                  have g0 := h5 0 _ rfl
                  have g1 := h5 1 _ rfl
                  simp only [Nat.add_zero] at g0
                  exact ⟨b, off, e, g0, g1⟩)
                obtain ⟨OL, hOL⟩ := named (ord LF)
                have hol : OL.length ≤ 80 := by
                  rw [hOL.out, (ord_perm HFC.out).length_eq]
                  have := nm_len LF; omega
                have HOD : Hid (OL.Nodup) := hid (by rw [hOL.out]; exact (ord_perm HFC.out).nodup_iff.2 (srt_nodup (nm_srt LF)))
                go_upto_region 32 with (go_at_call 9; refine (order_ok w8 _ LF HRF.out hfl2 HFW.out HFC.out).mono ?_; rintro ee w9 ⟨v9, rfl, h9, c9⟩; rw [← hOL.out] at h9; obtain ⟨la, lc, e9⟩ := ownsForm h9.out.1; subst e9)
                obtain ⟨_, _, e10, n1, n2, hr10⟩ := Rd.ints_of h9.out.1
                cases e10
                unfold maxLen at n2
                have HR10 := hid hr10
                have HC9 := hid c9.out
                clear h9 c9 hr10
                have hmm := @run_makeMap Try.prog
                go_upto_region 35 with (go_at_call 12; refine (cycle_calls w9 _ LF (HRF.out.keep HC9.out (fun _ _ _ => nob)) hfl2 HFW.out).mono ?_; rintro ee w10 ⟨v10, rfl, h10, c10⟩; obtain rfl := h10.out.2 HFC.out)
                have HC10 := hid c10.out
                clear h10 c10 hmm
                obtain ⟨r2, hr2⟩ := named w10.heap.size
                have hw11 : Hid (Chg NoB w10 (w10.alloc (.map #[] 0)) ∧ MapI (w10.alloc (.map #[] 0)) r2 (Value.int .i64) ([] : List (Int × Int)) ∧ w10.heap.size ≤ r2) := hid ⟨(Chg.refl NoB w10).alloc _, by rw [hr2.out]; exact MapI.made w10 _, by rw [hr2.out]; exact Nat.le_refl _⟩
                rw [← hr2.out]
                refine wp_gen (fun W => Hid (Chg NoB w10 W ∧ MapI W r2 (Value.int .i64) ([] : List (Int × Int)) ∧ w10.heap.size ≤ r2)) hw11 ?_
                intro w11 HW11
                clear hw11
                have HG2 : Hid (w10.heap.size ≤ r2) := hid HW11.out.2.2
                have HM0 : Hid (∃ m, MapI w11 r2 (Value.int .i64) m ∧ AtP m OL 0 ∧ Chg NoB w10 w11) := hid ⟨[], HW11.out.2.1, AtP.nil OL, HW11.out.1⟩
                clear HW11
                go_wp2_with fail
                go_loopw [122] (fun s122 wr => ∃ j : Nat, j ≤ OL.length ∧ s122 = .int .i64 j ∧ Hid (∃ m, MapI wr r2 (Value.int .i64) m ∧ AtP m OL j ∧ Chg NoB w10 wr)) (fun s122 _ => OL.length - (intOf s122).toNat)
                case atStart => exact ⟨0, by omega, rfl, HM0⟩
                case round =>
                  obtain ⟨j, hj, rfl, hJ⟩ := hrel
                  clear HM0
                  obtain ⟨m5, hM, hA, hC⟩ := hJ.out
                  have HM5 := hid hM
                  have HA5 := hid hA
                  have HCr5 := hid hC
                  clear hJ hM hA hC
                  by_cases hjl : j < OL.length
                  · obtain ⟨n, hn⟩ := named OL[j]
                    obtain ⟨b, off, hab, h7⟩ := HR10.out j n (by rw [List.getElem?_eq_getElem hjl, hn.out])
                    subst hab
                    have h7 := (HC10.out.trans' HCr5.out).cell (h7 0 _ rfl) nob
                    simp only [Nat.add_zero, Nat.mul_one] at h7
                    have HAN : Hid (AtP (mput m5 n ((j : Int) + 1)) OL (j + 1)) := hid (HA5.out.snoc HM5.out.nodup HOD.out (by rw [List.getElem?_eq_getElem hjl, hn.out]))
                    go_wp2_with (at_mapUpdate; refine step_mapUpdate HM5.out rfl _ _ _ 51 3 3 rfl Try.underlying51 Try.underlying3 n ((j : Int) + 1) rfl rfl (by first | rfl | go_num) ?_; intro w12 hm12 hc12 hs12)
                    have HM12 := hid hm12
                    have HC12 := hid (HCr5.out.new hc12 (fun i hi => by have hi : i = r2 := hi; rw [hi]; exact HG2.out))
                    clear hm12 hc12 hs12
                    go_wp2_with fail
                    go_roundw
                    case rel => exact ⟨j + 1, by omega, by go_num, hid ⟨_, HM12.out, HAN.out, HC12.out⟩⟩
                    case measure => simp [intOf]; omega
                  · obtain rfl : OL.length = j := by omega
                    rename World => w13
                    have HAT : Hid (∀ a b, (a, b) ∈ LF → ((mget m5 b).getD 0 == 0) = false ∧ ¬ (mget m5 b).getD 0 ≥ (mget m5 a).getD 0) := hid (fun a b h => at_law HFC.out (by rw [← hOL.out]; exact HA5.out) h)
                    have HC13 := hid (HC9.out.trans' (HC10.out.trans' HCr5.out))
                    have HLK := @look_any Try.prog 51 3 3 Try.underlying51 Try.underlying3 Int (Value.int .i64) w13 r2 m5 HM5.out (.int .i64 0) zero_int
                    have HLK2 := hid HLK
                    clear HLK HA5 HR10
                    go_wp2_with fail
                    go_loopw [134] (fun s134 wr => ∃ t : Nat, t ≤ LF.length ∧ s134 = .int .i64 t ∧ Hid (Chg NoB w13 wr)) (fun s134 _ => LF.length - (intOf s134).toNat)
                    case atStart => exact ⟨0, by omega, rfl, hid (Chg.refl _ _)⟩
                    case round =>
                      obtain ⟨t, ht, rfl, hJ⟩ := hrel
                      by_cases htl : t < LF.length
                      · obtain ⟨⟨x1, y1⟩, hz⟩ := named LF[t]
                        obtain ⟨b5, off5, hab, g0, g1⟩ := hRC.out wr (HC13.out.trans' hJ.out) t htl
                        rw [← hz.out] at g0 g1
                        subst hab
                        obtain ⟨t1, t2⟩ := HAT.out x1 y1 (by rw [hz.out]; exact List.getElem_mem htl)
                        obtain ⟨vb, hvb⟩ := named ((mget m5 y1).getD 0)
                        obtain ⟨va2, hva⟩ := named ((mget m5 x1).getD 0)
                        rw [← hvb.out] at t1 t2
                        rw [← hva.out] at t2
                        have hll : LF.length ≤ 40 := hfl
                        go_upto_region 43 with fail
                        obtain ⟨ob, hob⟩ := named wr.heap.size
                        have hw3 : Hid (Chg NoB wr (wr.alloc (.cells #[.int .i64 x1, .int .i64 y1] 50)) ∧ (wr.alloc (.cells #[.int .i64 x1, .int .i64 y1] 50)).heap[ob]? = some (.cells #[.int .i64 x1, .int .i64 y1] 50 (0, 0))) := hid ⟨(Chg.refl NoB wr).alloc _, by rw [hob.out]; exact blk_new _ _⟩
                        rw [← hob.out]
                        refine wp_gen (fun W => Hid (Chg NoB wr W ∧ W.heap[ob]? = some (.cells #[.int .i64 x1, .int .i64 y1] 50 (0, 0)))) hw3 ?_
                        intro W14 HW14
                        clear hw3 g0 g1
                        have y0 : W14.cell? ⟨ob, 0, none⟩ = some (.int .i64 x1) := cell_blk HW14.out.2 0
                        have y1c : W14.cell? ⟨ob, 1, none⟩ = some (.int .i64 y1) := cell_blk HW14.out.2 1
                        have L1 := (HLK2.out y1 false (res := .int .i64 vb) (by rw [hvb.out]; cases mget m5 y1 <;> rfl)).out W14 (hJ.out.trans' HW14.out.1)
                        have L2 := (HLK2.out x1 false (res := .int .i64 va2) (by rw [hva.out]; cases mget m5 x1 <;> rfl)).out W14 (hJ.out.trans' HW14.out.1)
                        go_wp2_with fail
                        go_roundw
                        case rel => exact ⟨t + 1, by omega, by go_num, hid (hJ.out.trans' HW14.out.1)⟩
                        case measure => simp [intOf]; omega
                      · obtain rfl : LF.length = t := by omega
                        go_wp2_with fail
                        go_ret
                        exact ⟨rfl, HC8.out.trans' (HC13.out.trans' hJ.out)⟩
end Go.Proofs.Ytlhblkpdfdpiaaa.Wt
namespace Go.Proofs.Ytlhblkpdfdpiaaa
export Wt (waitsEnd_walk)
end Go.Proofs.Ytlhblkpdfdpiaaa
