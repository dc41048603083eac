import Derived.Test.YtghklbflbodajaaBk8
import Derived.Test.YtghklbflbodajaaB5
import Derived.Test.YtghklbflbodajaaB6
import Derived.Test.YtghklbflbodajaaPgSm
namespace Go.Proofs.Ytghklbflbodajaa
open Go.RowKit Go.ChangeMaps Go.MapKept
attribute [local go_sem] Go.Oper.rdK
set_option linter.unusedVariables false
set_option linter.unusedSimpArgs false
set_option linter.unnecessarySimpa false
set_option maxHeartbeats 8000000

set_option maxRecDepth 100000 in
theorem backupAgain_walk (w : World) (a0 : Int) (wa0 : (Lit.int .i64 a0).wf = true) (vc : Value) (cl : List Cpy) (hvc : RdR w 4 (fun x cs => cs = encCp x ∧ CpOk x) vc cl) (vl : Value) (l : List Ent) (hvl : Ents w vl l) :
    Calls Try.prog 5 #[.int .i64 a0, vc, vl] w fun e w' => e = .returned (.bool true) ∧ Chg NoB w w' := by
  obtain ⟨hrc, hcok⟩ := hvc.rd'
  obtain ⟨ac, cc, rfl, hc1, hc2, hc3⟩ := hrc
  have HRC : Hid (Rd w 4 encCp (.slice ac cl.length cc) cl) := hid ⟨ac, cc, rfl, hc1, hc2, hc3⟩
  have HVC := hid hc3
  have HCOK := hid hcok
  have hvf : ∃ a c, vl = .slice a l.length c := by obtain ⟨a, c, e, _⟩ := hvl; exact ⟨a, c, e⟩
  obtain ⟨al, cl', rfl⟩ := hvf
  have HVL := hid hvl
  obtain ⟨f1, hf1⟩ := named (cpFew cl)
  obtain ⟨f2, hf2⟩ := named (entsFew l)
  have hfr := fun w h => cpFew_calls (.slice ac cl.length cc) cl w h f1 hf1
  have hfe := fun w h => entsFew_calls (.slice al l.length cl') l w h f2 hf2
  clear hvc hc3 hcok hvl
  unfold maxLen at hc2
  by_cases hn : a0 < 1 ∨ 8 < a0
  · have hb := fun w => bnew_bad a0 w hn
    have HC1 := hid (Chg.refl NoB w)
    go_enter Try.func5, Try.ntmps5
    go_wp2_with (first
      | (go_at_call 6; refine (hb _).mono ?_; rintro e w1 ⟨rfl, rfl⟩)
      | (go_at_call 9; refine (bkAwake _).mono ?_; rintro e w2 ⟨rfl, hc2⟩; have HC1 := hid (HC1.out.trans' hc2); clear hc2))
    go_ret
    exact ⟨rfl, HC1.out⟩
  · obtain ⟨n, rfl⟩ := Int.eq_ofNat_of_zero_le (a := a0) (by omega)
    have h1 : 1 ≤ n := by omega
    have h8 : n ≤ 8 := by omega
    clear hn
    go_enter Try.func5, Try.ntmps5
    go_upto_region 2 with (go_at_call 6; refine (bnew_calls n _ h1 h8).mono ?_; rintro e w1 ⟨p, g, rfl, hB1, hC1, hp1, hg1⟩)
    have HB1 := hB1
    have HC1 := hC1
    clear hB1 hC1
    by_cases hff : f1 = true ∧ f2 = true
    · obtain ⟨rfl, rfl⟩ := hff
      go_upto_region 4 with (first
        | (go_at_call 9; refine (bkAwake _).mono ?_; rintro e w2 ⟨rfl, hc2⟩; have HC2 := hid (HC1.out.trans' hc2); have HB2 := hid (HB1.out.mono hc2); clear hc2)
        | (go_at_call 12; refine (hfr _ (HRC.out.mono HC2.out)).mono ?_; rintro e w3 ⟨rfl, hc3⟩; have HC3 := hid (HC2.out.trans' hc3); have HB3 := hid (HB2.out.mono hc3); clear hc3)
        | (go_at_call 20; refine (hfe _ (HVL.out.mono HC3.out)).mono ?_; rintro e w4 ⟨rfl, hc4⟩; have HC4 := hid (HC3.out.trans' hc4); have HB4 := hid (HB3.out.mono hc4); clear hc4))
      have hl200 : l.length ≤ 1000000 := few_len hf2.out
      have hlok := hid (okk_of HVL.out hf2.out)
      have hcs : Hid (∀ c ∈ cl, c.p.data.size ≤ 500) := hid (by
        have := hf1.out
        unfold cpFew at this
        rw [eq_comm, Bool.and_eq_true, List.all_eq_true] at this
        intro c hc
        simpa using this.1 c hc)
      obtain ⟨wA, hwA⟩ := named w4
      rw [← hwA.out] at HC4 HB4 ⊢
      clear hwA HC2 HC3 HB2 HB3 HB1 HC1
      go_upto_region 5 with fail
      go_loopw [42] (fun i wr => ∃ k : Nat, k ≤ cl.length ∧ i = .int .i64 k ∧ Hid (BkAt wr p g (tks (bkNew n) (cl.take k)) ∧ Chg NoB w wr)) (fun i _ => cl.length - (intOf i).toNat)
      case atStart => exact ⟨0, by omega, rfl, hid ⟨HB4.out, HC4.out⟩⟩
      case round =>
        obtain ⟨k, hk, rfl, hI⟩ := hrel
        by_cases hlt : k < cl.length
        · obtain ⟨x, b, off, hx, rfl, c0, c1, c2, c3⟩ := Rd.cp_at HVC.out hI.out.2 k hlt
          have hxo := HCOK.out x (by rw [← hx.out]; exact List.getElem_mem _)
          have hxs := hcs.out x (by rw [← hx.out]; exact List.getElem_mem _)
          obtain ⟨Lk, hLk⟩ := named (tks (bkNew n) (cl.take k))
          obtain ⟨rs, hrs⟩ := named (bkTake Lk x.n x.p x.at_)
          have hst : Hid (tks (bkNew n) (cl.take (k + 1)) = rs.1) := hid (by rw [tks_snoc hlt, hx.out, ← hLk.out, hrs.out])
          rw [← hLk.out] at hI
          have hsz : x.p.data.size ≤ 2 ^ 62 := by omega
          go_upto_region 7 with fail
          refine wp_gen (fun W => Chg NoB wr W ∧ W.cell? ⟨wr.heap.size, 0, none⟩ = some (.int .i64 x.n) ∧ W.cell? ⟨wr.heap.size, 1, none⟩ = some (.int .i64 x.at_) ∧ W.cell? ⟨wr.heap.size, 2, none⟩ = some (.int .i64 x.p.at_) ∧ W.cell? ⟨wr.heap.size, 3, none⟩ = some (.string x.p.data)) ⟨(Chg.refl NoB wr).alloc _, by rw [cell_blk (blk_new _ _)]; rfl, by rw [cell_blk (blk_new _ _)]; rfl, by rw [cell_blk (blk_new _ _)]; rfl, by rw [cell_blk (blk_new _ _)]; rfl⟩ ?_
          rintro W ⟨hcW, d0, d1, d2, d3⟩
          have HCW := hid hcW
          clear hcW c0 c1 c2 c3
          go_wp2_with (go_at_call 13; refine (bk_take_calls p g Lk x.n x.at_ x.p _ (hI.out.1.mono HCW.out) hsz hxo.1 hxo.2.1 rs hrs).mono ?_; rintro e w6 ⟨rfl, hB6, hC6⟩)
          have HI6 : Hid (BkAt w6 p g (tks (bkNew n) (cl.take (k + 1))) ∧ Chg NoB w w6) := hid ⟨by rw [hst.out]; exact hB6.out, (hI.out.2.trans' HCW.out).new hC6.out (fun i x => by have h' : i = g := x; omega)⟩
          go_roundw
          case rel => exact ⟨k + 1, by omega, by go_num, HI6⟩
          case measure => simp [intOf] <;> omega
        · obtain rfl : k = cl.length := by omega
          rw [List.take_length] at hI
          obtain ⟨L, hL⟩ := named (tks (bkNew n) cl)
          rw [← hL.out] at hI
          have hLn : L.length = n := by rw [hL.out, tks_len]; simp [bkNew]
          have HLn := hid hLn
          obtain ⟨rs, hrs⟩ := named (bkRoll L l)
          have hvr := HVL.out.mono hI.out.2
          by_cases hr0 : rs.2 = 0
          · obtain ⟨PL, x0⟩ := rs
            dsimp only at hr0
            subst hr0
            have HR := hid (bkOf_roll hrs.out hI.out.1.ok (by have := hI.out.1.len; omega))
            go_upto_region 10 with (go_at_call 17; refine (roll_calls p g L _ l _ hI.out.1 hvr hl200 hlok.out (PL, 0) hrs).mono ?_; rintro e w5 ⟨v5, rfl, hB5, hC5⟩)
            obtain hB5 | ⟨gp, hgp, rfl, hbp⟩ := hB5.out
            · exfalso; have := HR.out.2.2; rw [hB5.1] at this; simp at this; omega
            have HBP := hid hbp
            clear hbp
            have HB5 := hid (hI.out.1.mono hC5.out)
            have HC5 := hid (hI.out.2.trans' hC5.out)
            have HV5 := hid (hvr.mono hC5.out)
            have hPL : PL.length = n := by rw [HR.out.2.2, hLn]
            have HPL := hid hPL
            clear hPL hLn hvr
            go_upto_region 13 with (go_at_call 6; refine (bnew_calls n _ h1 h8).mono ?_; rintro e w6 ⟨pd, gd, rfl, hB6, hC6, hp6, hg6⟩)
            obtain ⟨wB, hwB⟩ := named w5
            have HB6 := hid hB6.out
            have HC6 := hid hC6.out
            have HBI : Hid (BkAt w6 p g L) := hid (HB5.out.mono HC6.out)
            have HQR := HR.out.2.1
            have HQR := hid HQR
            obtain ⟨fr, hfr⟩ := named (bkFrom L)
            have HFR : Hid (0 ≤ fr ∧ fr ≤ 2147483647) := hid (by rw [hfr.out]; exact bkFrom_fits hI.out.1.ok)
            have HR1 := hid HR.out.1
            rw [← hfr.out] at HR1
            have HBN : Hid (BkAt w6 pd gd (bkNew PL.length)) := hid (by rw [HPL.out]; exact HB6.out)
            have HGP : Hid (gp < w5.heap.size ∧ w5.heap.size ≤ gd) := hid ⟨lt_of_block HBP.out, hg6⟩
            have hd0 : Hid (∀ q ∈ PL, q.data.size ≤ 220 ∧ fits q.at_) := hid (fun q hq => by have := HQR.out q hq; unfold Pg.right at this; simp at this; unfold fits; omega)
            clear hB6 hC6 HB6 hwB hp6 hg6
            clear hgp
            go_upto_region 14 with fail
            go_loopw [73] (fun i wr => ∃ k : Nat, k ≤ PL.length ∧ i = .int .i64 k ∧ Hid (BkAt wr pd gd (agMix PL fr k) ∧ Chg NoB w5 wr)) (fun i _ => PL.length - (intOf i).toNat)
            case atStart => exact ⟨0, by omega, rfl, hid ⟨by rw [agMix_zero]; exact HBN.out, HC6.out⟩⟩
            case round =>
              obtain ⟨k, hk, rfl, hJ⟩ := hrel
              by_cases hlt : k < PL.length
              · have hpb := hJ.out.2.heap HBP.out nob
                have c0 := cell_blk hpb (k * 2)
                have c1 := cell_blk hpb (k * 2 + 1)
                rw [List.getElem?_toArray, (pgsC_get PL k hlt).1] at c0
                rw [List.getElem?_toArray, (pgsC_get PL k hlt).2] at c1
                obtain ⟨q, hq⟩ := named PL[k]
                have hqm := hid (show q.data.size ≤ 220 ∧ fits q.at_ from by rw [hq.out]; exact hd0.out _ (List.getElem_mem _))
                have hqs : q.data.size ≤ 2 ^ 62 := by have := hqm.out.1; omega
                have hkf : fits (k : Int) := by have := h8; have := HPL.out; unfold fits; omega
                have hff : fits fr := by have := HFR.out; unfold fits; omega
                have hTk : Hid ((agMix PL fr (k + 1), (0 : Int)) = bkTake (agMix PL fr k) k q fr) := hid (by rw [hq.out]; exact (agMix_take hlt HQR.out HFR.out).symm)
                rw [← hq.out] at c0 c1
                have HBb : Hid (BkAt wr p g L) := hid (HB5.out.mono hJ.out.2)
                clear hpb
                go_upto_region 16 with fail
                have hP8 : PL.length ≤ 8 := by have := HPL.out; omega
                have hne : gp ≠ gd := by have := HGP.out; omega
                have cS : ∀ w' : World, Chg (OneB gd) wr w' → w'.cell? ⟨gp, k * 2, none⟩ = some (.int .i64 q.at_) ∧ w'.cell? ⟨gp, k * 2 + 1, none⟩ = some (.string q.data) := fun w' h => ⟨h.cell c0 (fun e => hne e), h.cell c1 (fun e => hne e)⟩
                have HJ0 := hid (hJ.out.1.mono (Chg.refl NoB wr).drew)
                have HB0 := hid (HBb.out.mono (Chg.refl NoB wr).drew)
                refine wp_region_ord 10 (.rd 0 (.rd 1 (.rd 2 (.rd 3 (.rd 4 (.rd 5 (.rd 6 (.one 7 (.one 8 (.rd 9 (.done))))))))))) (fun w' => w'.cell? ⟨gp, k * 2, none⟩ = some (.int .i64 q.at_) ∧ w'.cell? ⟨gp, k * 2 + 1, none⟩ = some (.string q.data)) (by kernel_rfl) (by kernel_rfl) (by kernel_rfl) (by kernel_rfl) (by kernel_rfl) (fun _ _ d _ _ h => by cases d <;> exact h) (⟨c0, c1⟩) (fun hS0 => ?_)
                refine wpOrd_rd rfl rfl (by first | decide | simp) (by assumption) (fun w' hw' K hK => by ((try unfold Same at hw'); (try go_split_ands); go_simp; exact hK)) ?_
                refine wpOrd_rd rfl rfl (by first | decide | simp) (by assumption) (fun w' hw' K hK => by ((try unfold Same at hw'); (try go_split_ands); go_simp; exact hK)) ?_
                refine wpOrd_rd rfl rfl (by first | decide | simp) (by assumption) (fun w' hw' K hK => by ((try unfold Same at hw'); (try go_split_ands); go_simp; exact hK)) ?_
                refine wpOrd_rd rfl rfl (by first | decide | simp) (by assumption) (fun w' hw' K hK => by ((try unfold Same at hw'); (try go_split_ands); go_simp; exact hK)) ?_
                refine wpOrd_rd rfl rfl (by first | decide | simp) (by assumption) (fun w' hw' K hK => by ((try unfold Same at hw'); (try go_split_ands); go_simp; exact hK)) ?_
                refine wpOrd_rd rfl rfl (by first | decide | simp) (by assumption) (fun w' hw' K hK => by ((try unfold Same at hw'); (try go_split_ands); go_simp; exact hK)) ?_
                refine wpOrd_rd rfl rfl (by first | decide | simp) (by assumption) (fun w' hw' K hK => by ((try unfold Same at hw'); (try go_split_ands); go_simp; exact hK)) ?_
                refine wpOrd_do rfl ?_
                (first | refine wpList_plain rfl (fun K hK => ?_) | refine wpList_step (fun K hK => ?_))
                go_simp
                ((with_reducible refine (bkFrom_calls p g L _ HB0.out fr hfr).mono ?_); rintro e w8 ⟨rfl, hc8⟩)
                refine hK _ _ ?_
                clear hK K
                have hd8 := (Chg.refl NoB wr).drew.trans' hc8
                (try dsimp only [Act.put])
                refine wpOrd_done (cS _ (hd8.mono fun _ e => e.elim)) (fun hS1 => ?_)
                refine wpOrd_do rfl ?_
                (first | refine wpList_plain rfl (fun K hK => ?_) | refine wpList_step (fun K hK => ?_))
                go_simp
                ((with_reducible refine (bk_take_calls pd gd (agMix PL fr k) k fr q _ (HJ0.out.mono hc8) hqs hkf hff _ hTk).mono ?_); rintro e w9 ⟨rfl, hB9, hC9⟩)
                refine hK _ _ ?_
                clear hK K
                have hd9 := (hd8.mono fun _ e => e.elim).trans' hC9.out
                (try dsimp only [Act.put])
                refine wpOrd_done (cS _ hd9) (fun hS2 => ?_)
                refine wpOrd_rd rfl rfl (by first | decide | simp) (by assumption) (fun w' hw' K hK => by ((try unfold Same at hw'); (try go_split_ands); go_simp; exact hK)) ?_
                refine wpOrd_nil ?_
                have HJ9 : Hid (BkAt w9 pd gd (agMix PL fr (k + 1)) ∧ Chg NoB w5 w9) := hid ⟨hB9.out, hJ.out.2.new hd9 (fun i x => by have h' : i = gd := x; have := HGP.out; omega)⟩
                clear hB9 hC9 hd9 hd8 cS c0 c1
                go_wp2_with fail
                go_roundw
                case rel => exact ⟨k + 1, by omega, by go_num, HJ9⟩
                case measure => simp [intOf] <;> omega
              · obtain rfl : k = PL.length := by omega
                rw [agMix_all] at hJ
                have hvr2 := HV5.out.mono hJ.out.2
                have hPm : PL.length ≤ maxLen := by have := HPL.out; unfold maxLen; omega
                go_upto_region 20 with (go_at_call 17; refine (roll_calls pd gd _ _ l _ hJ.out.1 hvr2 hl200 hlok.out (PL, 0) (hid HR1.out.symm)).mono ?_; rintro e w7 ⟨v7, rfl, hB7, hC7⟩)
                have hr7 := hid (hB7.out.rd hPm)
                have hr5 := hid (PgB.rd (B := 0) (.inr ⟨gp, Nat.zero_le _, rfl, (hJ.out.2.trans' hC7.out).heap HBP.out nob⟩) hPm)
                have hcE := hid (HC5.out.trans' (hJ.out.2.trans' hC7.out))
                go_wp2_with (go_at_call 21; refine (samePg_calls _ v7 PL PL _ hr5.out hr7.out true (hid (by simp))).mono ?_; rintro e w10 ⟨rfl, n10, rfl⟩)
                go_ret
                exact ⟨rfl, hcE.out.drewN _⟩
          · have hnil : rs.1 = [] := by
              have := hrs.out
              unfold bkRoll at this
              rw [this] at hr0 ⊢
              split at hr0
              · split at hr0
                · exact absurd rfl hr0
                · rename_i h1 h2; rw [if_pos h1, if_neg h2]
              · rename_i h1; rw [if_neg h1]
            obtain ⟨P0, x0⟩ := rs
            dsimp only at hr0 hnil
            subst hnil
            have hb0 : (x0 == 0) = false := by simpa using hr0
            go_upto_region 10 with (go_at_call 17; refine (roll_calls p g L _ l _ hI.out.1 hvr hl200 hlok.out ([], x0) hrs).mono ?_; rintro e w5 ⟨v5, rfl, hB5, hC5⟩)
            have hv5 : ∃ a, v5 = .slice a 0 0 := by
              rcases hB5.out with ⟨_, rfl⟩ | ⟨gp, _, rfl, _⟩
              · exact ⟨_, rfl⟩
              · exact ⟨_, rfl⟩
            obtain ⟨a5, rfl⟩ := hv5
            clear hB5
            go_wp2
            go_ret
            exact ⟨rfl, hI.out.2.trans' hC5.out⟩
    · have hff' : f1 = false ∨ (f1 = true ∧ f2 = false) := by cases f1 <;> cases f2 <;> simp_all
      rcases hff' with rfl | ⟨rfl, rfl⟩
      · go_wp2_with (first
          | (go_at_call 9; refine (bkAwake _).mono ?_; rintro e w2 ⟨rfl, hc2⟩; have HC2 := hid (HC1.out.trans' hc2); clear hc2)
          | (go_at_call 12; refine (hfr _ (HRC.out.mono HC2.out)).mono ?_; rintro e w3 ⟨rfl, hc3⟩; have HC1 := hid (HC2.out.trans' hc3); clear hc3))
        go_ret
        exact ⟨rfl, HC2.out⟩
      · go_wp2_with (first
          | (go_at_call 9; refine (bkAwake _).mono ?_; rintro e w2 ⟨rfl, hc2⟩; have HC2 := hid (HC1.out.trans' hc2); clear hc2)
          | (go_at_call 12; refine (hfr _ (HRC.out.mono HC2.out)).mono ?_; rintro e w3 ⟨rfl, hc3⟩; have HC3 := hid (HC2.out.trans' hc3); clear hc3)
          | (go_at_call 20; refine (hfe _ (HVL.out.mono HC3.out)).mono ?_; rintro e w4 ⟨rfl, hc4⟩; have HC1 := hid (HC3.out.trans' hc4); clear hc4))
        go_ret
        exact ⟨rfl, HC2.out⟩
end Go.Proofs.Ytghklbflbodajaa
