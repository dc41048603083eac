import Derived.Test.YtekjchphlphecaaSb19
namespace Go.Proofs.Ytekjchphlphecaa
open Go.RowKit Go.ChangeMaps Go.MapKept
attribute [local go_sem] Go.Oper.rdK
set_option linter.unusedVariables false
set_option linter.unusedSimpArgs false
set_option linter.unnecessarySimpa false
set_option maxHeartbeats 8000000

set_option maxRecDepth 100000 in
theorem rPromote_calls (w0 : World) (p : Nat) (pv lv : Value) (P : List Pg) (L : List Ent) (w : World) (h : RfAt w0 w p pv lv P L) (h1 : 1 ≤ P.length) (hf : ∀ q ∈ P, fits q.at_) (hok : ∀ x ∈ L, x.r.okk) (hl : L.length ≤ 1000000) (res : List Pg × Int) (hres : Hid (res = promOf L (rowsS L) P)) :
    Calls Try.prog 19 #[.pointer (some ⟨p, 0, none⟩)] w fun e w' => ∃ vo, e = .returned (.tuple #[vo, .int .i64 res.2]) ∧ Hid (w'.ownsRow w.heap.size 9 1 vo res.1.length (res.1.map (fun p => Value.string p.data))) ∧ Hid (Chg NoB w w') := by
  have hpr := h.cells.1
  have HH := hid h
  obtain ⟨ap, cp, rfl⟩ := ownsForm h.pgs
  have h8 := h.l8
  have hPs : Hid (∀ q ∈ P, q.data.size ≤ 220 ∧ fits q.at_) := hid (fun q hq => ⟨h.sz q hq, hf q hq⟩)
  obtain ⟨g0, cap0, post0, e0, hg00, hgb0, hcap0, _⟩ := own_post h.pgs (by omega)
  cases e0
  have HG := hid hgb0
  obtain ⟨R, hR⟩ := named (rowsS L)
  rw [← hR.out] at hres
  have hRl : R.length ≤ L.length := by rw [hR.out]; exact rowsS_len L
  obtain ⟨n, hn⟩ := named P.length
  rw [← hn.out] at h1 h8 hpr hcap0
  have hu := hid (undoOf_ok (l := L) hok)
  replace hpr := ((Chg.refl NoB w).alloc (.cells #[] 48)).cell hpr nob
  clear h hgb0 hg00 hf
  go_enter Try.func19, Try.ntmps19
  go_wp2_with (first
    | (at_builtin; refine step_appW slPg2 rfl _ _ rfl (n := 0) (xs := []) (v := .slice (some ⟨w.heap.size, 0, none⟩) 0 0) ⟨rfl, .inr ⟨w.heap.size, 0, _, rfl, blk_new _ _, Nat.le_refl _, by simp [maxLen], by simp, by simp⟩⟩ rfl ⟨g0, 0, none⟩ n cp (pgsC P) rfl (by rw [pgsC_len, hn.out]) (news_at (pre := []) (post := post0) (by simpa using blk_alloc HG.out _) rfl) pgsC_one (by omega) (by unfold maxLen; omega) ?_; intro v5 w5 ho5 hc5 hn5; have hC5 := hid (((Chg.refl NoB w).alloc (.cells #[] 48)).new hc5 (fun j hj => by have h' : w.heap.size = j := (by simpa [OwnB, Value.ownBlock] using hj); omega)))
    | (go_at_call 32; refine (rRows_calls w0 p _ lv P L _ (HH.out.keep0 hC5.out) hl R hR).mono ?_; rintro e w1 ⟨vo, rfl, hO, hc⟩; obtain ⟨ar, cr, rfl⟩ := ownsForm hO.out))
  simp only [Nat.zero_add, List.nil_append] at ho5
  have hown5 : ∀ j, OwnB v5 j → w.heap.size ≤ j := fun j hj => by
    rcases hn5 j hj with h3 | h3
    · have h' : w.heap.size = j := by simpa [OwnB, Value.ownBlock] using h3
      omega
    · simp at h3; omega
  obtain ⟨g, cap, post, rfl, hgb, hcap⟩ := ho5.post (by omega)
  have hgw : w.heap.size ≤ g := hown5 g (by simp [OwnB, Value.ownBlock])
  have hgl := lt_of_block hgb
  have HI : Hid (PrI w w1 g post n P) := hid ⟨hc.out.heap hgb nob, hn.out.symm, hPs.out, hC5.out.trans' hc.out, hgw⟩
  obtain ⟨_, _, ee, hr1, hr2, hrd⟩ := Rd.of_own (l := R) (enc := encRw) (size := 3) (fun _ => rfl) hO.out
  cases ee
  have HRD := hid hrd
  have HOr : Hid (∀ j, OwnB (.slice ar R.length cr) j → w5.heap.size ≤ j) := hid (fun j hj => (OwnB.ge hO.out j hj).1)
  unfold maxLen at hr2
  clear hrd hO hc hC5 hc5 hn5 ho5 hown5 hgb hPs hpr HG
  go_loopw [6] (fun i wr => ∃ (k : Nat) (ps : List Pg), k ≤ R.length ∧ i = .int .i64 k ∧ Hid (promOf L R P = promOf L (R.drop k) ps) ∧ Hid (PrI w wr g post n ps ∧ Chg (OneB g) w1 wr)) (fun i _ => R.length - (intOf i).toNat)
  case atStart => exact ⟨0, P, by omega, rfl, rfl, HI.out, Chg.refl _ _⟩
  case round =>
    obtain ⟨k, ps, hk, rfl, hE, hI⟩ := hrel
    clear HI
    by_cases hlt : k < R.length
    · obtain ⟨rb, ro, rfl, hrc⟩ := HRD.out k _ (List.getElem?_eq_getElem hlt)
      have hrbg : rb ≠ g := fun e => by have := HOr.out rb (by simp [OwnB, Value.ownBlock]); omega
      obtain ⟨t1, ht1⟩ := named R[k].1
      obtain ⟨a1, ha1⟩ := named R[k].2
      have r0 : wr.cell? ⟨rb, ro + k * 3, none⟩ = some (.int .i64 t1) := by rw [ht1.out]; exact hI.out.2.cell (hrc 0 _ rfl) hrbg
      have r2 : wr.cell? ⟨rb, ro + k * 3 + 2, none⟩ = some (.int .i64 a1) := by rw [ha1.out]; exact hI.out.2.cell (hrc 2 _ rfl) hrbg
      obtain ⟨u, hu1⟩ := named (undoOf L t1 a1 0)
      have hcons : Hid (promOf L (R.drop k) ps = if u.2 = 0 then promOf L (R.drop (k + 1)) (undoPg ps u.1) else ([], u.2)) := hid (by
        rw [List.drop_eq_getElem_cons hlt, hu1.out, ht1.out, ha1.out]; rfl)
      have hul : u.1.length ≤ L.length := by
        rw [hu1.out]; unfold undoOf orErr
        split
        · split
          · simp only [List.length_map]
            exact Nat.le_trans (List.length_filter_le _ _) walk_len'
          · simp
        · simp
      have hP := hid (HH.out.keep0 hI.out.1.chg)
      have p1 := hP.out.cells.2
      have huok : Hid (∀ r ∈ u.1, r.after.size ≤ 2 ^ 62 ∧ fits r.off) := hid (by rw [hu1.out]; exact hu.out _ _ _)
      have hk0 : (0 : Int) ≤ (k : Int) := by omega
      have hk1 : (k : Int) < (R.length : Int) := by omega
      clear hrc ht1 ha1
      go_upto_region 6 with fail
      refine wp_region_ord 20 (.rd 0 (.rd 1 (.rd 2 (.rd 3 (.rd 4 (.rd 5 (.rd 6 (.rd 7 (.rd 8 (.rd 9 (.rd 10 (.rd 11 (.rd 12 (.rd 13 (.one 14 (.rd 15 (.rd 16 (.rd 17 (.rd 18 (.rd 19 (.done))))))))))))))))))))) (Same wr) (by kernel_rfl) (by kernel_rfl) (by kernel_rfl) (by kernel_rfl) (by kernel_rfl) (fun _ _ d _ _ h => by cases d <;> exact h) (Same.of (Chg.refl _ _).drew) (fun hS0 => ?_)
      refine wpOrd_rd rfl rfl (by first | decide | simp) (by assumption) (fun w' hw' K hK => by ((try unfold Same at hw'); (try go_split_ands); go_simp; exact hK)) ?_
      refine wpOrd_rd rfl rfl (by first | decide | simp) (by assumption) (fun w' hw' K hK => by ((try unfold Same at hw'); (try go_split_ands); go_simp; exact hK)) ?_
      refine wpOrd_rd rfl rfl (by first | decide | simp) (by assumption) (fun w' hw' K hK => by ((try unfold Same at hw'); (try go_split_ands); go_simp; exact hK)) ?_
      refine wpOrd_rd rfl rfl (by first | decide | simp) (by assumption) (fun w' hw' K hK => by ((try unfold Same at hw'); (try go_split_ands); go_simp; exact hK)) ?_
      refine wpOrd_rd rfl rfl (by first | decide | simp) (by assumption) (fun w' hw' K hK => by ((try unfold Same at hw'); (try go_split_ands); go_simp; exact hK)) ?_
      refine wpOrd_rd rfl rfl (by first | decide | simp) (by assumption) (fun w' hw' K hK => by ((try unfold Same at hw'); (try go_split_ands); go_simp; exact hK)) ?_
      refine wpOrd_rd rfl rfl (by first | decide | simp) (by assumption) (fun w' hw' K hK => by ((try unfold Same at hw'); (try go_split_ands); go_simp; exact hK)) ?_
      refine wpOrd_rd rfl rfl (by first | decide | simp) (by assumption) (fun w' hw' K hK => by ((try unfold Same at hw'); (try go_split_ands); go_simp; exact hK)) ?_
      refine wpOrd_rd rfl rfl (by first | decide | simp) (by assumption) (fun w' hw' K hK => by ((try unfold Same at hw'); (try go_split_ands); go_simp; exact hK)) ?_
      refine wpOrd_rd rfl rfl (by first | decide | simp) (by assumption) (fun w' hw' K hK => by ((try unfold Same at hw'); (try go_split_ands); go_simp; exact hK)) ?_
      refine wpOrd_rd rfl rfl (by first | decide | simp) (by assumption) (fun w' hw' K hK => by ((try unfold Same at hw'); (try go_split_ands); go_simp; exact hK)) ?_
      refine wpOrd_rd rfl rfl (by first | decide | simp) (by assumption) (fun w' hw' K hK => by ((try unfold Same at hw'); (try go_split_ands); go_simp; exact hK)) ?_
      refine wpOrd_rd rfl rfl (by first | decide | simp) (by assumption) (fun w' hw' K hK => by ((try unfold Same at hw'); (try go_split_ands); go_simp; exact hK)) ?_
      refine wpOrd_rd rfl rfl (by first | decide | simp) (by assumption) (fun w' hw' K hK => by ((try unfold Same at hw'); (try go_split_ands); go_simp; exact hK)) ?_
      refine wpOrd_do rfl ?_
      (first | refine wpList_plain rfl (fun K hK => ?_) | refine wpList_step (fun K hK => ?_))
      go_simp
      ((with_reducible refine (rUndo_calls lv L t1 a1 0 _ ((hP.out.keep0 (Chg.refl NoB wr).drew).lst.ents) hl u hu1).mono ?_); rintro e w2 ⟨vu, rfl, hou, hc2⟩)
      refine hK _ _ ?_
      clear hK K
      obtain ⟨au, cu, rfl⟩ := ownsForm hou.out
      (try dsimp only [Act.put])
      refine wpOrd_done (Same.of ((Chg.refl NoB wr).drew.trans' hc2.out)) (fun hS1 => ?_)
      refine wpOrd_rd rfl rfl (by first | decide | simp) (by assumption) (fun w' hw' K hK => by ((try unfold Same at hw'); (try go_split_ands); go_simp; exact hK)) ?_
      refine wpOrd_rd rfl rfl (by first | decide | simp) (by assumption) (fun w' hw' K hK => by ((try unfold Same at hw'); (try go_split_ands); go_simp; exact hK)) ?_
      refine wpOrd_rd rfl rfl (by first | decide | simp) (by assumption) (fun w' hw' K hK => by ((try unfold Same at hw'); (try go_split_ands); go_simp; exact hK)) ?_
      refine wpOrd_rd rfl rfl (by first | decide | simp) (by assumption) (fun w' hw' K hK => by ((try unfold Same at hw'); (try go_split_ands); go_simp; exact hK)) ?_
      refine wpOrd_rd rfl rfl (by first | decide | simp) (by assumption) (fun w' hw' K hK => by ((try unfold Same at hw'); (try go_split_ands); go_simp; exact hK)) ?_
      refine wpOrd_nil ?_
      have hc9 := hid ((Chg.refl NoB wr).drew.trans' hc2.out)
      have hI2 := hid (show PrI w w2 g post n ps ∧ Chg (OneB g) w1 w2 from ⟨hI.out.1.keep (S := NoB) hc9.out, hI.out.2.trans hc9.out (fun _ e => e.elim)⟩)
      obtain ⟨_, _, ee, hu2, hu3, hud⟩ := Rd.of_own (l := u.1) (enc := Rec.csn) (size := 11) (fun _ => rfl) hou.out
      cases ee
      have HUD := hid hud
      have hgwr := lt_of_block hI.out.1.blk
      have HOu : Hid (∀ j, OwnB (.slice au u.1.length cu) j → j ≠ g) := hid (fun j hj => by have h4 := (OwnB.ge hou.out j hj).1; simp at h4; omega)
      unfold maxLen at hu3
      clear hS0 hc2 hou hud r0 r2 p1 hP hI
      obtain ⟨er, her⟩ := named u.2
      rw [← her.out]
      by_cases h0 : er = 0
      · subst h0
        have hst : Hid (promOf L R P = promOf L (R.drop (k + 1)) (undoPg ps u.1)) := hid (by rw [hE.out, hcons.out, ← her.out]; rfl)
        clear hcons hE her hc9
        go_wp2_with fail
        obtain ⟨wB, hwB⟩ := named w2
        rw [← hwB.out] at hI2 HUD ⊢
        clear hwB
        go_loopw [9] (fun i wr => ∃ m : Nat, m ≤ u.1.length ∧ i = .int .i64 m ∧ Hid (PrI w wr g post n (undoPg ps (u.1.take m)) ∧ Chg (OneB g) w1 wr ∧ Chg (OneB g) wB wr)) (fun i _ => u.1.length - (intOf i).toNat)
        case atStart => exact ⟨0, by omega, rfl, hI2.out.1, hI2.out.2, Chg.refl _ _⟩
        case round =>
          obtain ⟨m, hm, rfl, hJ⟩ := hrel
          clear hI2
          by_cases hml : m < u.1.length
          · obtain ⟨ub, uo, rfl, huc⟩ := HUD.out m _ (List.getElem?_eq_getElem hml)
            have hubg : ub ≠ g := HOu.out ub (by simp [OwnB, Value.ownBlock])
            obtain ⟨r, hr⟩ := named u.1[m]
            rw [← hr.out] at huc
            have z2 := hJ.out.2.2.cell (huc 2 _ rfl) hubg
            have z3 := hJ.out.2.2.cell (huc 3 _ rfl) hubg
            have z8 := hJ.out.2.2.cell (huc 8 _ rfl) hubg
            obtain ⟨psm, hpsm⟩ := named (undoPg ps (u.1.take m))
            rw [← hpsm.out] at hJ
            have hnx : Hid (undoPg ps (u.1.take (m + 1)) = pSet psm r.page (fun p => p.undo r)) := hid (by rw [undoPg_snoc hml, ← hpsm.out, hr.out])
            obtain ⟨hrs, hro⟩ := huok.out r (by rw [hr.out]; exact List.getElem_mem _)
            have hpl : psm.length = n := hJ.out.1.len
            have HPL := hid hpl
            have hm0 : (0 : Int) ≤ (m : Int) := by omega
            have hm1 : (m : Int) < (u.1.length : Int) := by omega
            have hpr : (r.page < 0 ∨ (psm.length : Int) ≤ r.page) ∨ (0 ≤ r.page ∧ r.page < (n : Int)) := by omega
            clear huc hpl hpsm
            rcases hpr with hp | ⟨hp0, hp1⟩
            · have hsame : Hid (undoPg ps (u.1.take (m + 1)) = psm) := hid (by rw [hnx.out]; unfold pSet; rw [if_pos hp])
              rw [HPL.out] at hp
              clear hnx z3 z8
              rcases hp with hp | hp
              · go_wp2_with fail
                go_roundw
                case rel => exact ⟨m + 1, by omega, by go_num, hid (by rw [hsame.out]; exact hJ.out)⟩
                case measure => simp [intOf]; omega
              · have hp0 : (0 : Int) ≤ r.page := by omega
                go_wp2_with fail
                go_roundw
                case rel => exact ⟨m + 1, by omega, by go_num, hid (by rw [hsame.out]; exact hJ.out)⟩
                case measure => simp [intOf]; omega
            · obtain ⟨kp, hkp⟩ := Int.eq_ofNat_of_zero_le hp0
              have hkl : kp < psm.length := by rw [HPL.out]; omega
              obtain ⟨q, hq⟩ := named psm[kp]
              obtain ⟨q', hq'⟩ := named (q.put r.off r.after q.at_)
              have hqs := hJ.out.1.sz q (by rw [hq.out]; exact List.getElem_mem _)
              have hqz : q.data.size ≤ 2 ^ 62 := by omega
              have hqf := hqs.2
              have hset : Hid (pSet psm r.page (fun p => p.undo r) = psm.set kp (if q'.2 = 0 then q'.1 else q)) := hid (by
                unfold pSet
                rw [if_neg (by rw [HPL.out]; omega), hkp, Int.toNat_natCast, getD_at psm kp hkl, ← hq.out]
                exact congrArg (psm.set kp) (undo_of_put hq'.out))
              have hself : Hid (psm.set kp q = psm) := hid (by rw [hq.out, List.set_getElem_self])
              obtain ⟨d1, d2⟩ := pg_cells (pre := []) (post := post) (w := wr) (by simpa using hJ.out.1.blk) kp hkl
              simp only [List.length_nil, Nat.zero_add] at d1 d2
              rw [← hq.out] at d1 d2
              rw [hkp] at z2
              have HKP := hid hkp
              have hk0 : (0 : Int) ≤ (kp : Int) := by omega
              have hk1 : (kp : Int) < (n : Int) := by omega
              clear hkp hp0 hp1 hq hqs
              go_upto_region 14 with fail
              go_cut [11, 12] (fun s4 s5 wx => ∃ h : Nat, s4 = .pointer (some ⟨h, 0, none⟩) ∧ s5 = .int .i64 q'.2 ∧ Hid (Chg NoB wr wx ∧ wx.heap[h]? = some (.cells #[.int .i64 q'.1.at_, .string q'.1.data] 48 (0, 0)) ∧ wr.heap.size ≤ h))
              case first =>
                refine wp_region_ord 26 (.rd 0 (.rd 1 (.rd 2 (.rd 3 (.rd 4 (.rd 5 (.rd 6 (.rd 7 (.rd 8 (.rd 9 (.rd 10 (.rd 11 (.rd 12 (.rd 13 (.rd 14 (.rd 15 (.rd 16 (.rd 17 (.rd 18 (.two 19 (.rd 20 (.rd 21 (.rd 22 (.one 23 (.one 24 (.rd 25 (.done))))))) 23 (.one 19 (.rd 20 (.rd 21 (.rd 22 (.one 24 (.rd 25 (.done))))))))))))))))))))))))))) (Same wr) (by kernel_rfl) (by kernel_rfl) (by kernel_rfl) (by kernel_rfl) (by kernel_rfl) (fun _ _ d _ _ h => by cases d <;> exact h) (Same.of (Chg.refl _ _).drew) (fun hS0 => ?_)
                refine wpOrd_rd rfl rfl (by first | decide | simp) (by assumption) (fun w' hw' K hK => by ((try unfold Same at hw'); (try go_split_ands); go_simp; exact hK)) ?_
                refine wpOrd_rd rfl rfl (by first | decide | simp) (by assumption) (fun w' hw' K hK => by ((try unfold Same at hw'); (try go_split_ands); go_simp; exact hK)) ?_
                refine wpOrd_rd rfl rfl (by first | decide | simp) (by assumption) (fun w' hw' K hK => by ((try unfold Same at hw'); (try go_split_ands); go_simp; exact hK)) ?_
                refine wpOrd_rd rfl rfl (by first | decide | simp) (by assumption) (fun w' hw' K hK => by ((try unfold Same at hw'); (try go_split_ands); go_simp; exact hK)) ?_
                refine wpOrd_rd rfl rfl (by first | decide | simp) (by assumption) (fun w' hw' K hK => by ((try unfold Same at hw'); (try go_split_ands); go_simp; exact hK)) ?_
                refine wpOrd_rd rfl rfl (by first | decide | simp) (by assumption) (fun w' hw' K hK => by ((try unfold Same at hw'); (try go_split_ands); go_simp; exact hK)) ?_
                refine wpOrd_rd rfl rfl (by first | decide | simp) (by assumption) (fun w' hw' K hK => by ((try unfold Same at hw'); (try go_split_ands); go_simp; exact hK)) ?_
                refine wpOrd_rd rfl rfl (by first | decide | simp) (by assumption) (fun w' hw' K hK => by ((try unfold Same at hw'); (try go_split_ands); go_simp; exact hK)) ?_
                refine wpOrd_rd rfl rfl (by first | decide | simp) (by assumption) (fun w' hw' K hK => by ((try unfold Same at hw'); (try go_split_ands); go_simp; exact hK)) ?_
                refine wpOrd_rd rfl rfl (by first | decide | simp) (by assumption) (fun w' hw' K hK => by ((try unfold Same at hw'); (try go_split_ands); go_simp; exact hK)) ?_
                refine wpOrd_rd rfl rfl (by first | decide | simp) (by assumption) (fun w' hw' K hK => by ((try unfold Same at hw'); (try go_split_ands); go_simp; exact hK)) ?_
                refine wpOrd_rd rfl rfl (by first | decide | simp) (by assumption) (fun w' hw' K hK => by ((try unfold Same at hw'); (try go_split_ands); go_simp; exact hK)) ?_
                refine wpOrd_rd rfl rfl (by first | decide | simp) (by assumption) (fun w' hw' K hK => by ((try unfold Same at hw'); (try go_split_ands); go_simp; exact hK)) ?_
                refine wpOrd_rd rfl rfl (by first | decide | simp) (by assumption) (fun w' hw' K hK => by ((try unfold Same at hw'); (try go_split_ands); go_simp; exact hK)) ?_
                refine wpOrd_rd rfl rfl (by first | decide | simp) (by assumption) (fun w' hw' K hK => by ((try unfold Same at hw'); (try go_split_ands); go_simp; exact hK)) ?_
                refine wpOrd_rd rfl rfl (by first | decide | simp) (by assumption) (fun w' hw' K hK => by ((try unfold Same at hw'); (try go_split_ands); go_simp; exact hK)) ?_
                refine wpOrd_rd rfl rfl (by first | decide | simp) (by assumption) (fun w' hw' K hK => by ((try unfold Same at hw'); (try go_split_ands); go_simp; exact hK)) ?_
                refine wpOrd_rd rfl rfl (by first | decide | simp) (by assumption) (fun w' hw' K hK => by ((try unfold Same at hw'); (try go_split_ands); go_simp; exact hK)) ?_
                refine wpOrd_rd rfl rfl (by first | decide | simp) (by assumption) (fun w' hw' K hK => by ((try unfold Same at hw'); (try go_split_ands); go_simp; exact hK)) ?_
                refine wpOrd_two rfl rfl ?_ ?_
                · (first | refine wpList_plain rfl (fun K hK => ?_) | refine wpList_step (fun K hK => ?_))
                  go_simp
                  ((with_reducible refine (rPut_lit q r.off q.at_ r.after _ q' hq' hqz hrs hro hqf).mono ?_); rintro e w2 ⟨rfl, hc2⟩)
                  refine hK _ _ ?_
                  clear hK K
                  (try dsimp only [Act.put])
                  refine wpOrd_done (Same.of ((Chg.refl NoB wr).drew.trans' hc2)) (fun hS1 => ?_)
                  refine wpOrd_rd rfl rfl (by first | decide | simp) (by assumption) (fun w' hw' K hK => by ((try unfold Same at hw'); (try go_split_ands); go_simp; exact hK)) ?_
                  refine wpOrd_rd rfl rfl (by first | decide | simp) (by assumption) (fun w' hw' K hK => by ((try unfold Same at hw'); (try go_split_ands); go_simp; exact hK)) ?_
                  refine wpOrd_rd rfl rfl (by first | decide | simp) (by assumption) (fun w' hw' K hK => by ((try unfold Same at hw'); (try go_split_ands); go_simp; exact hK)) ?_
                  refine wpOrd_do rfl ?_
                  (first | refine wpList_plain rfl (fun K hK => ?_) | refine wpList_step (fun K hK => ?_))
                  go_simp
                  refine hK _ _ ?_
                  clear hK K
                  (try dsimp only [Act.put])
                  refine wpOrd_done (Same.of (((Chg.refl NoB wr).drew.trans' hc2).alloc _)) (fun hS2 => ?_)
                  refine wpOrd_do rfl ?_
                  refine step_storeRow rfl rfl w2.heap.size rfl rfl (blk_new _ _) (by kernel_rfl) rfl (by simp [Value.oneCell']) ?_; intro w3 hb3 hc3 hs3
                  (try dsimp only [Act.put])
                  refine wpOrd_done (Same.of ((((Chg.refl NoB wr).drew.trans' hc2).alloc _).new hc3 (fun i e => by have h' : i = w2.heap.size := e; have := hc2.size; simp at this; omega))) (fun hS3 => ?_)
                  refine wpOrd_rd rfl rfl (by first | decide | simp) (by assumption) (fun w' hw' K hK => by ((try unfold Same at hw'); (try go_split_ands); go_simp; exact hK)) ?_
                  refine wpOrd_nil ?_
                  have hz := hc2.size
                  simp only [World.size_drew] at hz
                  go_wp2_with fail
                  go_meet
                  exact ⟨_, rfl, rfl, (((Chg.refl NoB wr).drew.trans' hc2).alloc _).new hc3 (fun i e => by have h' : i = w2.heap.size := e; omega), hb3, hz⟩
                · (first | refine wpList_plain rfl (fun K hK => ?_) | refine wpList_step (fun K hK => ?_))
                  go_simp
                  refine hK _ _ ?_
                  clear hK K
                  (try dsimp only [Act.put])
                  refine wpOrd_done (Same.of ((Chg.refl NoB wr).drew.alloc _)) (fun hS4 => ?_)
                  refine wpOrd_do rfl ?_
                  (first | refine wpList_plain rfl (fun K hK => ?_) | refine wpList_step (fun K hK => ?_))
                  go_simp
                  ((with_reducible refine (rPut_lit q r.off q.at_ r.after _ q' hq' hqz hrs hro hqf).mono ?_); rintro e w2 ⟨rfl, hc2⟩)
                  refine hK _ _ ?_
                  clear hK K
                  (try dsimp only [Act.put])
                  refine wpOrd_done (Same.of (((Chg.refl NoB wr).drew.alloc _).trans' hc2)) (fun hS5 => ?_)
                  refine wpOrd_rd rfl rfl (by first | decide | simp) (by assumption) (fun w' hw' K hK => by ((try unfold Same at hw'); (try go_split_ands); go_simp; exact hK)) ?_
                  refine wpOrd_rd rfl rfl (by first | decide | simp) (by assumption) (fun w' hw' K hK => by ((try unfold Same at hw'); (try go_split_ands); go_simp; exact hK)) ?_
                  refine wpOrd_rd rfl rfl (by first | decide | simp) (by assumption) (fun w' hw' K hK => by ((try unfold Same at hw'); (try go_split_ands); go_simp; exact hK)) ?_
                  refine wpOrd_do rfl ?_
                  refine step_storeRow rfl rfl wr.heap.size rfl rfl (hc2.heap (blk_new _ _) nob) (by kernel_rfl) rfl (by simp [Value.oneCell']) ?_; intro w3 hb3 hc3 hs3
                  (try dsimp only [Act.put])
                  refine wpOrd_done (Same.of ((((Chg.refl NoB wr).drew.alloc _).trans' hc2).new hc3 (fun i e => by have h' : i = wr.heap.size := e; omega))) (fun hS6 => ?_)
                  refine wpOrd_rd rfl rfl (by first | decide | simp) (by assumption) (fun w' hw' K hK => by ((try unfold Same at hw'); (try go_split_ands); go_simp; exact hK)) ?_
                  refine wpOrd_nil ?_
                  go_wp2_with fail
                  go_meet
                  exact ⟨_, rfl, rfl, (((Chg.refl NoB wr).drew.alloc _).trans' hc2).new hc3 (fun i e => by have h' : i = wr.heap.size := e; omega), hb3, Nat.le_refl _⟩
              case rest =>
                obtain ⟨h, rfl, rfl, hcut⟩ := hcut
                have e1 : wc.cell? ⟨h, 0, none⟩ = some (.int .i64 q'.1.at_) := by rw [cell_blk hcut.out.2.1]; rfl
                have e2 : wc.cell? ⟨h, 1, none⟩ = some (.string q'.1.data) := by rw [cell_blk hcut.out.2.1]; rfl
                have hJ2 := hid (show PrI w wc g post n psm ∧ Chg (OneB g) w1 wc ∧ Chg (OneB g) wB wc from ⟨hJ.out.1.keep (S := NoB) hcut.out.1, hJ.out.2.1.trans hcut.out.1 (fun _ e => e.elim), hJ.out.2.2.trans hcut.out.1 (fun _ e => e.elim)⟩)
                clear z2 z3 z8 d1 d2 hJ hcut
                obtain ⟨er, her⟩ := named q'.2
                rw [← her.out]
                by_cases h0 : er = 0
                · subst h0
                  have hset2 : Hid (undoPg ps (u.1.take (m + 1)) = psm.set kp q'.1) := hid (by rw [hnx.out, hset.out, ← her.out]; rfl)
                  have hlen : Hid ((pgsC psm ++ post).length = n * 2 + post.length) := hid (by simp [pgsC_len, HPL.out])
                  go_wp2_with ((fail_if_success (fail_if_success (with_reducible change wpList _ _ _ (Oper.mk _ (.store 48 _ _) _ _ _ _ :: _) _ _))); refine step_storeAt rfl rfl g (kp * 2) (cells := encP q'.1) rfl rfl hJ2.out.1.blk (by kernel_rfl) (by rw [hlen.out]; simp [encP]; omega) (by simp [encP, Value.oneCell']) ?_; intro w3 hb3 hc3 hs3)
                  have hsp := pg_splice [] post psm kp q'.1 hkl
                  simp only [List.length_nil, Nat.zero_add, List.nil_append] at hsp
                  rw [hsp, ← hset2.out] at hb3
                  have hN := hid (show PrI w w3 g post n (undoPg ps (u.1.take (m + 1))) ∧ Chg (OneB g) w1 w3 ∧ Chg (OneB g) wB w3 from ⟨hJ2.out.1.set hnx.out hb3 hc3, hJ2.out.2.1.trans' hc3, hJ2.out.2.2.trans' hc3⟩)
                  clear hb3 hc3 hs3 e1 e2
                  go_wp2_with fail
                  go_roundw
                  case rel => exact ⟨m + 1, by omega, by go_num, hN⟩
                  case measure => simp [intOf]; omega
                · have hsame : Hid (undoPg ps (u.1.take (m + 1)) = psm) := hid (by rw [hnx.out, hset.out, if_neg (by rw [← her.out]; exact h0), hself.out])
                  go_wp2_with fail
                  go_roundw
                  case rel => exact ⟨m + 1, by omega, by go_num, hid (by rw [hsame.out]; exact hJ2.out)⟩
                  case measure => simp [intOf]; omega
          · obtain rfl : m = u.1.length := by omega
            rw [List.take_length] at hJ
            go_wp2_with fail
            go_roundw
            case rel => exact ⟨k + 1, undoPg ps u.1, by omega, by go_num, hst, hid ⟨hJ.out.1, hJ.out.2.1⟩⟩
            case measure => simp [intOf]; omega
      · have hr : res = ([], er) := by rw [hres.out, hE.out, hcons.out, if_neg (by rw [← her.out]; exact h0), ← her.out]
        subst hr
        clear hcons hE hres
        go_wp2_with fail
        go_ret2
        exact ⟨_, rfl, World.ownsRow_nil _ _ _ _, hid hI2.out.1.chg⟩
    · obtain rfl : k = R.length := by omega
      rw [List.drop_length] at hE
      have hr : res = (ps, 0) := by rw [hres.out, hE.out]; rfl
      subst hr
      clear hE hres
      have hgl2 := lt_of_block hI.out.1.blk
      have hw9 := hI.out.1.chg.size
      obtain ⟨w9, hw9'⟩ := named wr
      rw [← hw9'.out] at hI hgl2 hw9
      rw [← hw9'.out]
      clear hw9'
      have hpl : ps.length = n := hI.out.1.len
      have HPL := hid hpl
      clear hpl
      go_wp2_with fail
      go_loopw [13, 14] (fun o i wr => ∃ k : Nat, k ≤ n ∧ i = .int .i64 k ∧ Hid (Chg NoB w9 wr) ∧ Hid (wr.ownsRow w9.heap.size 9 1 o k ((ps.take k).map (fun p => Value.string p.data)))) (fun _ i _ => n - (intOf i).toNat)
      case atStart => exact ⟨0, by omega, rfl, Chg.refl _ _, World.ownsRow_nil _ _ _ _⟩
      case round =>
        obtain ⟨k, hk, rfl, hc, hO⟩ := hrel
        obtain ⟨ao, co, rfl⟩ := ownsForm hO.out
        by_cases hlt : k < n
        · have hkl : k < ps.length := by rw [HPL.out]; exact hlt
          obtain ⟨q, hq⟩ := named ps[k]
          obtain ⟨d1, d2⟩ := pg_cells (pre := []) (post := post) (w := wr) (by simpa using hc.out.heap hI.out.1.blk nob) k hkl
          simp only [List.length_nil, Nat.zero_add] at d1 d2
          rw [← hq.out] at d2
          have hT : Hid ((ps.take (k + 1)).map (fun p => Value.string p.data) = (ps.take k).map (fun p => Value.string p.data) ++ [.string q.data]) := hid (by rw [take_snoc' hkl, hq.out, List.map_append]; rfl)
          have hk0 : (0 : Int) ≤ (k : Int) := by omega
          have hk1 : (k : Int) < (n : Int) := by omega
          clear d1
          go_wp2_with (at_builtin; refine step_app1 slStr rfl _ _ rfl (World.ownsRow.alloc hO.out _) rfl wr.heap.size [.string q.data] rfl (blk_new _ _) rfl rfl (by simp [Value.oneCell']) (by omega) (by unfold maxLen; omega) (by have := hc.out.size; simp; omega) ?_; intro v5 w5 hv5 hc5 hvo hnil)
          obtain ⟨a5, n5, rfl⟩ := ownsForm hv5
          have HV := hid hv5
          have HC := hid ((hc.out.alloc (.cells #[.string q.data] 9)).trans hc5 (fun i hi => .inr (OwnB.ge hO.out i hi).1))
          clear hv5 hc5 hvo hnil d2
          go_wp2_with fail
          go_roundw
          case rel => exact ⟨k + 1, by omega, by go_num, HC, hid (by rw [hT.out]; exact HV.out)⟩
          case measure => simp [intOf]; omega
        · obtain rfl : k = n := by omega
          rw [List.take_of_length_le (by rw [HPL.out]; exact Nat.le_refl _)] at hO
          go_wp2_with fail
          go_ret2
          exact ⟨_, rfl, hid (ownsBase (by rw [show ((ps, (0 : Int)) : List Pg × Int).1.length = k from HPL.out]; exact hO.out) hw9), hid (hI.out.1.chg.trans' hc.out)⟩
end Go.Proofs.Ytekjchphlphecaa
