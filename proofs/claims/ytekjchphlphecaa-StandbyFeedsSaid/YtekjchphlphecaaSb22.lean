import Derived.Test.YtekjchphlphecaaSb20
import Derived.Test.YtekjchphlphecaaSb21
namespace Go.Proofs.Ytekjchphlphecaa
open Go.RowKit Go.ChangeMaps Go.MapKept
attribute [local go_sem] Go.Oper.rdK
set_option linter.unusedVariables false
set_option linter.unusedSimpArgs false
set_option linter.unnecessarySimpa false
set_option maxHeartbeats 8000000

/-- While it is promoted. -/
structure PmI (w0 w wr : World) (p g rl : Nat) (lv : Value) (s : SS) (tb gp : Nat) (post : List Value) (n : Nat) (ps : List Pg) : Prop where
  pr : PrI w wr gp post n ps
  st : StAt w0 wr p g rl lv s
  bx : wr.cell? ⟨tb, 0, none⟩ = some (.pointer (some ⟨p, 0, none⟩))
theorem PmI.keep {w0 w wr w' : World} {p g rl : Nat} {lv : Value} {s : SS} {tb gp n : Nat} {post : List Value} {ps : List Pg} (h : PmI w0 w wr p g rl lv s tb gp post n ps) (hc : Chg NoB wr w') : PmI w0 w w' p g rl lv s tb gp post n ps :=
  ⟨h.pr.keep (S := NoB) hc, h.st.keep0 hc, hc.cell h.bx nob⟩

set_option maxRecDepth 100000 in
theorem promote_calls (w0 : World) (p g rl : Nat) (lv : Value) (s : SS) (w : World) (h : StAt w0 w p g rl lv s) (h1 : 1 ≤ s.pg.length) (hf : ∀ q ∈ s.pg, fits q.at_) (hok : ∀ x ∈ s.L, x.r.okk) (hl : s.L.length ≤ 1000000) (hk : ∀ x ∈ s.last, (Lit.int .i64 x.1).wf = true)
    (ys : List Int) (hp : ys.Perm (s.last.map (·.1))) (hy : ys.Pairwise (fun a b => (mget s.last b).getD 0 < (mget s.last a).getD 0)) (res : List Pg × Int) (hres : Hid (res = promOf s.L (ys.map (fun t => (t, (mget s.last t).getD 0))) s.pg)) :
    Calls Try.prog 18 #[.pointer (some ⟨p, 0, none⟩)] w fun e w' => ∃ vo, e = .returned (.tuple #[vo, .int .i64 res.2]) ∧ Hid (w'.ownsRow w.heap.size 9 1 vo res.1.length (res.1.map (fun p => Value.string p.data))) ∧ Hid (Chg NoB w w') := by
  have h8 := h.l8
  have hlast := h.le
  have HA : Hid (Chg NoB w (w.alloc (.cells #[.pointer (some ⟨p, 0, none⟩)] 24))) := hid ((Chg.refl _ _).alloc _)
  have hS := hid (h.keep0 HA.out)
  have p0 := hS.out.cells.1
  have hbx : (w.alloc (.cells #[.pointer (some ⟨p, 0, none⟩)] 24)).cell? ⟨w.heap.size, 0, none⟩ = some (.pointer (some ⟨p, 0, none⟩)) := by rw [cell_blk (blk_new _ _)]; rfl
  have HBX := hid hbx
  have hplt := lt_of_block h.blk
  have hPs : Hid (∀ q ∈ s.pg, q.data.size ≤ 220 ∧ fits q.at_) := hid (fun q hq => ⟨h.sz q hq, hf q hq⟩)
  have hu := hid (undoOf_ok (l := s.L) hok)
  have hfp := hid h.fpl
  have hge0 : w0.heap.size ≤ w.heap.size := by have := h.ge.1; omega
  obtain ⟨n, hn⟩ := named s.pg.length
  rw [← hn.out] at h1 h8 p0
  have hG := hid hS.out.pgs
  obtain ⟨ks, hks⟩ := named (sortI (s.last.map (·.1)))
  have HK := hid hk
  have hpk : Hid (ys.Perm ks) := hid (hp.trans (by rw [hks.out]; exact (List.mergeSort_perm _ _).symm))
  have hkl : ks.length ≤ 1000000 := by rw [hks.out, sortI_len, List.length_map]; omega
  have hyl : ys.length ≤ 1000000 := by have := hpk.out.length_eq; omega
  have hY := hid hy
  obtain ⟨tb, htb⟩ := named w.heap.size
  rw [← htb.out] at hbx HBX
  clear h hf hk hp hy
  go_enter Try.func18, Try.ntmps18
  go_upto_region 4 with (go_at_call 33; refine (clone_calls g n s.pg _ hG.out hn.out.symm h1 h8).mono ?_; rintro e w2 ⟨gp, cp, post, rfl, hgp, hcp, hc2⟩)
  rw [← htb.out]
  have hI : Hid (PmI w0 w w2 p g rl lv s tb gp post n s.pg) := hid ⟨⟨hgp.out, hn.out.symm, hPs.out, HA.out.trans' hc2.out.1, by have := hc2.out.2; simp at this; omega⟩, hS.out.keep0 hc2.out.1, hc2.out.1.cell HBX.out nob⟩
  have hgt : tb < gp := by have := hc2.out.2; have := htb.out; simp at *; omega
  clear hbx hG hgp hS HA HBX p0 hPs hc2
  have hbx := hI.out.bx
  go_upto_region 5 with (go_at_call 16; refine (open_calls w0 p g rl lv s _ hI.out.st HK.out (by omega) ks hks).mono ?_; rintro e w3 ⟨vo, rfl, hO, hc3⟩)
  have hI3 := hid (hI.out.keep hc3.out)
  have hgl := lt_of_block hI.out.pr.blk
  have hz2 := hI.out.pr.chg.size
  have hno : ∀ k, OwnB vo k → ¬ stFp p g rl lv k ∧ k ≠ tb ∧ w0.heap.size ≤ k ∧ k ≠ gp := fun k hk => by
    have h3 := (OwnB.ge hO.out k hk).1
    have h5 := htb.out; exact ⟨fun h4 => by have := hfp.out k h4; omega, by omega, by omega, by omega⟩
  have HNO := hid hno
  clear hbx hI hc3 hno
  go_upto_region 6 with (go_at_call 34; refine (sort_calls w0 p g rl lv s tb (w2.heap.size + 1) vo ks ys _ hI3.out.st hI3.out.bx hO.out (fun k hk => ⟨(HNO.out k hk).1, (HNO.out k hk).2.1, (HNO.out k hk).2.2.1⟩) hkl hpk.out hY.out).mono ?_; rintro e w4 ⟨rfl, hO4, hc4⟩)
  have hI4 : Hid (PmI w0 w w4 p g rl lv s tb gp post n s.pg) := hid ⟨⟨hc4.out.heap hI3.out.pr.blk (fun e => (HNO.out _ e).2.2.2 rfl), hI3.out.pr.len, hI3.out.pr.sz, hI3.out.pr.chg.trans hc4.out (fun i hi => .inr (by have := (OwnB.ge hO.out i hi).1; omega)), hI3.out.pr.ge⟩, hI3.out.st.keep hc4.out (fun k hk => ⟨(HNO.out k hk).1, .inl (HNO.out k hk).2.2.1⟩), hc4.out.cell hI3.out.bx (fun e => (HNO.out _ e).2.1 rfl)⟩
  obtain ⟨av, cv, rfl⟩ := ownsForm hO4.out
  obtain ⟨_, _, ee, hr1, hr2, hrd⟩ := Rd.ints_of hO4.out
  cases ee
  have HRD := hid hrd
  have HNG : Hid (∀ k, OwnB (.slice av ys.length cv) k → k ≠ gp) := hid (fun k hk => (HNO.out k hk).2.2.2)
  obtain ⟨R, hR⟩ := named (ys.map (fun t => (t, (mget s.last t).getD 0)))
  have hRl : R.length = ys.length := by rw [hR.out]; simp
  rw [← hR.out] at hres
  have HRL := hid hRl
  unfold maxLen at hr2
  clear hrd hI3 hO hO4 hc4 HNO hRl
  go_wp2_with fail
  go_loopw [26] (fun i wr => ∃ (k : Nat) (psk : List Pg), k ≤ ys.length ∧ i = .int .i64 k ∧ Hid (promOf s.L R s.pg = promOf s.L (R.drop k) psk) ∧ Hid (PmI w0 w wr p g rl lv s tb gp post n psk ∧ Chg (OneB gp) w4 wr)) (fun i _ => ys.length - (intOf i).toNat)
  case atStart => exact ⟨0, s.pg, by omega, rfl, rfl, hI4.out, Chg.refl _ _⟩
  case round =>
    obtain ⟨k, ps, hk, rfl, hE, hI⟩ := hrel
    clear hI4
    by_cases hlt : k < ys.length
    · obtain ⟨rb, ro, rfl, hrc⟩ := Rd.int_at HRD.out k hlt
      have hrbg : rb ≠ gp := HNG.out rb (by simp [OwnB, Value.ownBlock])
      obtain ⟨t1, ht1⟩ := named ys[k]
      obtain ⟨a1, ha1⟩ := named ((mget s.last t1).getD 0)
      have r0 : wr.cell? ⟨rb, ro + k, none⟩ = some (.int .i64 t1) := by rw [ht1.out]; exact hI.out.2.cell hrc hrbg
      obtain ⟨u, hu1⟩ := named (undoOf s.L t1 a1 0)
      have hkR : k < R.length := by rw [HRL.out]; exact hlt
      have hcons : Hid (promOf s.L (R.drop k) ps = if u.2 = 0 then promOf s.L (R.drop (k + 1)) (undoPg ps u.1) else ([], u.2)) := hid (by
        have hRk : R[k] = (t1, a1) := by simp only [hR.out, List.getElem_map, ← ht1.out, ← ha1.out]
        rw [List.drop_eq_getElem_cons hkR, hu1.out, hRk]; rfl)
      have huok : Hid (∀ r ∈ u.1, r.after.size ≤ 2 ^ 62 ∧ fits r.off) := hid (by rw [hu1.out]; exact hu.out _ _ _)
      have hbx := hI.out.1.bx
      obtain ⟨p0, p1, p2⟩ := hI.out.1.st.cells
      have HM := hid hI.out.1.st.mp
      have HLk : Hid (∀ w', Chg NoB wr w' → (Instr.lookup 66 (.map (some rl)) (.int .i64 t1) false).run Try.prog w' = .ok (.int .i64 a1) w') := hid (fun w' hc => by
        rw [ha1.out, (HM.out.chg hc nob).lookup Try.underlying66 Try.underlying3 (zero_int _) t1 false]
        cases mget s.last t1 <;> rfl)
      have hk0 : (0 : Int) ≤ (k : Int) := by omega
      have hk1 : (k : Int) < (ys.length : Int) := by omega
      clear hrc ht1 p0 HM
      go_upto_region 9 with fail
      clear r0
      refine wp_region_ord 17 (.rd 0 (.rd 1 (.rd 2 (.rd 3 (.rd 4 (.rd 5 (.rd 6 (.rd 7 (.rd 8 (.rd 9 (.rd 10 (.one 11 (.rd 12 (.rd 13 (.rd 14 (.rd 15 (.rd 16 (.done)))))))))))))))))) (fun w' => Same wr w' ∧ (Instr.lookup 66 (.map (some rl)) (.int .i64 t1) false).run Try.prog w' = .ok (.int .i64 a1) w') (by kernel_rfl) (by kernel_rfl) (by kernel_rfl) (by kernel_rfl) (by kernel_rfl) (fun _ _ d _ _ h => by cases d <;> exact h) (⟨Same.of (Chg.refl _ _).drew, HLk.out _ (Chg.refl NoB wr).drew⟩) (fun hS0 => ?_)
      refine wpOrd_rd rfl rfl (by first | decide | simp) (by assumption) (fun w' hw' K hK => by ((try unfold Same at hw'); (try go_split_ands); go_simp; exact hK)) ?_
      refine wpOrd_rd rfl rfl (by first | decide | simp) (by assumption) (fun w' hw' K hK => by ((try unfold Same at hw'); (try go_split_ands); go_simp; exact hK)) ?_
      refine wpOrd_rd rfl rfl (by first | decide | simp) (by assumption) (fun w' hw' K hK => by ((try unfold Same at hw'); (try go_split_ands); go_simp; exact hK)) ?_
      refine wpOrd_rd rfl rfl (by first | decide | simp) (by assumption) (fun w' hw' K hK => by ((try unfold Same at hw'); (try go_split_ands); go_simp; exact hK)) ?_
      refine wpOrd_rd rfl rfl (by first | decide | simp) (by assumption) (fun w' hw' K hK => by ((try unfold Same at hw'); (try go_split_ands); go_simp; exact hK)) ?_
      refine wpOrd_rd rfl rfl (by first | decide | simp) (by assumption) (fun w' hw' K hK => by ((try unfold Same at hw'); (try go_split_ands); go_simp; exact hK)) ?_
      refine wpOrd_rd rfl rfl (by first | decide | simp) (by assumption) (fun w' hw' K hK => by ((try unfold Same at hw'); (try go_split_ands); go_simp; exact hK)) ?_
      refine wpOrd_rd rfl rfl (by first | decide | simp) (by assumption) (fun w' hw' K hK => by ((try unfold Same at hw'); (try go_split_ands); go_simp; exact hK)) ?_
      refine wpOrd_rd rfl rfl (by first | decide | simp) (by assumption) (fun w' hw' K hK => by ((try unfold Same at hw'); (try go_split_ands); go_simp; exact hK)) ?_
      refine wpOrd_rd rfl rfl (by first | decide | simp) (by assumption) (fun w' hw' K hK => by ((try unfold Same at hw'); (try go_split_ands); go_simp; exact hK)) ?_
      refine wpOrd_rd rfl rfl (by first | decide | simp) (by assumption) (fun w' hw' K hK => by ((try unfold Same at hw'); (try go_split_ands); go_simp; exact hK)) ?_
      refine wpOrd_do rfl ?_
      (first | refine wpList_plain rfl (fun K hK => ?_) | refine wpList_step (fun K hK => ?_))
      go_simp
      ((with_reducible refine (pUndo_calls lv s.L t1 a1 0 _ ((hI.out.1.st.keep0 (Chg.refl NoB wr).drew).lst.ents) hl u hu1).mono ?_); rintro e w2 ⟨vu, rfl, hou, hc2⟩)
      refine hK _ _ ?_
      clear hK K
      obtain ⟨au, cu, rfl⟩ := ownsForm hou.out
      (try dsimp only [Act.put])
      refine wpOrd_done (⟨Same.of ((Chg.refl NoB wr).drew.trans' hc2.out), HLk.out _ ((Chg.refl NoB wr).drew.trans' hc2.out)⟩) (fun hS1 => ?_)
      refine wpOrd_rd rfl rfl (by first | decide | simp) (by assumption) (fun w' hw' K hK => by ((try unfold Same at hw'); (try go_split_ands); go_simp; exact hK)) ?_
      refine wpOrd_rd rfl rfl (by first | decide | simp) (by assumption) (fun w' hw' K hK => by ((try unfold Same at hw'); (try go_split_ands); go_simp; exact hK)) ?_
      refine wpOrd_rd rfl rfl (by first | decide | simp) (by assumption) (fun w' hw' K hK => by ((try unfold Same at hw'); (try go_split_ands); go_simp; exact hK)) ?_
      refine wpOrd_rd rfl rfl (by first | decide | simp) (by assumption) (fun w' hw' K hK => by ((try unfold Same at hw'); (try go_split_ands); go_simp; exact hK)) ?_
      refine wpOrd_rd rfl rfl (by first | decide | simp) (by assumption) (fun w' hw' K hK => by ((try unfold Same at hw'); (try go_split_ands); go_simp; exact hK)) ?_
      refine wpOrd_nil ?_
      have hc9 := hid ((Chg.refl NoB wr).drew.trans' hc2.out)
      have hI2 := hid (show PmI w0 w w2 p g rl lv s tb gp post n ps ∧ Chg (OneB gp) w4 w2 from ⟨hI.out.1.keep hc9.out, hI.out.2.trans hc9.out (fun _ e => e.elim)⟩)
      obtain ⟨_, _, ee, hu2, hu3, hud⟩ := Rd.of_own (l := u.1) (enc := Rec.csn) (size := 11) (fun _ => rfl) hou.out
      cases ee
      have HUD := hid hud
      have hgwr := lt_of_block hI.out.1.pr.blk
      have HOu : Hid (∀ j, OwnB (.slice au u.1.length cu) j → j ≠ gp) := hid (fun j hj => by have h4 := (OwnB.ge hou.out j hj).1; simp at h4; omega)
      unfold maxLen at hu3
      clear hS0 hS1 hc2 hou hud p1 p2 hI HLk hbx
      obtain ⟨er, her⟩ := named u.2
      rw [← her.out]
      by_cases h0 : er = 0
      · subst h0
        have hst : Hid (promOf s.L R s.pg = promOf s.L (R.drop (k + 1)) (undoPg ps u.1)) := hid (by rw [hE.out, hcons.out, ← her.out]; rfl)
        clear hcons hE her hc9
        go_wp2_with fail
        obtain ⟨wB, hwB⟩ := named w2
        rw [← hwB.out] at hI2 HUD ⊢
        clear hwB
        go_loopw [50] (fun i wr => ∃ m : Nat, m ≤ u.1.length ∧ i = .int .i64 m ∧ Hid (PmI w0 w wr p g rl lv s tb gp post n (undoPg ps (u.1.take m)) ∧ Chg (OneB gp) w4 wr ∧ Chg (OneB gp) wB wr)) (fun i _ => u.1.length - (intOf i).toNat)
        case atStart => exact ⟨0, by omega, rfl, hI2.out.1, hI2.out.2, Chg.refl _ _⟩
        case round =>
          obtain ⟨m, hm, rfl, hJ⟩ := hrel
          clear hI2
          by_cases hml : m < u.1.length
          · obtain ⟨ub, uo, rfl, huc⟩ := HUD.out m _ (List.getElem?_eq_getElem hml)
            have hubg : ub ≠ gp := HOu.out ub (by simp [OwnB, Value.ownBlock])
            obtain ⟨r, hr⟩ := named u.1[m]
            rw [← hr.out] at huc
            have z0 : wr.cell? ⟨ub, uo + m * 11, none⟩ = some (.int .i64 r.kind) := hJ.out.2.2.cell (huc 0 _ rfl) hubg
            have z1 := hJ.out.2.2.cell (huc 1 _ rfl) hubg
            have z2 := hJ.out.2.2.cell (huc 2 _ rfl) hubg
            have z3 := hJ.out.2.2.cell (huc 3 _ rfl) hubg
            have z4 := hJ.out.2.2.cell (huc 4 _ rfl) hubg
            have z5 := hJ.out.2.2.cell (huc 5 _ rfl) hubg
            have z6 := hJ.out.2.2.cell (huc 6 _ rfl) hubg
            have z7 := hJ.out.2.2.cell (huc 7 _ rfl) hubg
            have z8 := hJ.out.2.2.cell (huc 8 _ rfl) hubg
            have z9 := hJ.out.2.2.cell (huc 9 _ rfl) hubg
            have z10 := hJ.out.2.2.cell (huc 10 _ rfl) hubg
            obtain ⟨psm, hpsm⟩ := named (undoPg ps (u.1.take m))
            rw [← hpsm.out] at hJ
            obtain ⟨psn, hpsn⟩ := named (pSet psm r.page (fun p => p.undo r))
            have hnx : Hid (undoPg ps (u.1.take (m + 1)) = psn) := hid (by rw [undoPg_snoc hml, ← hpsm.out, ← hr.out, hpsn.out])
            obtain ⟨hrs, hro⟩ := huok.out r (by rw [hr.out]; exact List.getElem_mem _)
            have hm0 : (0 : Int) ≤ (m : Int) := by omega
            have hm1 : (m : Int) < (u.1.length : Int) := by omega
            have HPS : Hid (∀ q ∈ psm, q.data.size ≤ 220) := hid (fun q hq => (hJ.out.1.pr.sz q hq).1)
            have HPF : Hid (∀ q ∈ psm, fits q.at_) := hid (fun q hq => (hJ.out.1.pr.sz q hq).2)
            clear huc hpsm
            go_wp2_with (go_at_call 38; refine (set_prom gp n cp psm post _ r.page r wr.heap.size (.slice none 0 0) (.slice none 0 0) _ _ ((Chg.refl NoB wr).alloc _ |>.heap hJ.out.1.pr.blk nob) hJ.out.1.pr.len hcp h8 HPS.out (blk_new _ _) hrs hro HPF.out psn hpsn).mono ?_; rintro e w5 ⟨rfl, hb5, hc5⟩)
            have hc6 : Chg (OneB gp) wr w5 := (((Chg.refl NoB wr).alloc _).mono fun _ e => e.elim).trans' hc5
            have hN := hid (show PmI w0 w w5 p g rl lv s tb gp post n (undoPg ps (u.1.take (m + 1))) ∧ Chg (OneB gp) w4 w5 ∧ Chg (OneB gp) wB w5 from by
              rw [hnx.out]
              have hgw := hJ.out.1.pr.ge
              have htbw : w.heap.size = tb := htb.out.symm
              refine ⟨⟨hJ.out.1.pr.set hpsn.out hb5 hc6, hJ.out.1.st.keep hc6 (fun k hk => by
                  have h' : k = gp := hk
                  rw [h']
                  exact ⟨fun h4 => by have := hfp.out gp h4; omega, .inl (by omega)⟩), hc6.cell hJ.out.1.bx (fun e => by have h' : tb = gp := e; omega)⟩, hJ.out.2.1.trans' hc6, hJ.out.2.2.trans' hc6⟩)
            clear hb5 hc5 hc6 hJ z0 z1 z2 z3 z4 z5 z6 z7 z8 z9 z10
            go_wp2_with fail
            go_roundw
            case rel => exact ⟨m + 1, by omega, by go_num, hN⟩
            case measure => simp [intOf]; omega
          · obtain rfl : m = u.1.length := by omega
            rw [List.take_length] at hJ
            go_wp2_with fail
            go_roundw
            case rel => exact ⟨k + 1, undoPg ps u.1, by omega, by go_num, hst, hid ⟨hJ.out.1, hJ.out.2.1⟩⟩
            case measure => simp [intOf]; omega
      · have hr : res = ([], er) := by rw [hres.out, hE.out, hcons.out, if_neg (by rw [← her.out]; exact h0), ← her.out]
        subst hr
        clear hcons hE hres
        go_wp2_with fail
        go_ret2
        exact ⟨_, rfl, World.ownsRow_nil _ _ _ _, hid hI2.out.1.pr.chg⟩
    · obtain rfl : k = ys.length := by omega
      rw [← HRL.out, List.drop_length] at hE
      have hr : res = (ps, 0) := by rw [hres.out, hE.out]; rfl
      subst hr
      clear hE hres
      go_wp2_with (go_at_call 41; refine (data_calls gp n cp ps post _ _ hI.out.1.pr.blk hI.out.1.pr.len hcp h8).mono ?_; rintro e w5 ⟨vd, rfl, hod, hc5⟩)
      go_ret2
      exact ⟨vd, rfl, hid (ownsBase (by rw [show ((ps, (0 : Int)) : List Pg × Int).1.length = n from hI.out.1.pr.len]; exact hod.out) hI.out.1.pr.chg.size), hid (hI.out.1.pr.chg.trans' hc5.out)⟩
end Go.Proofs.Ytekjchphlphecaa
