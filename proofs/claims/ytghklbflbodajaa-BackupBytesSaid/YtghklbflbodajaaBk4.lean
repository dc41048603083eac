import Derived.Test.YtghklbflbodajaaBk3
import Derived.Test.YtghklbflbodajaaUnd
import Derived.Test.YtghklbflbodajaaB2
namespace Go.Proofs.Ytghklbflbodajaa
open Go.RowKit Go.ChangeMaps Go.MapKept
attribute [local go_sem] Go.Oper.rdK
set_option linter.unusedVariables false
set_option linter.unusedSimpArgs false
set_option linter.unnecessarySimpa false
set_option maxHeartbeats 8000000

theorem put_fit' (p : Pg) (off : Int) (s : ByteArray) (a : Int) (h : fits a) : fits (p.put off s a).1.at_ := by
  unfold Pg.put
  split
  · simp [Pg.none, fits]
  · split
    · simp [Pg.none, fits]
    · split
      · simp [Pg.none, fits]
      · exact h
theorem apply_fit' (p : Pg) (a : Int) (r : Rec) (h : fits p.at_) (ha : fits a) : fits (p.apply a r).at_ := by
  unfold Pg.apply
  dsimp only
  split
  · split
    · exact put_fit' _ _ _ _ ha
    · exact h
  · exact h
theorem rdPages_ok (l : List Ent) (f : Int) (hl : ∀ x ∈ l, fits x.at_) : ∀ {PL : List Pg}, (∀ q ∈ PL, q.data.size ≤ 220 ∧ fits q.at_) → ∀ q ∈ rdPages l f PL, q.data.size ≤ 220 ∧ fits q.at_ := by
  induction l with
  | nil => intro PL h; exact h
  | cons x l ih =>
    intro PL h
    refine ih (fun y hy => hl y (List.mem_cons_of_mem _ hy)) ?_
    unfold rdStep; split
    · exact pSet_mem h _ fun p hp => ⟨apply_size p _ _ hp.1, apply_fit' p _ _ hp.2 (hl x (List.mem_cons_self ..))⟩
    · exact h
theorem ents_fit {w : World} {v : Value} {l : List Ent} (hv : Ents w v l) : ∀ x ∈ l, fits x.at_ := by
  intro x hx
  obtain ⟨i, hi, rfl⟩ := List.getElem_of_mem hx
  obtain ⟨a, c, rfl, _, _, h3⟩ := hv
  obtain ⟨y, b, off, v1, v2, hy, _, _, hok, _⟩ := Ents.at h3 (Chg.refl NoB w) i hi
  rw [hy.out]
  exact hok.out.2
/-- What Undo answers: the pages, and the error. -/
def bkUndo (L : List Tk) (l : List Ent) : List Pg × Int :=
  if (bkRoll L l).2 = 0 then (if (tabsOf l 0).2.2 = 0 then promOf l ((sortD (tabsOf l 0).1).map fun x => (x.1, x.2.2)) (bkRoll L l).1 else ([], (tabsOf l 0).2.2)) else ([], (bkRoll L l).2)
theorem put_lit (p : Pg) (off at_ : Int) (s : ByteArray) (w : World) (res : Pg × Int) (hres : Hid (res = p.put off s at_)) (hf : p.data.size ≤ 2 ^ 62) (hs : s.size ≤ 2 ^ 62) (ho : fits off) (hn : fits at_) :
    Calls Try.prog 46 #[.agg #[.int .i64 p.at_, .string p.data], .int .i64 off, .string s, .int .i64 at_] w fun e w' => e = .returned (.tuple #[.agg #[.int .i64 res.1.at_, .string res.1.data], .int .i64 res.2]) ∧ Chg NoB w w' :=
  put_calls p off at_ s w res hres hf hs ho hn
set_option maxRecDepth 100000 in
theorem bk_undo_nil (v : Value) (w : World) : Calls Try.prog 18 #[.pointer none, v] w fun e w' => e = .returned (.tuple #[.slice none 0 0, .int .i64 10]) ∧ Chg NoB w w' := by
  go_enter Try.func18, Try.ntmps18
  go_wp2_with (go_at_call 17; refine (roll_nil _ _).mono ?_; rintro e w1 ⟨rfl, hc1⟩)
  go_ret2
  exact ⟨rfl, hc1⟩

set_option maxRecDepth 100000 in
theorem undoB_calls (p g : Nat) (L : List Tk) (v : Value) (l : List Ent) (w : World) (h : BkAt w p g L) (hv : Ents w v l) (hl : l.length ≤ 1000000) (hW : entsW l ≤ 1000000) (hok : ∀ x ∈ l, x.r.okk) (h20 : (tabsOf l 0).1.length < 20) (res : List Pg × Int) (hres : Hid (res = bkUndo L l)) :
    Calls Try.prog 18 #[.pointer (some ⟨p, 0, none⟩), v] w fun e w' => ∃ vo, e = .returned (.tuple #[vo, .int .i64 res.2]) ∧ Hid (w'.ownsRow w.heap.size 9 1 vo res.1.length (res.1.map (fun p => Value.string p.data))) ∧ Hid (Chg NoB w w') := by
  have HB := hid h
  have HV := hid hv
  have hfit := hid (ents_fit hv)
  have hvf : ∃ a c, v = .slice a l.length c := by obtain ⟨a, c, e, _⟩ := hv; exact ⟨a, c, e⟩
  obtain ⟨a, c, rfl⟩ := hvf
  obtain ⟨⟨rp, re⟩, hroll⟩ := named (bkRoll L l)
  obtain ⟨⟨T, G, te⟩, htab⟩ := named (tabsOf l 0)
  have hr := hres.out
  unfold bkUndo at hr
  rw [← hroll.out, ← htab.out] at hr
  rw [← htab.out] at h20
  dsimp only at hr h20
  clear h hv
  by_cases h0 : re = 0
  · subst h0
    rw [if_pos rfl] at hr
    by_cases h1 : te = 0
    · subst h1
      rw [if_pos rfl] at hr
      have hw : bkWhole L = true ∧ rp = rdPages l (bkFrom L) (bkPgs L) := by
        have := hroll.out
        unfold bkRoll at this
        split at this
        · rename_i h
          refine ⟨h, ?_⟩
          split at this
          · exact (Prod.mk.inj this).1
          · have := (Prod.mk.inj this).2; omega
        · have := (Prod.mk.inj this).2; omega
      have hps : Hid (∀ q ∈ rp, q.data.size ≤ 220 ∧ fits q.at_) := hid (by
        rw [hw.2]
        refine rdPages_ok l _ hfit.out fun q hq => ?_
        obtain ⟨x, hx, rfl⟩ := List.mem_map.1 hq
        have h3 := HB.out.ok x hx
        have h4 : x.has = true := by
          have := hw.1
          unfold bkWhole at this
          rw [List.all_eq_true] at this
          exact this x hx
        have h5 := (h3.1 h4).1
        simp only [Pg.right, Bool.and_eq_true, decide_eq_true_eq] at h5
        exact ⟨h3.2.2, by unfold fits; omega⟩)
      obtain ⟨n, hn⟩ := named rp.length
      have hnl : n = L.length := by rw [hn.out, hw.2, rdPages_len]; simp [bkPgs]
      have h8 : 1 ≤ n ∧ n ≤ 8 := by rw [hnl]; exact HB.out.len
      clear hw hnl
      obtain ⟨R, hR⟩ := named (sortD T)
      have hRl : Hid (R.length = T.length) := hid (by rw [hR.out, sortD_len])
      rw [← hR.out] at hr
      have hu := hid (undoOf_ok (l := l) hok)
      go_enter Try.func18, Try.ntmps18
      go_upto_region 8 with (first
        | (go_at_call 17; refine (roll_calls p g L _ l _ HB.out HV.out hl hok (rp, 0) hroll).mono ?_; rintro e w1 ⟨vr, rfl, hpb, hc1⟩)
        | (go_at_call 42; refine (tables_calls _ l 0 _ (HV.out.mono hc1.out) hW T G 0 htab).mono ?_; rintro e w2 ⟨v1, v2, rfl, hO1, hO2, hc2⟩)
        | (go_at_call 43; refine (sortS_own hO1 h20).mono ?_; rintro e w3 ⟨rfl, hO3, hc3⟩))
      have hc12 := hc1.out.trans' hc2
      obtain ⟨ar, cr, rfl⟩ := ownsForm hO3.out
      have hOT : ∀ j, OwnB (.slice ar T.length cr) j → w1.heap.size ≤ j := fun j hj => (OwnB.ge hO3.out j hj).1
      obtain ⟨g9, hg9⟩ : ∃ g9, vr = .slice (some ⟨g9, 0, none⟩) n n ∧ w1.heap[g9]? = some (.cells (pgsC rp).toArray 40 (0, 0)) ∧ w.heap.size ≤ g9 := by
        rcases hpb.out with ⟨h3, _⟩ | ⟨g9, hge, h3, h4⟩
        · have h5 := hn.out
          rw [h3] at h5
          simp at h5
          omega
        · exact ⟨g9, by rw [h3, hn.out], h4, hge⟩
      obtain ⟨rfl, hgb, hgw⟩ := hg9
      have hg1 : g9 < w1.heap.size := lt_of_block hgb
      have hc3n : Chg NoB w1 w3 := hc2.new hc3.out (fun i hi => hOT i hi)
      have HI : Hid (PrI w w3 g9 [] n rp) := hid ⟨by simpa using hc3n.heap hgb nob, hn.out.symm, hps.out, hc1.out.trans' hc3n, hgw⟩
      have hO3' := hO3.out
      rw [← hR.out] at hO3'
      obtain ⟨tl, htl⟩ := named T.length
      have HRL : Hid (R.length = tl) := hid (by rw [hRl.out, htl.out])
      rw [← htl.out] at hO3' hOT ⊢
      obtain ⟨_, _, ee, hr1, hr2, hrd⟩ := Rd.of_own (v := .slice ar tl cr) (l := R) (enc := encTx) (size := 3) (fun _ => rfl) (by rw [HRL.out]; exact hO3')
      rw [HRL.out] at ee
      cases ee
      have HRD := hid hrd
      have HOr := hid hOT
      unfold maxLen at hr2
      obtain ⟨wA, hwA⟩ := named w3
      rw [← hwA.out] at HI HRD ⊢
      clear hrd hO1 hO2 hO3 hO3' hc1 hc2 hc3 hc12 hc3n hgb hOT hpb hwA
      obtain ⟨RR, hRR⟩ := named (R.map fun x => (x.1, x.2.2))
      rw [← hRR.out] at hr
      have hRRl : Hid (RR.length = tl) := hid (by rw [hRR.out, List.length_map, HRL.out])
      go_upto_region 9 with fail
      go_loopw [43] (fun i wr => ∃ (k : Nat) (ps : List Pg), k ≤ tl ∧ i = .int .i64 k ∧ Hid (promOf l RR rp = promOf l (RR.drop k) ps) ∧ Hid (PrI w wr g9 [] n ps ∧ Chg (OneB g9) wA wr)) (fun i _ => tl - (intOf i).toNat)
      case atStart => exact ⟨0, rp, by omega, rfl, rfl, HI.out, Chg.refl _ _⟩
      case round =>
        obtain ⟨k, ps, hk, rfl, hE, hI⟩ := hrel
        clear HI
        by_cases hlt : k < tl
        · have hkR : k < R.length := by rw [HRL.out]; exact hlt
          obtain ⟨rb, ro, rfl, hrc⟩ := HRD.out k _ (List.getElem?_eq_getElem hkR)
          have hrbg : rb ≠ g9 := fun e => by have := HOr.out rb (by simp [OwnB, Value.ownBlock]); omega
          obtain ⟨x, hx⟩ := named R[k]
          obtain ⟨t1, ht1⟩ := named x.1
          obtain ⟨f1, hf1⟩ := named x.2.1
          obtain ⟨a1, ha1⟩ := named x.2.2
          rw [← hx.out] at hrc
          have r0 : wr.cell? ⟨rb, ro + k * 3, none⟩ = some (.int .i64 t1) := by rw [ht1.out]; exact hI.out.2.cell (hrc 0 _ rfl) hrbg
          have r1 : wr.cell? ⟨rb, ro + k * 3 + 1, none⟩ = some (.int .i64 f1) := by rw [hf1.out]; exact hI.out.2.cell (hrc 1 _ rfl) hrbg
          have r2 : wr.cell? ⟨rb, ro + k * 3 + 2, none⟩ = some (.int .i64 a1) := by rw [ha1.out]; exact hI.out.2.cell (hrc 2 _ rfl) hrbg
          obtain ⟨u, hu1⟩ := named (undoOf l t1 a1 0)
          have hcons : Hid (promOf l (RR.drop k) ps = if u.2 = 0 then promOf l (RR.drop (k + 1)) (undoPg ps u.1) else ([], u.2)) := hid (by
            have h5 : k < RR.length := by rw [hRRl.out]; exact hlt
            have h6 : RR[k] = (t1, a1) := by simp [hRR.out, ht1.out, ha1.out, hx.out]
            rw [List.drop_eq_getElem_cons h5, h6, hu1.out]; rfl)
          have hul : u.1.length ≤ l.length := by
            rw [hu1.out]; unfold undoOf orErr
            split
            · split
              · simp only [List.length_map]
                exact Nat.le_trans (List.length_filter_le _ _) walk_len'
              · simp
            · simp
          have huok : Hid (∀ r ∈ u.1, r.after.size ≤ 2 ^ 62 ∧ fits r.off) := hid (by rw [hu1.out]; exact hu.out _ _ _)
          have hk0 : (0 : Int) ≤ (k : Int) := by omega
          have hk1 : (k : Int) < (tl : Int) := by omega
          clear hrc ht1 ha1 hf1 hx
          go_upto_region 11 with fail
          refine wp_gen (fun W => Chg NoB wr W ∧ W.cell? ⟨wr.heap.size, 0, none⟩ = some (.int .i64 t1) ∧ W.cell? ⟨wr.heap.size, 2, none⟩ = some (.int .i64 a1)) ⟨(Chg.refl NoB wr).alloc _, by rw [cell_blk (blk_new _ _)]; rfl, by rw [cell_blk (blk_new _ _)]; rfl⟩ ?_
          rintro W ⟨hcW, e0, e2⟩
          have HCW := hid hcW
          clear hcW
          go_upto_region 12 with (go_at_call 45; refine (pUndo_calls _ l t1 a1 0 _ (HV.out.mono (hI.out.1.chg.trans' HCW.out)) hl u hu1).mono ?_; rintro e w2 ⟨vu, rfl, hou, hc2⟩; obtain ⟨au, cu, rfl⟩ := ownsForm hou.out)
          have hc9 := hid (HCW.out.trans' hc2.out)
          have hI2 := hid (show PrI w w2 g9 [] n ps ∧ Chg (OneB g9) wA w2 from ⟨hI.out.1.keep (S := NoB) hc9.out, hI.out.2.trans hc9.out (fun _ e => e.elim)⟩)
          obtain ⟨_, _, ee, hu2, hu3, hud⟩ := Rd.of_own (l := u.1) (enc := Rec.csn) (size := 11) (fun _ => rfl) hou.out
          cases ee
          have HUD := hid hud
          have hgwr := lt_of_block hI.out.1.blk
          have hszW := HCW.out.size
          have HOu : Hid (∀ j, OwnB (.slice au u.1.length cu) j → j ≠ g9) := hid (fun j hj => by have h4 := (OwnB.ge hou.out j hj).1; omega)
          unfold maxLen at hu3
          clear hc2 hou hud r0 r1 r2 e0 e2 hI hszW
          obtain ⟨er, her⟩ := named u.2
          rw [← her.out]
          by_cases h0 : er = 0
          · subst h0
            have hst : Hid (promOf l RR rp = promOf l (RR.drop (k + 1)) (undoPg ps u.1)) := hid (by rw [hE.out, hcons.out, ← her.out]; rfl)
            clear hcons hE her hc9
            obtain ⟨wB, hwB⟩ := named w2
            rw [← hwB.out] at hI2 HUD ⊢
            clear hwB
            rename World => wq
            go_upto_region 15 with fail
            go_loopw [61] (fun i wr => ∃ m : Nat, m ≤ u.1.length ∧ i = .int .i64 m ∧ Hid (PrI w wr g9 [] n (undoPg ps (u.1.take m)) ∧ Chg (OneB g9) wA wr ∧ Chg (OneB g9) wq wr)) (fun i _ => u.1.length - (intOf i).toNat)
            case atStart => exact ⟨0, by omega, rfl, hI2.out.1, hI2.out.2, Chg.refl _ _⟩
            case round =>
              obtain ⟨m, hm, rfl, hJ⟩ := hrel
              clear hI2
              by_cases hml : m < u.1.length
              · obtain ⟨ub, uo, rfl, huc⟩ := HUD.out m _ (List.getElem?_eq_getElem hml)
                have hubg : ub ≠ g9 := HOu.out ub (by simp [OwnB, Value.ownBlock])
                obtain ⟨r, hr2⟩ := named u.1[m]
                rw [← hr2.out] at huc
                have hcs : Hid (∀ j v, (Rec.csn r)[j]? = some v → wr.cell? ⟨ub, uo + m * 11 + j, none⟩ = some v) := hid (fun j v hv => hJ.out.2.2.cell (huc j v hv) hubg)
                obtain ⟨psm, hpsm⟩ := named (undoPg ps (u.1.take m))
                rw [← hpsm.out] at hJ
                have hnx : Hid (undoPg ps (u.1.take (m + 1)) = pSet psm r.page (fun p => p.undo r)) := hid (by rw [undoPg_snoc hml, ← hpsm.out, hr2.out])
                obtain ⟨hrs, hro⟩ := huok.out r (by rw [hr2.out]; exact List.getElem_mem _)
                have hpl : psm.length = n := hJ.out.1.len
                have HPL := hid hpl
                have hm0 : (0 : Int) ≤ (m : Int) := by omega
                have hm1 : (m : Int) < (u.1.length : Int) := by omega
                have hpr : (r.page < 0 ∨ (psm.length : Int) ≤ r.page) ∨ (0 ≤ r.page ∧ r.page < (n : Int)) := by omega
                clear huc hpl hpsm
                go_upto_region 17 with (first
                  | ((fail_if_success (fail_if_success (with_reducible change wpList _ _ _ (Oper.mk _ (.load 78 _) _ _ _ _ :: _) _ _))); refine step_loadAt rfl rfl ub (uo + m * 11) rfl (Rec.csn r) hcs.out Try.underlying78 (by kernel_rfl) ?_)
                  | ((fail_if_success (fail_if_success (with_reducible change wpList _ _ _ (Oper.mk _ (.store 78 _ _) _ _ _ _ :: _) _ _))); refine step_storeRow rfl rfl wr.heap.size rfl rfl (blk_new _ _) (by kernel_rfl) rfl (by simp [Rec.csn, Rec.cs, Value.oneCell']) ?_; intro w4 hb4 hc4 hs4))
                have hc5 : Chg NoB wr w4 := ((Chg.refl NoB wr).alloc _).new hc4 (fun i x => by have h' : i = wr.heap.size := x; omega)
                have z2 : w4.cell? ⟨wr.heap.size, 2, none⟩ = some (.int .i64 r.page) := by rw [cell_blk hb4]; rfl
                have z3 : w4.cell? ⟨wr.heap.size, 3, none⟩ = some (.int .i64 r.off) := by rw [cell_blk hb4]; rfl
                have z8 : w4.cell? ⟨wr.heap.size, 8, none⟩ = some (.string r.after) := by rw [cell_blk hb4]; rfl
                have hJ4 := hid (show PrI w w4 g9 [] n psm ∧ Chg (OneB g9) wA w4 ∧ Chg (OneB g9) wq w4 from ⟨hJ.out.1.keep (S := NoB) hc5, hJ.out.2.1.trans hc5 (fun _ e => e.elim), hJ.out.2.2.trans hc5 (fun _ e => e.elim)⟩)
                clear hb4 hc4 hs4 hc5 hJ hcs
                rcases hpr with hp | ⟨hp0, hp1⟩
                · have hsame : Hid (undoPg ps (u.1.take (m + 1)) = psm) := hid (by rw [hnx.out]; unfold pSet; rw [if_pos hp])
                  rw [HPL.out] at hp
                  clear hnx z3 z8
                  rcases hp with hp | hp
                  · go_wp2_with fail
                    go_roundw
                    case rel => exact ⟨m + 1, by omega, by go_num, hid (by rw [hsame.out]; exact hJ4.out)⟩
                    case measure => simp [intOf] <;> omega
                  · have hp0 : ¬ r.page < 0 := by omega
                    have hp' : r.page ≥ (n : Int) := hp
                    go_wp2_with fail
                    go_roundw
                    case rel => exact ⟨m + 1, by omega, by go_num, hid (by rw [hsame.out]; exact hJ4.out)⟩
                    case measure => simp [intOf] <;> omega
                · obtain ⟨kp, hkp⟩ := Int.eq_ofNat_of_zero_le hp0
                  have hkl : kp < psm.length := by rw [HPL.out]; omega
                  obtain ⟨q, hq⟩ := named psm[kp]
                  obtain ⟨q', hq'⟩ := named (q.put r.off r.after q.at_)
                  have hqs := hJ4.out.1.sz q (by rw [hq.out]; exact List.getElem_mem _)
                  have hqz : q.data.size ≤ 2 ^ 62 := by omega
                  have hqf := hqs.2
                  have hset : Hid (pSet psm r.page (fun p => p.undo r) = psm.set kp (if q'.2 = 0 then q'.1 else q)) := hid (by
                    unfold pSet
                    rw [if_neg (by rw [HPL.out]; omega), hkp, Int.toNat_natCast, getD_at psm kp hkl, ← hq.out]
                    exact congrArg (psm.set kp) (undo_of_put hq'.out))
                  have hself : Hid (psm.set kp q = psm) := hid (by rw [hq.out, List.set_getElem_self])
                  obtain ⟨d1, d2⟩ := pg_cells (pre := []) (post := []) (w := w4) (by simpa using hJ4.out.1.blk) kp hkl
                  simp only [List.length_nil, Nat.zero_add] at d1 d2
                  rw [← hq.out] at d1 d2
                  have hp0' : ¬ r.page < 0 := by omega
                  have hp1' : ¬ r.page ≥ (n : Int) := by omega
                  go_upto_region 18 with fail
                  rw [hkp] at z2
                  have HKP := hid hkp
                  have hk0' : (0 : Int) ≤ (kp : Int) := by omega
                  have hk1' : (kp : Int) < (n : Int) := by omega
                  clear hkp hp0 hp1 hq hqs hp0' hp1'
                  go_cut [16, 17] (fun s4 s5 wx => ∃ h : Nat, s4 = .pointer (some ⟨h, 0, none⟩) ∧ s5 = .int .i64 q'.2 ∧ Hid (Chg NoB w4 wx ∧ wx.heap[h]? = some (.cells #[.int .i64 q'.1.at_, .string q'.1.data] 40 (0, 0)) ∧ w4.heap.size ≤ h))
                  case first =>
                    refine wp_region_ord 22 (.rd 0 (.rd 1 (.rd 2 (.rd 3 (.rd 4 (.rd 5 (.rd 6 (.rd 7 (.rd 8 (.rd 9 (.rd 10 (.rd 11 (.rd 12 (.rd 13 (.rd 14 (.two 15 (.rd 16 (.rd 17 (.rd 18 (.one 19 (.one 20 (.rd 21 (.done))))))) 19 (.one 15 (.rd 16 (.rd 17 (.rd 18 (.one 20 (.rd 21 (.done))))))))))))))))))))))) (Same w4) (by kernel_rfl) (by kernel_rfl) (by kernel_rfl) (by kernel_rfl) (by kernel_rfl) (fun _ _ d _ _ h => by cases d <;> exact h) (Same.of (Chg.refl _ _).drew) (fun hS0 => ?_)
                    refine wpOrd_rd rfl rfl (by first | decide | simp) (by assumption) (fun w' hw' K hK => by ((try unfold Same at hw'); (try go_split_ands); go_simp; exact hK)) ?_
                    refine wpOrd_rd rfl rfl (by first | decide | simp) (by assumption) (fun w' hw' K hK => by ((try unfold Same at hw'); (try go_split_ands); go_simp; exact hK)) ?_
                    refine wpOrd_rd rfl rfl (by first | decide | simp) (by assumption) (fun w' hw' K hK => by ((try unfold Same at hw'); (try go_split_ands); go_simp; exact hK)) ?_
                    refine wpOrd_rd rfl rfl (by first | decide | simp) (by assumption) (fun w' hw' K hK => by ((try unfold Same at hw'); (try go_split_ands); go_simp; exact hK)) ?_
                    refine wpOrd_rd rfl rfl (by first | decide | simp) (by assumption) (fun w' hw' K hK => by ((try unfold Same at hw'); (try go_split_ands); go_simp; exact hK)) ?_
                    refine wpOrd_rd rfl rfl (by first | decide | simp) (by assumption) (fun w' hw' K hK => by ((try unfold Same at hw'); (try go_split_ands); go_simp; exact hK)) ?_
                    refine wpOrd_rd rfl rfl (by first | decide | simp) (by assumption) (fun w' hw' K hK => by ((try unfold Same at hw'); (try go_split_ands); go_simp; exact hK)) ?_
                    refine wpOrd_rd rfl rfl (by first | decide | simp) (by assumption) (fun w' hw' K hK => by ((try unfold Same at hw'); (try go_split_ands); go_simp; exact hK)) ?_
                    refine wpOrd_rd rfl rfl (by first | decide | simp) (by assumption) (fun w' hw' K hK => by ((try unfold Same at hw'); (try go_split_ands); go_simp; exact hK)) ?_
                    refine wpOrd_rd rfl rfl (by first | decide | simp) (by assumption) (fun w' hw' K hK => by ((try unfold Same at hw'); (try go_split_ands); go_simp; exact hK)) ?_
                    refine wpOrd_rd rfl rfl (by first | decide | simp) (by assumption) (fun w' hw' K hK => by ((try unfold Same at hw'); (try go_split_ands); go_simp; exact hK)) ?_
                    refine wpOrd_rd rfl rfl (by first | decide | simp) (by assumption) (fun w' hw' K hK => by ((try unfold Same at hw'); (try go_split_ands); go_simp; exact hK)) ?_
                    refine wpOrd_rd rfl rfl (by first | decide | simp) (by assumption) (fun w' hw' K hK => by ((try unfold Same at hw'); (try go_split_ands); go_simp; exact hK)) ?_
                    refine wpOrd_rd rfl rfl (by first | decide | simp) (by assumption) (fun w' hw' K hK => by ((try unfold Same at hw'); (try go_split_ands); go_simp; exact hK)) ?_
                    refine wpOrd_rd rfl rfl (by first | decide | simp) (by assumption) (fun w' hw' K hK => by ((try unfold Same at hw'); (try go_split_ands); go_simp; exact hK)) ?_
                    refine wpOrd_two rfl rfl ?_ ?_
                    · (first | refine wpList_plain rfl (fun K hK => ?_) | refine wpList_step (fun K hK => ?_))
                      go_simp
                      ((with_reducible refine (put_lit q r.off q.at_ r.after _ q' hq' hqz hrs hro hqf).mono ?_); rintro e w5 ⟨rfl, hc5⟩)
                      refine hK _ _ ?_
                      clear hK K
                      (try dsimp only [Act.put])
                      refine wpOrd_done (Same.of ((Chg.refl NoB w4).drew.trans' hc5)) (fun hS1 => ?_)
                      refine wpOrd_rd rfl rfl (by first | decide | simp) (by assumption) (fun w' hw' K hK => by ((try unfold Same at hw'); (try go_split_ands); go_simp; exact hK)) ?_
                      refine wpOrd_rd rfl rfl (by first | decide | simp) (by assumption) (fun w' hw' K hK => by ((try unfold Same at hw'); (try go_split_ands); go_simp; exact hK)) ?_
                      refine wpOrd_rd rfl rfl (by first | decide | simp) (by assumption) (fun w' hw' K hK => by ((try unfold Same at hw'); (try go_split_ands); go_simp; exact hK)) ?_
                      refine wpOrd_do rfl ?_
                      (first | refine wpList_plain rfl (fun K hK => ?_) | refine wpList_step (fun K hK => ?_))
                      go_simp
                      refine hK _ _ ?_
                      clear hK K
                      (try dsimp only [Act.put])
                      refine wpOrd_done (Same.of (((Chg.refl NoB w4).drew.trans' hc5).alloc _)) (fun hS2 => ?_)
                      refine wpOrd_do rfl ?_
                      refine step_storeRow rfl rfl w5.heap.size rfl rfl (blk_new _ _) (by kernel_rfl) rfl (by simp [Value.oneCell']) ?_; intro w6 hb6 hc6 hs6; have hz5 := ((Chg.refl NoB w4).drew.trans' hc5).size; have hc7 : Chg NoB w4 w6 := ((((Chg.refl NoB w4).drew.trans' hc5).alloc _).new hc6 (fun i x => by have h' : i = w5.heap.size := x; omega))
                      (try dsimp only [Act.put])
                      refine wpOrd_done (Same.of hc7) (fun hS3 => ?_)
                      refine wpOrd_rd rfl rfl (by first | decide | simp) (by assumption) (fun w' hw' K hK => by ((try unfold Same at hw'); (try go_split_ands); go_simp; exact hK)) ?_
                      refine wpOrd_nil ?_
                      go_wp2_with fail
                      go_meet
                      exact ⟨w5.heap.size, rfl, rfl, hid ⟨hc7, hb6, hz5⟩⟩
                    · (first | refine wpList_plain rfl (fun K hK => ?_) | refine wpList_step (fun K hK => ?_))
                      go_simp
                      refine hK _ _ ?_
                      clear hK K
                      (try dsimp only [Act.put])
                      refine wpOrd_done (Same.of ((Chg.refl NoB w4).drew.alloc _)) (fun hS4 => ?_)
                      refine wpOrd_do rfl ?_
                      (first | refine wpList_plain rfl (fun K hK => ?_) | refine wpList_step (fun K hK => ?_))
                      go_simp
                      ((with_reducible refine (put_lit q r.off q.at_ r.after _ q' hq' hqz hrs hro hqf).mono ?_); rintro e w5 ⟨rfl, hc5⟩)
                      refine hK _ _ ?_
                      clear hK K
                      (try dsimp only [Act.put])
                      refine wpOrd_done (Same.of (((Chg.refl NoB w4).drew.alloc _).trans' hc5)) (fun hS5 => ?_)
                      refine wpOrd_rd rfl rfl (by first | decide | simp) (by assumption) (fun w' hw' K hK => by ((try unfold Same at hw'); (try go_split_ands); go_simp; exact hK)) ?_
                      refine wpOrd_rd rfl rfl (by first | decide | simp) (by assumption) (fun w' hw' K hK => by ((try unfold Same at hw'); (try go_split_ands); go_simp; exact hK)) ?_
                      refine wpOrd_rd rfl rfl (by first | decide | simp) (by assumption) (fun w' hw' K hK => by ((try unfold Same at hw'); (try go_split_ands); go_simp; exact hK)) ?_
                      refine wpOrd_do rfl ?_
                      refine step_storeRow rfl rfl w4.heap.size rfl rfl (hc5.heap (blk_new (World.drew w4) _) nob) (by kernel_rfl) rfl (by simp [Value.oneCell']) ?_; intro w6 hb6 hc6 hs6; have hc7 : Chg NoB w4 w6 := ((((Chg.refl NoB w4).drew.alloc _).trans' hc5).new hc6 (fun i x => by have h' : i = w4.heap.size := x; omega))
                      (try dsimp only [Act.put])
                      refine wpOrd_done (Same.of hc7) (fun hS6 => ?_)
                      refine wpOrd_rd rfl rfl (by first | decide | simp) (by assumption) (fun w' hw' K hK => by ((try unfold Same at hw'); (try go_split_ands); go_simp; exact hK)) ?_
                      refine wpOrd_nil ?_
                      go_wp2_with fail
                      go_meet
                      exact ⟨w4.heap.size, rfl, rfl, hid ⟨hc7, hb6, Nat.le_refl _⟩⟩
                  case rest =>
                    obtain ⟨h, rfl, rfl, hcut⟩ := hcut
                    have e1 : wc.cell? ⟨h, 0, none⟩ = some (.int .i64 q'.1.at_) := by rw [cell_blk hcut.out.2.1]; rfl
                    have e2 : wc.cell? ⟨h, 1, none⟩ = some (.string q'.1.data) := by rw [cell_blk hcut.out.2.1]; rfl
                    have z2' := hcut.out.1.cell z2 nob
                    have hJ2 := hid (show PrI w wc g9 [] n psm ∧ Chg (OneB g9) wA wc ∧ Chg (OneB g9) wq wc from ⟨hJ4.out.1.keep (S := NoB) hcut.out.1, hJ4.out.2.1.trans hcut.out.1 (fun _ e => e.elim), hJ4.out.2.2.trans hcut.out.1 (fun _ e => e.elim)⟩)
                    clear z2 z3 z8 d1 d2 hJ4 hcut
                    obtain ⟨er, her⟩ := named q'.2
                    rw [← her.out]
                    by_cases h0 : er = 0
                    · subst h0
                      have hset2 : Hid (undoPg ps (u.1.take (m + 1)) = psm.set kp q'.1) := hid (by rw [hnx.out, hset.out, ← her.out]; rfl)
                      have hlen : Hid ((pgsC psm ++ []).length = n * 2) := hid (by simp [pgsC_len, HPL.out])
                      go_wp2_with ((fail_if_success (fail_if_success (with_reducible change wpList _ _ _ (Oper.mk _ (.store 40 _ _) _ _ _ _ :: _) _ _))); refine step_storeAt rfl rfl g9 (kp * 2) (cells := encP q'.1) rfl rfl hJ2.out.1.blk (by kernel_rfl) (by rw [hlen.out]; simp [encP]; omega) (by simp [encP, Value.oneCell']) ?_; intro w7 hb7 hc7 hs7)
                      have hsp := pg_splice [] [] psm kp q'.1 hkl
                      simp only [List.length_nil, Nat.zero_add] at hsp
                      have hsp' : List.take (kp * 2) (pgsC psm ++ []) ++ encP q'.1 ++ List.drop (kp * 2 + (encP q'.1).length) (pgsC psm ++ []) = pgsC (psm.set kp q'.1) ++ [] := by simpa using hsp
                      rw [hsp', ← hset2.out] at hb7
                      have hN := hid (show PrI w w7 g9 [] n (undoPg ps (u.1.take (m + 1))) ∧ Chg (OneB g9) wA w7 ∧ Chg (OneB g9) wq w7 from ⟨hJ2.out.1.set hnx.out hb7 hc7, hJ2.out.2.1.trans' hc7, hJ2.out.2.2.trans' hc7⟩)
                      clear hb7 hc7 hs7 e1 e2
                      go_wp2_with fail
                      go_roundw
                      case rel => exact ⟨m + 1, by omega, by go_num, hN⟩
                      case measure => simp [intOf] <;> omega
                    · have hsame : Hid (undoPg ps (u.1.take (m + 1)) = psm) := hid (by rw [hnx.out, hset.out, if_neg (by rw [← her.out]; exact h0), hself.out])
                      go_wp2_with fail
                      go_roundw
                      case rel => exact ⟨m + 1, by omega, by go_num, hid (by rw [hsame.out]; exact hJ2.out)⟩
                      case measure => simp [intOf] <;> omega
              · obtain rfl : m = u.1.length := by omega
                rw [List.take_length] at hJ
                go_wp2_with fail
                go_roundw
                case rel => exact ⟨k + 1, undoPg ps u.1, by omega, by go_num, hst, hid ⟨hJ.out.1, hJ.out.2.1⟩⟩
                case measure => simp [intOf] <;> omega
          · have hr : res = ([], er) := by rw [hr, hE.out, hcons.out, if_neg (by rw [← her.out]; exact h0), ← her.out]
            subst hr
            clear hcons hE hres
            go_wp2_with fail
            go_ret2
            exact ⟨_, rfl, World.ownsRow_nil _ _ _ _, hid hI2.out.1.chg⟩
        · obtain rfl : k = tl := by omega
          rw [← hRRl.out, List.drop_length] at hE
          have hr2 : res = (ps, 0) := by rw [hr, hE.out]; rfl
          subst hr2
          clear hE hres hr
          have hw9 := hI.out.1.chg.size
          obtain ⟨w9, hw9'⟩ := named wr
          rw [← hw9'.out] at hI hw9
          rw [← hw9'.out]
          clear hw9'
          have hpl : ps.length = n := hI.out.1.len
          have HPL := hid hpl
          clear hpl
          go_upto_region 25 with fail
          go_loopw [18, 105] (fun o i wr => ∃ k : Nat, k ≤ n ∧ i = .int .i64 k ∧ Hid (Chg NoB w9 wr) ∧ Hid (wr.ownsRow w9.heap.size 9 1 o k ((ps.take k).map (fun p => Value.string p.data)))) (fun _ i _ => n - (intOf i).toNat)
          case atStart => exact ⟨0, by omega, rfl, Chg.refl _ _, World.ownsRow_nil _ _ _ _⟩
          case round =>
            obtain ⟨k, hk, rfl, hc, hO⟩ := hrel
            obtain ⟨ao, co, rfl⟩ := ownsForm hO.out
            by_cases hlt : k < n
            · have hkl : k < ps.length := by rw [HPL.out]; exact hlt
              obtain ⟨q, hq⟩ := named ps[k]
              obtain ⟨d1, d2⟩ := pg_cells (pre := []) (post := []) (w := wr) (by simpa using hc.out.heap hI.out.1.blk nob) k hkl
              simp only [List.length_nil, Nat.zero_add] at d1 d2
              rw [← hq.out] at d1 d2
              have hT : Hid ((ps.take (k + 1)).map (fun p => Value.string p.data) = (ps.take k).map (fun p => Value.string p.data) ++ [.string q.data]) := hid (by rw [take_snoc' hkl, hq.out, List.map_append]; rfl)
              have hcs : Hid (∀ j v, (encP q)[j]? = some v → wr.cell? ⟨g9, k * 2 + j, none⟩ = some v) := hid (by
                intro j v hv
                match j, hv with
                | 0, hv => cases hv; exact d1
                | 1, hv => cases hv; exact d2)
              have hk0 : (0 : Int) ≤ (k : Int) := by omega
              have hk1 : (k : Int) < (n : Int) := by omega
              clear d1 d2
              go_wp2_with (first
                | ((fail_if_success (fail_if_success (with_reducible change wpList _ _ _ (Oper.mk _ (.load 40 _) _ _ _ _ :: _) _ _))); refine step_loadAt rfl rfl g9 (k * 2) rfl (encP q) hcs.out Try.underlying40 (by kernel_rfl) ?_)
                | ((fail_if_success (fail_if_success (with_reducible change wpList _ _ _ (Oper.mk _ (.store 40 _ _) _ _ _ _ :: _) _ _))); refine step_storeRow rfl rfl wr.heap.size rfl rfl (blk_new _ _) (by kernel_rfl) rfl (by simp [encP, Value.oneCell']) ?_; intro w2 hb2 hc2 hs2; have e1 : w2.cell? ⟨wr.heap.size, 1, none⟩ = some (.string q.data) := (by rw [cell_blk hb2]; rfl))
                | (at_builtin; refine step_app1 slStr rfl _ _ rfl (own_two' hO.out _ hc2 _) rfl (wr.heap.size + 1) [.string q.data] rfl (by rw [show wr.heap.size + 1 = w2.heap.size by rw [hs2]; simp]; exact blk_new _ _) rfl rfl (by simp [Value.oneCell']) (by omega) (by unfold maxLen; omega) (by have := hc.out.size; simp at hs2; simp; omega) ?_; intro v5 w5 hv5 hc5 hvo hnil))
              obtain ⟨a5, n5, rfl⟩ := ownsForm hv5
              have HV5 := hid hv5
              have hcW : Chg NoB w9 w2 := (hc.out.alloc _).new hc2 (fun i x => by have h' : i = wr.heap.size := x; have := hc.out.size; omega)
              have HC := hid ((hcW.alloc (.cells #[.string q.data] 9)).trans hc5 (fun i hi => .inr (OwnB.ge hO.out i hi).1))
              clear hv5 hc5 hvo hnil
              go_wp2_with fail
              go_roundw
              case rel => exact ⟨k + 1, by omega, by go_num, HC, hid (by rw [hT.out]; exact HV5.out)⟩
              case measure => simp [intOf] <;> omega
            · obtain rfl : k = n := by omega
              rw [List.take_of_length_le (by rw [HPL.out]; exact Nat.le_refl _)] at hO
              go_wp2_with fail
              go_ret2
              exact ⟨_, rfl, hid (ownsBase (by rw [show ((ps, (0 : Int)) : List Pg × Int).1.length = k from HPL.out]; exact hO.out) hw9), hid (hI.out.1.chg.trans' hc.out)⟩
    · rw [if_neg h1] at hr
      subst hr
      go_enter Try.func18, Try.ntmps18
      go_wp2_with (first
        | (go_at_call 17; refine (roll_calls p g L _ l _ HB.out HV.out hl hok (rp, 0) hroll).mono ?_; rintro e w1 ⟨vr, rfl, hpb, hc1⟩)
        | (go_at_call 42; refine (tables_calls _ l 0 _ (HV.out.mono hc1.out) hW T G te htab).mono ?_; rintro e w2 ⟨v1, v2, rfl, hO1, hO2, hc2⟩))
      go_ret2
      exact ⟨_, rfl, hid (World.ownsRow_nil _ _ _ _), hid (hc1.out.trans' hc2)⟩
  · rw [if_neg h0] at hr
    subst hr
    go_enter Try.func18, Try.ntmps18
    go_wp2_with (go_at_call 17; refine (roll_calls p g L _ l _ HB.out HV.out hl hok (rp, re) hroll).mono ?_; rintro e w1 ⟨vr, rfl, hpb, hc1⟩)
    go_ret2
    exact ⟨_, rfl, hid (World.ownsRow_nil _ _ _ _), hid hc1.out⟩
end Go.Proofs.Ytghklbflbodajaa
