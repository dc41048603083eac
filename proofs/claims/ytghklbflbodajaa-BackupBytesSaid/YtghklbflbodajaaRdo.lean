import Derived.Test.YtghklbflbodajaaA3
namespace Go.Proofs.Ytghklbflbodajaa
open Go.RowKit Go.ChangeMaps Go.MapKept
attribute [local go_sem] Go.Oper.rdK
set_option linter.unusedVariables false
set_option linter.unusedSimpArgs false
set_option linter.unnecessarySimpa false
set_option maxHeartbeats 8000000

/-- What redo.Pages does with one record. -/
def rdStep (from_ : Int) (PL : List Pg) (x : Ent) : List Pg := if from_ ≤ x.at_ then pSet PL x.r.page (fun p => p.apply x.at_ x.r) else PL
def rdPages (l : List Ent) (from_ : Int) (PL : List Pg) : List Pg := l.foldl (rdStep from_) PL
theorem rdStep_len (f : Int) (PL : List Pg) (x : Ent) : (rdStep f PL x).length = PL.length := by
  unfold rdStep; split
  · exact pSet_len _ _ _
  · rfl
theorem rdPages_len (l : List Ent) (f : Int) : ∀ PL, (rdPages l f PL).length = PL.length := by
  induction l with
  | nil => intro PL; rfl
  | cons x l ih => intro PL; exact (ih _).trans (rdStep_len f PL x)
theorem rdStep_size {f : Int} {PL : List Pg} {x : Ent} (h : ∀ q ∈ PL, q.data.size ≤ 220) : ∀ q ∈ rdStep f PL x, q.data.size ≤ 220 := by
  unfold rdStep; split
  · exact pSet_size h _ fun p hp => apply_size p _ _ hp
  · exact h
theorem rdPages_size (l : List Ent) (f : Int) : ∀ {PL : List Pg}, (∀ q ∈ PL, q.data.size ≤ 220) → ∀ q ∈ rdPages l f PL, q.data.size ≤ 220 := by
  induction l with
  | nil => intro PL h; exact h
  | cons x l ih => intro PL h; exact ih (rdStep_size h)
theorem encP_one {n : List Pg} : ∀ v ∈ pgsC n, v.oneCell' = true := by
  intro v hv
  unfold pgsC at hv
  obtain ⟨q, _, hq⟩ := List.mem_flatMap.1 hv
  simp only [encP, List.mem_cons, List.not_mem_nil, or_false] at hq
  rcases hq with rfl | rfl <;> rfl
theorem pgs_rd {w : World} {a : Option Addr} {l : List Pg} (h : ∀ i x, l[i]? = some x → ∃ b off, a = some ⟨b, off, none⟩ ∧ ∀ j u, (encP x)[j]? = some u → w.cell? ⟨b, off + i * 2 + j, none⟩ = some u) (h1 : 1 ≤ l.length) :
    ∃ b off, a = some ⟨b, off, none⟩ ∧ ∀ j u, (pgsC l)[j]? = some u → w.cell? ((⟨b, off, none⟩ : Addr).add j) = some u := by
  obtain ⟨b, off, ha, _⟩ := h 0 _ (List.getElem?_eq_getElem (by omega))
  refine ⟨b, off, ha, fun j u hu => ?_⟩
  obtain ⟨i, x, r, g1, g2, rfl⟩ := flatMap_inv (size := 2) (fun _ => rfl) hu
  obtain ⟨b', off', hb, g3⟩ := h i x g1
  rw [ha] at hb
  cases hb
  have e1 : (⟨b, off, none⟩ : Addr).add (i * 2 + r) = ⟨b, off + i * 2 + r, none⟩ := by unfold Addr.add; split <;> simp_all [Nat.add_assoc]
  rw [e1]
  exact g3 r u g2

set_option maxRecDepth 100000 in
theorem redo_calls (v : Value) (l : List Ent) (from_ : Int) (vp : Value) (PL : List Pg) (w : World) (hv : Ents w v l) (hl : l.length ≤ 1000000) (hok : ∀ x ∈ l, x.r.okk) (hp : Rd w 2 encP vp PL) (hn1 : 1 ≤ PL.length) (hn8 : PL.length ≤ 8) (hsz : ∀ q ∈ PL, q.data.size ≤ 220) (hf : fits from_)
    (res : List Pg) (hres : Hid (res = rdPages l from_ PL)) :
    Calls Try.prog 41 #[v, .int .i64 from_, vp] w fun e w' => ∃ g, e = .returned (.slice (some ⟨g, 0, none⟩) PL.length PL.length) ∧ Hid (w'.heap[g]? = some (.cells (pgsC res).toArray 40 (0, 0))) ∧ Hid (Chg NoB w w') ∧ w.heap.size ≤ g := by
  obtain ⟨a, c, rfl, h1, h2, h3⟩ := hv
  obtain ⟨ap, cp, rfl, p1, p2, p3⟩ := hp
  obtain ⟨pb, po, rfl, hsrc⟩ := pgs_rd p3 hn1
  have HS := hid hsrc
  have H3 := hid h3
  clear h3 p3 hsrc
  have hmk := fun w => maken PL.length hn8 hn1 w
  unfold fits at hf
  have hrl : Hid ((repC PL.length Pg.none).length = PL.length * 2) := hid (repC_len _ _)
  have hpl : Hid ((pgsC PL).length = PL.length * 2) := hid (pgsC_len _)
  go_enter Try.func41, Try.ntmps41
  go_upto_region 2 with fail
  refine wp_gen (fun W => W.heap[w.heap.size]? = some (.cells (repC PL.length Pg.none).toArray 40 (0, 0)) ∧ Chg NoB w W) ⟨blk_new _ _, (Chg.refl NoB w).alloc _⟩ ?_
  rintro W ⟨hW1, hW2⟩
  have HW1 := hid hW1
  have HW2 := hid hW2
  clear hW1 hW2
  go_upto_region 3 with (refine step_copyE rfl _ _ _ _ rfl 40 2 Try.underlying47 (by kernel_rfl) w.heap.size 0 PL.length PL.length rfl ⟨pb, po, none⟩ PL.length _ rfl PL.length (Nat.min_self _) HW1.out (pgsC PL) hpl.out (fun j u hu => HW2.out.cell (HS.out j u hu) nob) (by rw [hpl.out, hrl.out]; omega) encP_one ?_; intro w2 hb2 hc2 hs2)
  have e0 : (repC PL.length Pg.none).take 0 ++ pgsC PL ++ (repC PL.length Pg.none).drop (0 + (pgsC PL).length) = pgsC PL := by
    rw [List.take_zero, List.nil_append, List.drop_eq_nil_of_le (by rw [hpl.out, hrl.out]; omega), List.append_nil]
  rw [e0] at hb2
  have HB2 := hid hb2
  have HC2 : Hid (Chg NoB w w2) := hid (HW2.out.new hc2 (fun i x => by have h' : i = w.heap.size := x; omega))
  clear hb2 hc2 hs2 e0
  go_upto_region 4 with fail
  go_loopw [19] (fun i wr => ∃ k : Nat, k ≤ l.length ∧ i = .int .i64 k ∧ Hid (∃ Q, Q = rdPages (l.take k) from_ PL ∧ wr.heap[w.heap.size]? = some (.cells (pgsC Q).toArray 40 (0, 0)) ∧ Chg NoB w wr)) (fun i _ => l.length - (intOf i).toNat)
  case atStart => exact ⟨0, by omega, rfl, hid ⟨PL, rfl, HB2.out, HC2.out⟩⟩
  case round =>
    obtain ⟨k, hk, rfl, hI⟩ := hrel
    obtain ⟨Q, hQ, hB, hC⟩ := hI.out
    have HQ := hid hQ
    have HB := hid hB
    have HC := hid hC
    have HQn : Hid (Q.length = PL.length) := hid (by rw [hQ]; exact rdPages_len _ _ _)
    have HQs : Hid (∀ q ∈ Q, q.data.size ≤ 220) := hid (by rw [hQ]; exact rdPages_size _ _ hsz)
    clear hI hQ hB hC
    by_cases hlt : k < l.length
    · obtain ⟨x, b, off, v1, v2, hx, rfl, ht, hokx, hE, hbl, hone⟩ := Ents.at H3.out HC.out k hlt
      obtain ⟨⟨a1, n1, rfl, _, _, _⟩, ⟨a2, n2, rfl, _, _, _⟩⟩ := ht
      obtain ⟨c0, q0, q1, q2, q3, q4, q5, q6, q7, q8, q9, q10⟩ := hE.cells
      have hxk := hok x (by rw [← hx.out]; exact List.getElem_mem hlt)
      have hst : rdPages (l.take (k + 1)) from_ PL = rdStep from_ Q x := by
        rw [take_snoc' hlt, HQ.out, hx.out]
        exact List.foldl_append ..
      have HST := hid hst
      clear hst hE
      go_upto_region 6 with fail
      refine wp_gen (fun W => Chg NoB w W ∧ W.heap[w.heap.size]? = some (.cells (pgsC Q).toArray 40 (0, 0)) ∧ EtAt W wr.heap.size 0 x (.slice a1 x.r.txns.length n1) (.slice a2 x.r.pages.length n2)) ⟨HC.out.alloc _, blk_alloc HB.out _, ?_⟩ ?_
      · refine ⟨by rw [cell_blk (blk_new _ _)]; rfl, fun j u hu => ?_⟩
        rw [cell_blk (blk_new _ _), List.getElem?_toArray, Nat.add_comm] 
        exact hu
      rintro W ⟨hcW, hbW, heW⟩
      have HCW := hid hcW
      have HBW := hid hbW
      have HEW := hid heW
      clear hcW hbW heW c0 q0 q1 q2 q3 q4 q5 q6 q7 q8 q9 q10
      obtain ⟨e0, e1, e2, e3, e4, e5, e6, e7, e8, e9, e10, e11⟩ := HEW.out.cells
      by_cases hfr : from_ ≤ x.at_
      · have hfr' : x.at_ ≥ from_ := hfr
        by_cases hp0 : x.r.page < 0
        · have hs : rdPages (l.take (k + 1)) from_ PL = Q := by rw [HST.out]; unfold rdStep pSet; rw [if_pos hfr, if_pos (.inl hp0)]
          have HS2 := hid hs
          clear hs HST
          have hp0' : ¬ x.r.page ≥ 0 := by omega
          go_wp2_with fail
          go_roundw
          case rel => exact ⟨k + 1, by omega, by go_num, hid ⟨Q, HS2.out.symm, HBW.out, HCW.out⟩⟩
          case measure => simp [intOf]; omega
        by_cases hp8 : (PL.length : Int) ≤ x.r.page
        · have hs : rdPages (l.take (k + 1)) from_ PL = Q := by rw [HST.out]; unfold rdStep pSet; rw [if_pos hfr, if_pos (.inr (by rw [HQn.out]; exact hp8))]
          have HS2 := hid hs
          clear hs HST
          have hp0' : x.r.page ≥ 0 := by omega
          have hp8' : ¬ x.r.page < (PL.length : Int) := by omega
          go_wp2_with fail
          go_roundw
          case rel => exact ⟨k + 1, by omega, by go_num, hid ⟨Q, HS2.out.symm, HBW.out, HCW.out⟩⟩
          case measure => simp [intOf]; omega
        obtain ⟨kp, hkp⟩ := Int.eq_ofNat_of_zero_le (a := x.r.page) (by omega)
        have hkl : kp < Q.length := by rw [HQn.out]; omega
        have hkl2 : (kp : Int) < (PL.length : Int) := by omega
        obtain ⟨q, hq⟩ := named Q[kp]
        obtain ⟨q2, hq2⟩ := named (q.apply x.at_ x.r)
        have hs : rdPages (l.take (k + 1)) from_ PL = Q.set kp q2 := by
          rw [HST.out]; unfold rdStep pSet
          rw [if_pos hfr, if_neg (by rw [HQn.out]; omega), hkp, Int.toNat_natCast, getD_at Q kp hkl, hq2.out, hq.out]
        have HS2 := hid hs
        clear hs HST
        have hqs : q.data.size ≤ 2 ^ 62 := by have := HQs.out q (by rw [hq.out]; exact List.getElem_mem _); omega
        obtain ⟨d1, d2⟩ := pg_cells (pre := []) (post := []) (w := W) (by simpa using HBW.out) kp hkl
        simp only [List.length_nil, Nat.zero_add] at d1 d2
        rw [← hq.out] at d1 d2
        have hlen : Hid ((pgsC Q).length = Q.length * 2) := hid (pgsC_len _)
        have hii : (0 : Int) ≤ (kp : Int) := by omega
        have hg0 : x.r.page ≥ 0 := by omega
        have hg1 : x.r.page < (PL.length : Int) := by omega
        clear hp0 hp8
        have hxs := hxk.2.2
        have hho : fits x.r.off := hxk.1.2.2.2.1
        have hxf := hokx.out.2
        go_upto_region 8 with fail
        rw [hkp]
        clear hkp hg0 hg1
        refine wp_region_ord 12 (.rd 0 (.rd 1 (.rd 2 (.rd 3 (.rd 4 (.rd 5 (.rd 6 (.rd 7 (.rd 8 (.rd 9 (.one 10 (.rd 11 (.one 12 (.done)))))))))))))) (Same W) (by kernel_rfl) (by kernel_rfl) (by kernel_rfl) (by kernel_rfl) (by kernel_rfl) (fun _ _ d _ _ h => by cases d <;> exact h) (Same.of (Chg.refl _ _).drew) (fun hS0 => ?_)
        refine wpOrd_rd rfl rfl (by first | decide | simp) (by assumption) (fun w' hw' K hK => by ((try unfold Same at hw'); (try go_split_ands); go_simp; exact hK)) ?_
        refine wpOrd_rd rfl rfl (by first | decide | simp) (by assumption) (fun w' hw' K hK => by ((try unfold Same at hw'); (try go_split_ands); go_simp; exact hK)) ?_
        refine wpOrd_rd rfl rfl (by first | decide | simp) (by assumption) (fun w' hw' K hK => by ((try unfold Same at hw'); (try go_split_ands); go_simp; exact hK)) ?_
        refine wpOrd_rd rfl rfl (by first | decide | simp) (by assumption) (fun w' hw' K hK => by ((try unfold Same at hw'); (try go_split_ands); go_simp; exact hK)) ?_
        refine wpOrd_rd rfl rfl (by first | decide | simp) (by assumption) (fun w' hw' K hK => by ((try unfold Same at hw'); (try go_split_ands); go_simp; exact hK)) ?_
        refine wpOrd_rd rfl rfl (by first | decide | simp) (by assumption) (fun w' hw' K hK => by ((try unfold Same at hw'); (try go_split_ands); go_simp; exact hK)) ?_
        refine wpOrd_rd rfl rfl (by first | decide | simp) (by assumption) (fun w' hw' K hK => by ((try unfold Same at hw'); (try go_split_ands); go_simp; exact hK)) ?_
        refine wpOrd_rd rfl rfl (by first | decide | simp) (by assumption) (fun w' hw' K hK => by ((try unfold Same at hw'); (try go_split_ands); go_simp; exact hK)) ?_
        refine wpOrd_rd rfl rfl (by first | decide | simp) (by assumption) (fun w' hw' K hK => by ((try unfold Same at hw'); (try go_split_ands); go_simp; exact hK)) ?_
        refine wpOrd_rd rfl rfl (by first | decide | simp) (by assumption) (fun w' hw' K hK => by ((try unfold Same at hw'); (try go_split_ands); go_simp; exact hK)) ?_
        refine wpOrd_do rfl ?_
        (first | refine wpList_plain rfl (fun K hK => ?_) | refine wpList_step (fun K hK => ?_))
        go_simp
        ((with_reducible refine (apply_calls q x.at_ x.r (.slice a1 x.r.txns.length n1) (.slice a2 x.r.pages.length n2) _ q2 hq2 hqs hxs hho hxf).mono ?_); rintro e w7 ⟨rfl, hc7⟩)
        refine hK _ _ ?_
        clear hK K
        (try dsimp only [Act.put])
        refine wpOrd_done (Same.of ((Chg.refl NoB W).drew.trans' hc7)) (fun hS1 => ?_)
        refine wpOrd_rd rfl rfl (by first | decide | simp) (by assumption) (fun w' hw' K hK => by ((try unfold Same at hw'); (try go_split_ands); go_simp; exact hK)) ?_
        refine wpOrd_do rfl ?_
        refine step_storeAt rfl rfl w.heap.size (kp * 2) (cells := encP q2) rfl rfl (((Chg.refl NoB W).drew.trans' hc7).heap HBW.out nob) (by kernel_rfl) (by rw [hlen.out]; simp [encP]; omega) (by simp [encP, Value.oneCell']) ?_; intro w8 hb8 hc8 hs8
        (try dsimp only [Act.put])
        refine wpOrd_last ?_
        refine wpOrd_nil ?_
        have hsp := pg_splice [] [] Q kp q2 hkl
        simp only [List.length_nil, Nat.zero_add, List.nil_append, List.append_nil] at hsp
        rw [hsp] at hb8
        have HB8 := hid hb8
        have HC8 := hid ((HCW.out.drew.trans' hc7).new hc8 (fun i x => by have h' : i = w.heap.size := x; omega))
        clear hb8 hc8 hs8 hc7 hsp hS0
        go_wp2_with fail
        go_roundw
        case rel => exact ⟨k + 1, by omega, by go_num, hid ⟨_, HS2.out.symm, HB8.out, HC8.out⟩⟩
        case measure => simp [intOf]; omega
      · have hs : rdPages (l.take (k + 1)) from_ PL = Q := by rw [HST.out]; unfold rdStep; rw [if_neg hfr]
        have HS2 := hid hs
        clear hs HST
        have hfr' : ¬ x.at_ ≥ from_ := hfr
        go_wp2_with fail
        go_roundw
        case rel => exact ⟨k + 1, by omega, by go_num, hid ⟨Q, HS2.out.symm, HBW.out, HCW.out⟩⟩
        case measure => simp [intOf]; omega
    · obtain rfl : k = l.length := by omega
      have hr : Q = res := by rw [HQ.out, hres.out, List.take_length]
      subst hr
      go_wp2_with fail
      go_ret
      exact ⟨w.heap.size, rfl, HB, HC, by omega⟩
end Go.Proofs.Ytghklbflbodajaa
