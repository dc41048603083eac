import Derived.Test.YtekjchphlphecaaSb17
import Derived.Test.YtekjchphlphecaaA3
namespace Go.Proofs.Ytekjchphlphecaa
open Go.RowKit Go.ChangeMaps Go.MapKept
attribute [local go_sem] Go.Oper.rdK
set_option linter.unusedVariables false
set_option linter.unusedSimpArgs false
set_option linter.unnecessarySimpa false
set_option maxHeartbeats 8000000

theorem flatMap_encI' (l : List Int) : l.map (Value.int .i64) = l.flatMap encI := (flatMap_encI l).symm
/-- The tail of a slice of ints. -/
theorem Rd.tailI {w : World} {c : Nat} {g : Nat} {l : List Int} (h : Rd w 1 encI (.slice (some ⟨g, 0, none⟩) l.length c) l) (k : Nat) (hk : k ≤ l.length) : Rd w 1 encI (.slice (if c = k then some ⟨g, 0, none⟩ else some ⟨g, k, none⟩) (l.length - k) (c - k)) (l.drop k) := by
  obtain ⟨a', c', e, h1, h2, h3⟩ := h
  cases e
  refine ⟨_, _, by rw [List.length_drop], by rw [List.length_drop]; omega, by rw [List.length_drop]; omega, fun i x hi => ?_⟩
  rw [List.getElem?_drop] at hi
  have hlt := (List.getElem?_eq_some_iff.1 hi).1
  obtain ⟨b, off, hb, h4⟩ := h3 _ _ hi
  cases hb
  refine ⟨g, k, by rw [if_neg (by omega)], fun j u hu => ?_⟩
  have := h4 j u hu
  rwa [show 0 + (k + i) * 1 + j = k + i * 1 + j by omega] at this
theorem OwW.rdI {w : World} {e : TypeId} {v : Value} {l : List Int} (h : OwW w e 1 v l.length (l.map (Value.int .i64))) : Rd w 1 encI v l := by
  obtain ⟨ao, co, e1, h1, h2, h3⟩ := h.form
  refine ⟨ao, co, e1, h1, h2, fun i x hi => ?_⟩
  rw [flatMap_encI'] at h
  obtain ⟨g, cap, e2, h4, h5⟩ := h.cell (enc := encI) (fun _ => rfl) hi
  rw [e1] at e2
  cases e2
  exact ⟨g, 0, rfl, fun j u hu => by rw [Nat.zero_add]; exact h5 j u hu⟩

/-- While the open ones are laid in their order. -/
structure RoI (w wr : World) (o : Value) (ys : List Int) : Prop where
  own : OwW wr 3 1 o ys.length (ys.map (Value.int .i64))
  ge : ∀ k, OwnB o k → w.heap.size ≤ k
  chg : Chg NoB w wr
theorem RoI.keep {w wr w' : World} {o : Value} {ys : List Int} (h : RoI w wr o ys) (hc : Chg NoB wr w') : RoI w w' o ys := ⟨h.own.keep hc (fun _ _ => nob), h.ge, h.chg.trans' hc⟩

set_option maxRecDepth 100000 in
theorem rOpen_calls (w0 : World) (p : Nat) (pv lv : Value) (P : List Pg) (L : List Ent) (w : World) (h : RfAt w0 w p pv lv P L) (hl : L.length ≤ 1000000) (res : List Int) (hres : Hid (res = ((rowsS L).map (·.1)).foldl insI [])) :
    Calls Try.prog 17 #[.pointer (some ⟨p, 0, none⟩)] w fun e w' => ∃ vo, e = .returned vo ∧ Hid (OwW w' 3 1 vo res.length (res.map (Value.int .i64))) ∧ Hid (∀ k, OwnB vo k → w.heap.size ≤ k) ∧ Hid (Chg NoB w w') := by
  obtain ⟨R, hR⟩ := named (rowsS L)
  have hRl : R.length ≤ L.length := by rw [hR.out]; exact rowsS_len L
  rw [← hR.out] at hres
  have HH := hid h
  clear h
  go_enter Try.func17, Try.ntmps17
  go_wp2_with (go_at_call 32; refine (rRows_calls w0 p pv lv P L _ HH.out hl R hR).mono ?_; rintro e w1 ⟨vo, rfl, hO, hc⟩; obtain ⟨ar, cr, rfl⟩ := ownsForm hO.out)
  obtain ⟨_, _, ee, hr1, hr2, hrd⟩ := Rd.of_own (l := R) (enc := encRw) (size := 3) (fun _ => rfl) hO.out
  cases ee
  have HRD := hid hrd
  unfold maxLen at hr2
  clear hrd hO
  go_loopw [3, 5] (fun o i wr => ∃ k : Nat, k ≤ R.length ∧ i = .int .i64 k ∧ Hid (RoI w1 wr o (((R.take k).map (·.1)).foldl insI []))) (fun _ i _ => R.length - (intOf i).toNat)
  case atStart => exact ⟨0, by omega, rfl, hid ⟨OwW.nil, by simp [OwnB, Value.ownBlock], Chg.refl _ _⟩⟩
  case round =>
    obtain ⟨k, hk, rfl, hI⟩ := hrel
    obtain ⟨ys, hys⟩ := named (((R.take k).map (·.1)).foldl insI [])
    rw [← hys.out] at hI
    obtain ⟨ao, co, rfl, hco, hco2, hco3⟩ := hI.out.own.form
    unfold maxLen at hco2 hco3
    have hyl : Hid (ys.length = k) := hid (by rw [hys.out, foldl_ins_len]; simp; omega)
    by_cases hlt : k < R.length
    · obtain ⟨rb, ro, rfl, hrc⟩ := Rd.cells HRD.out hI.out.chg k hlt
      obtain ⟨x, hx⟩ := named R[k].1
      have r0 : wr.cell? ⟨rb, ro + k * 3, none⟩ = some (.int .i64 x) := by rw [hx.out]; exact hrc 0 _ rfl
      have hnext : Hid (((R.take (k + 1)).map (·.1)).foldl insI [] = insI ys x) := hid (by rw [take_snoc' hlt, List.map_append, List.foldl_append, ← hys.out, hx.out]; rfl)
      have R0 := hid r0
      have hrbl : rb < w1.heap.size := World.block_lt_of_cell? _ _ (HRD.out k _ (List.getElem?_eq_getElem hlt) |> fun ⟨b, off, e, h⟩ => by cases e; exact h 0 _ rfl : w1.cell? ⟨rb, ro + k * 3 + 0, none⟩ = some _)
      clear hrc r0 hys
      go_wp2_with fail
      obtain ⟨wA, hwA⟩ := named wr
      rw [← hwA.out] at hI R0 ⊢
      clear hwA
      go_loopw [6] (fun s6 wr => ∃ a : Nat, a ≤ insAt ys x ∧ s6 = .int .i64 a ∧ Hid (Chg NoB wA wr)) (fun i _ => ys.length - (intOf i).toNat)
      case atStart => exact ⟨0, by omega, rfl, Chg.refl _ _⟩
      case round =>
        obtain ⟨a, ha, rfl, hcA⟩ := hrel
        have hal := insAt_le ys x
        have hJ := hid (hI.out.keep hcA.out)
        have r0 := hcA.out.cell R0.out nob
        by_cases hlx : a < insAt ys x
        · obtain ⟨ha2, hax⟩ := insAt_lt hlx
          have hJo := hJ.out.own
          rw [flatMap_encI'] at hJo
          obtain ⟨g, cap, e2, h4, h5⟩ := hJo.cell (enc := encI) (fun _ => rfl) (List.getElem?_eq_getElem ha2)
          cases e2
          have y0 := h5 0 _ rfl
          simp only [Nat.mul_one, Nat.add_zero] at y0
          have hli : (a : Int) < (ys.length : Int) := by omega
          have ha0 : (0 : Int) ≤ (a : Int) := by omega
          have hk0 : (0 : Int) ≤ (k : Int) := by omega
          have hk1 : (k : Int) < (R.length : Int) := by omega
          obtain ⟨z, hz⟩ := named ys[a]
          rw [← hz.out] at y0 hax
          clear h5 hJo
          go_upto_region 7 with fail
          refine wp_region_ord 16 (.rd 0 (.rd 1 (.rd 2 (.rd 3 (.rd 4 (.rd 5 (.rd 6 (.rd 7 (.rd 8 (.rd 9 (.rd 10 (.rd 11 (.rd 12 (.rd 13 (.rd 14 (.rd 15 (.done))))))))))))))))) (Same wr) (by kernel_rfl) (by kernel_rfl) (by kernel_rfl) (by kernel_rfl) (by kernel_rfl) (fun _ _ d _ _ h => by cases d <;> exact h) (Same.of (Chg.refl _ _).drew) (fun hS0 => ?_)
          refine wpOrd_rd rfl rfl (by first | decide | simp) (by assumption) (fun w' hw' K hK => by ((try unfold Same at hw'); (try go_split_ands); go_simp; exact hK)) ?_
          refine wpOrd_rd rfl rfl (by first | decide | simp) (by assumption) (fun w' hw' K hK => by ((try unfold Same at hw'); (try go_split_ands); go_simp; exact hK)) ?_
          refine wpOrd_rd rfl rfl (by first | decide | simp) (by assumption) (fun w' hw' K hK => by ((try unfold Same at hw'); (try go_split_ands); go_simp; exact hK)) ?_
          refine wpOrd_rd rfl rfl (by first | decide | simp) (by assumption) (fun w' hw' K hK => by ((try unfold Same at hw'); (try go_split_ands); go_simp; exact hK)) ?_
          refine wpOrd_rd rfl rfl (by first | decide | simp) (by assumption) (fun w' hw' K hK => by ((try unfold Same at hw'); (try go_split_ands); go_simp; exact hK)) ?_
          refine wpOrd_rd rfl rfl (by first | decide | simp) (by assumption) (fun w' hw' K hK => by ((try unfold Same at hw'); (try go_split_ands); go_simp; exact hK)) ?_
          refine wpOrd_rd rfl rfl (by first | decide | simp) (by assumption) (fun w' hw' K hK => by ((try unfold Same at hw'); (try go_split_ands); go_simp; exact hK)) ?_
          refine wpOrd_rd rfl rfl (by first | decide | simp) (by assumption) (fun w' hw' K hK => by ((try unfold Same at hw'); (try go_split_ands); go_simp; exact hK)) ?_
          refine wpOrd_rd rfl rfl (by first | decide | simp) (by assumption) (fun w' hw' K hK => by ((try unfold Same at hw'); (try go_split_ands); go_simp; exact hK)) ?_
          refine wpOrd_rd rfl rfl (by first | decide | simp) (by assumption) (fun w' hw' K hK => by ((try unfold Same at hw'); (try go_split_ands); go_simp; exact hK)) ?_
          refine wpOrd_rd rfl rfl (by first | decide | simp) (by assumption) (fun w' hw' K hK => by ((try unfold Same at hw'); (try go_split_ands); go_simp; exact hK)) ?_
          refine wpOrd_rd rfl rfl (by first | decide | simp) (by assumption) (fun w' hw' K hK => by ((try unfold Same at hw'); (try go_split_ands); go_simp; exact hK)) ?_
          refine wpOrd_rd rfl rfl (by first | decide | simp) (by assumption) (fun w' hw' K hK => by ((try unfold Same at hw'); (try go_split_ands); go_simp; exact hK)) ?_
          refine wpOrd_rd rfl rfl (by first | decide | simp) (by assumption) (fun w' hw' K hK => by ((try unfold Same at hw'); (try go_split_ands); go_simp; exact hK)) ?_
          refine wpOrd_rd rfl rfl (by first | decide | simp) (by assumption) (fun w' hw' K hK => by ((try unfold Same at hw'); (try go_split_ands); go_simp; exact hK)) ?_
          refine wpOrd_rd rfl rfl (by first | decide | simp) (by assumption) (fun w' hw' K hK => by ((try unfold Same at hw'); (try go_split_ands); go_simp; exact hK)) ?_
          refine wpOrd_nil ?_
          clear y0 r0 hS0
          go_wp2_with fail
          go_roundw
          case rel => exact ⟨a + 1, by omega, by go_num, hid hcA.out.drew⟩
          case measure => simp [intOf]; omega
        · have hae : a = insAt ys x := by omega
          have hins : Hid (insI ys x = ys.take a ++ [x] ++ ys.drop a) := hid (by rw [hae]; rfl)
          have hst : a < ys.length → ¬ ys.getD a 0 < x := fun h => by
            subst hae
            rw [List.getD_eq_getElem?_getD, List.getElem?_eq_getElem h]
            exact insAt_stop h
          have hal : a ≤ ys.length := by omega
          have hy6 : ys.length ≤ 1000000 := by have := hyl.out; omega
          clear hae hlx ha
          rcases hJ.out.own.2 with ⟨e2, h0⟩ | ⟨g, cap, cur, e2, hg, hgc, hgm, hgs, hgt⟩
          · have hy0 : ys.length = 0 := h0
            have ha0 : a = 0 := by omega
            subst ha0
            have hd0 : ys.drop 0 = [] := by rw [List.drop_zero]; exact List.eq_nil_of_length_eq_zero h0
            have ht0 : ys.take 0 = [] := rfl
            have htl : Hid (Rd wr 1 encI (.slice none 0 0) (ys.drop 0)) := hid ⟨none, 0, by rw [hd0]; rfl, by rw [hd0]; simp, by rw [hd0]; simp, fun i x hi => by rw [hd0] at hi; simp at hi⟩
            have hct : Hid (OwW wr 3 1 (.slice none 0 0) 0 ((ys.take 0).map (Value.int .i64))) := hid OwW.nil
            have HY := hid hy0
            rw [e2] at hJ ⊢
            clear hst hd0 ht0 hy0 h0 e2 hI
            go_upto_region 7 with fail
            refine wp_region_ord 16 (.rd 0 (.rd 1 (.rd 2 (.rd 3 (.rd 4 (.rd 5 (.rd 6 (.rd 7 (.rd 8 (.rd 9 (.rd 10 (.rd 11 (.rd 12 (.rd 13 (.rd 14 (.rd 15 (.done))))))))))))))))) (Same wr) (by kernel_rfl) (by kernel_rfl) (by kernel_rfl) (by kernel_rfl) (by kernel_rfl) (fun _ _ d _ _ h => by cases d <;> exact h) (Same.of (Chg.refl _ _).drew) (fun hS0 => ?_)
            refine wpOrd_rd rfl rfl (by first | decide | simp) (by assumption) (fun w' hw' K hK => by ((try unfold Same at hw'); (try go_split_ands); go_simp; exact hK)) ?_
            refine wpOrd_rd rfl rfl (by first | decide | simp) (by assumption) (fun w' hw' K hK => by ((try unfold Same at hw'); (try go_split_ands); go_simp; exact hK)) ?_
            refine wpOrd_rd rfl rfl (by first | decide | simp) (by assumption) (fun w' hw' K hK => by ((try unfold Same at hw'); (try go_split_ands); go_simp; exact hK)) ?_
            refine wpOrd_rd rfl rfl (by first | decide | simp) (by assumption) (fun w' hw' K hK => by ((try unfold Same at hw'); (try go_split_ands); go_simp; exact hK)) ?_
            refine wpOrd_rd rfl rfl (by first | decide | simp) (by assumption) (fun w' hw' K hK => by ((try unfold Same at hw'); (try go_split_ands); go_simp; exact hK)) ?_
            refine wpOrd_rd rfl rfl (by first | decide | simp) (by assumption) (fun w' hw' K hK => by ((try unfold Same at hw'); (try go_split_ands); go_simp; exact hK)) ?_
            refine wpOrd_rd rfl rfl (by first | decide | simp) (by assumption) (fun w' hw' K hK => by ((try unfold Same at hw'); (try go_split_ands); go_simp; exact hK)) ?_
            refine wpOrd_rd rfl rfl (by first | decide | simp) (by assumption) (fun w' hw' K hK => by ((try unfold Same at hw'); (try go_split_ands); go_simp; exact hK)) ?_
            refine wpOrd_rd rfl rfl (by first | decide | simp) (by assumption) (fun w' hw' K hK => by ((try unfold Same at hw'); (try go_split_ands); go_simp; exact hK)) ?_
            refine wpOrd_rd rfl rfl (by first | decide | simp) (by assumption) (fun w' hw' K hK => by ((try unfold Same at hw'); (try go_split_ands); go_simp; exact hK)) ?_
            refine wpOrd_rd rfl rfl (by first | decide | simp) (by assumption) (fun w' hw' K hK => by ((try unfold Same at hw'); (try go_split_ands); go_simp; exact hK)) ?_
            refine wpOrd_rd rfl rfl (by first | decide | simp) (by assumption) (fun w' hw' K hK => by ((try unfold Same at hw'); (try go_split_ands); go_simp; exact hK)) ?_
            refine wpOrd_rd rfl rfl (by first | decide | simp) (by assumption) (fun w' hw' K hK => by ((try unfold Same at hw'); (try go_split_ands); go_simp; exact hK)) ?_
            refine wpOrd_rd rfl rfl (by first | decide | simp) (by assumption) (fun w' hw' K hK => by ((try unfold Same at hw'); (try go_split_ands); go_simp; exact hK)) ?_
            refine wpOrd_rd rfl rfl (by first | decide | simp) (by assumption) (fun w' hw' K hK => by ((try unfold Same at hw'); (try go_split_ands); go_simp; exact hK)) ?_
            refine wpOrd_rd rfl rfl (by first | decide | simp) (by assumption) (fun w' hw' K hK => by ((try unfold Same at hw'); (try go_split_ands); go_simp; exact hK)) ?_
            refine wpOrd_nil ?_
            clear hS0
            go_upto_region 9 with fail
            refine wp_gen (fun W => Chg NoB wr W) (Chg.refl _ _).drew ?_
            rintro W hW
            have hJ := hid (hJ.out.keep hW)
            have r0 := hW.cell r0 nob
            have htl := hid (htl.out.mono hW)
            have hct := hid (hct.out.keep hW (fun _ _ => nob))
            go_upto_region 10 with (at_builtin; refine step_appR slInt rfl _ _ rfl (n := 0) (xs := []) (v := .slice (some ⟨W.heap.size, 0, none⟩) 0 0) ⟨rfl, .inr ⟨W.heap.size, 0, _, rfl, blk_new _ _, Nat.le_refl _, by simp [maxLen], by simp, by simp⟩⟩ rfl (enc := encI) (fun _ => rfl) (by simp [encI, Value.oneCell']) (l2 := ys.drop 0) (htl.out.mono ((Chg.refl _ _).alloc _)) rfl (by simp; omega) (by simp [maxLen]; omega) ?_; intro v5 w5 ho5 hc5 hn5)
            have hown5 : ∀ j, OwnB (.slice (some ⟨W.heap.size, 0, none⟩) 0 0) j → j = W.heap.size := fun j hj => by simpa [OwnB, Value.ownBlock, eq_comm] using hj
            have hC5 : Chg NoB W w5 := ((Chg.refl NoB W).alloc _).new hc5 (fun j hj => by have := hown5 j hj; omega)
            have hv5 : ∀ j, OwnB v5 j → W.heap.size ≤ j := fun j hj => by
              rcases hn5 j hj with h1 | h1
              · have := hown5 j h1; omega
              · simp at h1; omega
            simp only [Nat.zero_add, List.nil_append] at ho5
            have hJ5 := hid (hJ.out.keep hC5)
            have hct5 := hid (hct.out.keep hC5 (fun _ _ => nob))
            have hfp : Hid (∀ j, OwnB (.slice none 0 0) j → w1.heap.size ≤ j ∧ j < W.heap.size) := hid (fun j hj => ⟨hJ.out.ge j (by simpa [OwnB, Value.ownBlock] using hj), hct.out.lt hj⟩)
            have R5 := hC5.cell r0 nob
            have HO5 := hid ho5
            have hV5 := hid hv5
            have hk0 : (0 : Int) ≤ (k : Int) := by omega
            have hk1 : (k : Int) < (R.length : Int) := by omega
            have hdl : (ys.drop 0).length = ys.length - 0 := List.length_drop
            clear hc5 hn5 hown5 hv5 ho5 r0
            refine wp_region_ord 14 (.rd 0 (.rd 1 (.rd 2 (.rd 3 (.rd 4 (.rd 5 (.rd 6 (.rd 7 (.rd 8 (.rd 11 (.one 9 (.one 10 (.one 12 (.rd 13 (.done))))))))))))))) (fun w' => w'.cell? ⟨rb, ro + k * 3, none⟩ = some (.int .i64 x)) (by kernel_rfl) (by kernel_rfl) (by kernel_rfl) (by kernel_rfl) (by kernel_rfl) (fun _ _ d _ _ h => by cases d <;> exact h) (R5) (fun hS0 => ?_)
            refine wpOrd_rd rfl rfl (by first | decide | simp) (by assumption) (fun w' hw' K hK => by ((try unfold Same at hw'); (try go_split_ands); go_simp; exact hK)) ?_
            refine wpOrd_rd rfl rfl (by first | decide | simp) (by assumption) (fun w' hw' K hK => by ((try unfold Same at hw'); (try go_split_ands); go_simp; exact hK)) ?_
            refine wpOrd_rd rfl rfl (by first | decide | simp) (by assumption) (fun w' hw' K hK => by ((try unfold Same at hw'); (try go_split_ands); go_simp; exact hK)) ?_
            refine wpOrd_rd rfl rfl (by first | decide | simp) (by assumption) (fun w' hw' K hK => by ((try unfold Same at hw'); (try go_split_ands); go_simp; exact hK)) ?_
            refine wpOrd_rd rfl rfl (by first | decide | simp) (by assumption) (fun w' hw' K hK => by ((try unfold Same at hw'); (try go_split_ands); go_simp; exact hK)) ?_
            refine wpOrd_rd rfl rfl (by first | decide | simp) (by assumption) (fun w' hw' K hK => by ((try unfold Same at hw'); (try go_split_ands); go_simp; exact hK)) ?_
            refine wpOrd_rd rfl rfl (by first | decide | simp) (by assumption) (fun w' hw' K hK => by ((try unfold Same at hw'); (try go_split_ands); go_simp; exact hK)) ?_
            refine wpOrd_rd rfl rfl (by first | decide | simp) (by assumption) (fun w' hw' K hK => by ((try unfold Same at hw'); (try go_split_ands); go_simp; exact hK)) ?_
            refine wpOrd_rd rfl rfl (by first | decide | simp) (by assumption) (fun w' hw' K hK => by ((try unfold Same at hw'); (try go_split_ands); go_simp; exact hK)) ?_
            refine wpOrd_rd rfl rfl (by first | decide | simp) (by assumption) (fun w' hw' K hK => by ((try unfold Same at hw'); (try go_split_ands); go_simp; exact hK)) ?_
            refine wpOrd_do rfl ?_
            (first | refine wpList_plain rfl (fun K hK => ?_) | refine wpList_step (fun K hK => ?_))
            go_simp
            refine hK _ _ ?_
            clear hK K
            (try dsimp only [Act.put])
            refine wpOrd_done (((Chg.refl NoB w5).drew.alloc _).cell R5 nob) (fun hS1 => ?_)
            refine wpOrd_do rfl ?_
            refine step_appW slInt rfl _ _ rfl (hct5.out.keep ((Chg.refl NoB w5).drew.alloc _) (fun _ _ => nob)) rfl ⟨w5.heap.size, 0, none⟩ 1 1 [.int .i64 x] rfl rfl (newsB (blk_new _ _)) (by simp [Value.oneCell']) (by omega) (by unfold maxLen; omega) ?_; intro v6 w6 ho6 hc6 hn6
            (try dsimp only [Act.put])
            (try simp only [List.setIfInBounds_toArray, List.set_cons_zero, List.set_cons_succ])
            refine wpOrd_done (hc6.cell (((Chg.refl NoB w5).drew.alloc _).cell R5 nob) (fun h => by have := (hfp.out rb h).1; omega)) (fun hS2 => ?_)
            refine wpOrd_do rfl ?_
            refine step_appR slInt rfl _ _ rfl ho6 rfl (enc := encI) (fun _ => rfl) (by simp [encI, Value.oneCell']) (l2 := ys.drop 0) ((OwW.rdI (l := ys.drop 0) (by rw [flatMap_encI']; exact HO5.out)).keep (((Chg.refl NoB w5).drew.alloc _ |>.mono fun _ e => e.elim).trans' hc6) (fun b _ hb hO => by obtain ⟨n9, c9, e9⟩ := hb; have h1 := hV5.out b ((congrArg (fun z => OwnB z b) (show v5 = _ from e9)).mpr (by simp [OwnB, Value.ownBlock])); have h2 := (hfp.out _ hO).2; omega)) rfl (by omega) (by unfold maxLen; omega) ?_; intro v7 w7 ho7 hc7 hn7
            (try dsimp only [Act.put])
            (try simp only [List.setIfInBounds_toArray, List.set_cons_zero, List.set_cons_succ])
            refine wpOrd_done (hc7.cell (hc6.cell (((Chg.refl NoB w5).drew.alloc _).cell R5 nob) (fun h => by have := (hfp.out rb h).1; omega)) (fun h => (hn6 rb h).elim (fun h1 => by have := (hfp.out rb h1).1; omega) (fun h1 => by have hz := hJ5.out.chg.size; simp at h1; omega))) (fun hS3 => ?_)
            refine wpOrd_rd rfl rfl (by first | decide | simp) (by assumption) (fun w' hw' K hK => by ((try unfold Same at hw'); (try go_split_ands); go_simp; exact hK)) ?_
            refine wpOrd_nil ?_
            have hc56 : Chg NoB w1 w7 := by
              have g1 := hJ5.out.chg.trans (((Chg.refl NoB w5).drew.alloc (.cells #[.int .i64 x] 3) |>.mono fun _ e => e.elim).trans' hc6) (fun j hj => .inr (hfp.out j hj).1)
              refine g1.trans hc7 (fun j hj => Or.inr ?_)
              rcases hn6 j hj with h1 | h1
              · exact (hfp.out j h1).1
              · have hz := hJ5.out.chg.size; simp at h1; omega
            have HN : Hid (RoI w1 w7 v7 (insI ys x)) := hid ⟨by
                have e1 : 0 + 1 + (ys.drop 0).length = (insI ys x).length := by rw [hins.out]; simp; omega
                rw [← e1, hins.out]
                simpa [flatMap_encI] using ho7, fun j hj => by
                have hz := hJ5.out.chg.size
                rcases hn7 j hj with h1 | h1
                · rcases hn6 j h1 with h2 | h2
                  · exact (hfp.out j h2).1
                  · simp at h2; omega
                · have hz2 := hc6.size; simp at hz2; omega, hc56⟩
            clear hc6 hc7 hn6 hn7 ho6 ho7 hc56 R5 hS0 hS1 hS2 hS3
            go_wp2_with fail
            go_roundw
            case rel => exact ⟨k + 1, by omega, by go_num, hid (by rw [hnext.out]; exact HN.out)⟩
            case measure => simp [intOf]; omega
          · cases e2
            have htl := hid (Rd.tailI (hJ.out.own.rdI) a hal)
            have hct := hid (show OwW wr 3 1 (.slice (some ⟨g, 0, none⟩) a a) a ((ys.take a).map (Value.int .i64)) by have := hJ.out.own.cut a hal; rwa [Nat.mul_one, ← List.map_take] at this)
            clear hg hgc hgm hgs hgt
            have ha0 : (0 : Int) ≤ (a : Int) := by omega
            have han : (a : Int) ≤ (ys.length : Int) := by omega
            have hac : (a : Int) ≤ (co : Int) := by omega
            have hnc : (ys.length : Int) ≤ (co : Int) := by omega
            by_cases hl1 : a < ys.length
            · have hl2 := hst hl1
              have htl : Hid (Rd wr 1 encI (.slice (some ⟨g, a, none⟩) (ys.length - a) (co - a)) (ys.drop a)) := hid (by have := htl.out; rwa [if_neg (show ¬ co = a by omega)] at this)
              have hJo := hJ.out.own
              rw [flatMap_encI'] at hJo
              obtain ⟨g', cap', e2, h4, h5⟩ := hJo.cell (enc := encI) (fun _ => rfl) (List.getElem?_eq_getElem hl1)
              cases e2
              have y0 := h5 0 _ rfl
              simp only [Nat.mul_one, Nat.add_zero] at y0
              rw [List.getD_eq_getElem?_getD, List.getElem?_eq_getElem hl1, Option.getD_some] at hl2
              obtain ⟨z, hz⟩ := named ys[a]
              rw [← hz.out] at y0 hl2
              have hzx : decide (z < x) = false := decide_eq_false hl2
              have hk0 : (0 : Int) ≤ (k : Int) := by omega
              have hk1 : (k : Int) < (R.length : Int) := by omega
              clear h5 hJo hst hl2
              go_upto_region 7 with fail
              refine wp_region_ord 16 (.rd 0 (.rd 1 (.rd 2 (.rd 3 (.rd 4 (.rd 5 (.rd 6 (.rd 7 (.rd 8 (.rd 9 (.rd 10 (.rd 11 (.rd 12 (.rd 13 (.rd 14 (.rd 15 (.done))))))))))))))))) (Same wr) (by kernel_rfl) (by kernel_rfl) (by kernel_rfl) (by kernel_rfl) (by kernel_rfl) (fun _ _ d _ _ h => by cases d <;> exact h) (Same.of (Chg.refl _ _).drew) (fun hS0 => ?_)
              refine wpOrd_rd rfl rfl (by first | decide | simp) (by assumption) (fun w' hw' K hK => by ((try unfold Same at hw'); (try go_split_ands); go_simp; exact hK)) ?_
              refine wpOrd_rd rfl rfl (by first | decide | simp) (by assumption) (fun w' hw' K hK => by ((try unfold Same at hw'); (try go_split_ands); go_simp; exact hK)) ?_
              refine wpOrd_rd rfl rfl (by first | decide | simp) (by assumption) (fun w' hw' K hK => by ((try unfold Same at hw'); (try go_split_ands); go_simp; exact hK)) ?_
              refine wpOrd_rd rfl rfl (by first | decide | simp) (by assumption) (fun w' hw' K hK => by ((try unfold Same at hw'); (try go_split_ands); go_simp; exact hK)) ?_
              refine wpOrd_rd rfl rfl (by first | decide | simp) (by assumption) (fun w' hw' K hK => by ((try unfold Same at hw'); (try go_split_ands); go_simp; exact hK)) ?_
              refine wpOrd_rd rfl rfl (by first | decide | simp) (by assumption) (fun w' hw' K hK => by ((try unfold Same at hw'); (try go_split_ands); go_simp; exact hK)) ?_
              refine wpOrd_rd rfl rfl (by first | decide | simp) (by assumption) (fun w' hw' K hK => by ((try unfold Same at hw'); (try go_split_ands); go_simp; exact hK)) ?_
              refine wpOrd_rd rfl rfl (by first | decide | simp) (by assumption) (fun w' hw' K hK => by ((try unfold Same at hw'); (try go_split_ands); go_simp; exact hK)) ?_
              refine wpOrd_rd rfl rfl (by first | decide | simp) (by assumption) (fun w' hw' K hK => by ((try unfold Same at hw'); (try go_split_ands); go_simp; exact hK)) ?_
              refine wpOrd_rd rfl rfl (by first | decide | simp) (by assumption) (fun w' hw' K hK => by ((try unfold Same at hw'); (try go_split_ands); go_simp; exact hK)) ?_
              refine wpOrd_rd rfl rfl (by first | decide | simp) (by assumption) (fun w' hw' K hK => by ((try unfold Same at hw'); (try go_split_ands); go_simp; exact hK)) ?_
              refine wpOrd_rd rfl rfl (by first | decide | simp) (by assumption) (fun w' hw' K hK => by ((try unfold Same at hw'); (try go_split_ands); go_simp; exact hK)) ?_
              refine wpOrd_rd rfl rfl (by first | decide | simp) (by assumption) (fun w' hw' K hK => by ((try unfold Same at hw'); (try go_split_ands); go_simp; exact hK)) ?_
              refine wpOrd_rd rfl rfl (by first | decide | simp) (by assumption) (fun w' hw' K hK => by ((try unfold Same at hw'); (try go_split_ands); go_simp; exact hK)) ?_
              refine wpOrd_rd rfl rfl (by first | decide | simp) (by assumption) (fun w' hw' K hK => by ((try unfold Same at hw'); (try go_split_ands); go_simp; exact hK)) ?_
              refine wpOrd_rd rfl rfl (by first | decide | simp) (by assumption) (fun w' hw' K hK => by ((try unfold Same at hw'); (try go_split_ands); go_simp; exact hK)) ?_
              refine wpOrd_nil ?_
              clear y0 hk0 hk1
              clear hS0
              go_upto_region 9 with fail
              refine wp_gen (fun W => Chg NoB wr W) (Chg.refl _ _).drew ?_
              rintro W hW
              have hJ := hid (hJ.out.keep hW)
              have r0 := hW.cell r0 nob
              have htl := hid (htl.out.mono hW)
              have hct := hid (hct.out.keep hW (fun _ _ => nob))
              go_upto_region 10 with (at_builtin; refine step_appR slInt rfl _ _ rfl (n := 0) (xs := []) (v := .slice (some ⟨W.heap.size, 0, none⟩) 0 0) ⟨rfl, .inr ⟨W.heap.size, 0, _, rfl, blk_new _ _, Nat.le_refl _, by simp [maxLen], by simp, by simp⟩⟩ rfl (enc := encI) (fun _ => rfl) (by simp [encI, Value.oneCell']) (l2 := ys.drop a) (htl.out.mono ((Chg.refl _ _).alloc _)) rfl (by simp; omega) (by simp [maxLen]; omega) ?_; intro v5 w5 ho5 hc5 hn5)
              have hown5 : ∀ j, OwnB (.slice (some ⟨W.heap.size, 0, none⟩) 0 0) j → j = W.heap.size := fun j hj => by simpa [OwnB, Value.ownBlock, eq_comm] using hj
              have hC5 : Chg NoB W w5 := ((Chg.refl NoB W).alloc _).new hc5 (fun j hj => by have := hown5 j hj; omega)
              have hv5 : ∀ j, OwnB v5 j → W.heap.size ≤ j := fun j hj => by
                rcases hn5 j hj with h1 | h1
                · have := hown5 j h1; omega
                · simp at h1; omega
              simp only [Nat.zero_add, List.nil_append] at ho5
              have hJ5 := hid (hJ.out.keep hC5)
              have hct5 := hid (hct.out.keep hC5 (fun _ _ => nob))
              have hfp : Hid (∀ j, OwnB (.slice (some ⟨g, 0, none⟩) a a) j → w1.heap.size ≤ j ∧ j < W.heap.size) := hid (fun j hj => ⟨hJ.out.ge j (by simpa [OwnB, Value.ownBlock] using hj), hct.out.lt hj⟩)
              have R5 := hC5.cell r0 nob
              have HO5 := hid ho5
              have hV5 := hid hv5
              have hk0 : (0 : Int) ≤ (k : Int) := by omega
              have hk1 : (k : Int) < (R.length : Int) := by omega
              have hdl : (ys.drop a).length = ys.length - a := List.length_drop
              clear hc5 hn5 hown5 hv5 ho5 r0
              refine wp_region_ord 14 (.rd 0 (.rd 1 (.rd 2 (.rd 3 (.rd 4 (.rd 5 (.rd 6 (.rd 7 (.rd 8 (.rd 11 (.one 9 (.one 10 (.one 12 (.rd 13 (.done))))))))))))))) (fun w' => w'.cell? ⟨rb, ro + k * 3, none⟩ = some (.int .i64 x)) (by kernel_rfl) (by kernel_rfl) (by kernel_rfl) (by kernel_rfl) (by kernel_rfl) (fun _ _ d _ _ h => by cases d <;> exact h) (R5) (fun hS0 => ?_)
              refine wpOrd_rd rfl rfl (by first | decide | simp) (by assumption) (fun w' hw' K hK => by ((try unfold Same at hw'); (try go_split_ands); go_simp; exact hK)) ?_
              refine wpOrd_rd rfl rfl (by first | decide | simp) (by assumption) (fun w' hw' K hK => by ((try unfold Same at hw'); (try go_split_ands); go_simp; exact hK)) ?_
              refine wpOrd_rd rfl rfl (by first | decide | simp) (by assumption) (fun w' hw' K hK => by ((try unfold Same at hw'); (try go_split_ands); go_simp; exact hK)) ?_
              refine wpOrd_rd rfl rfl (by first | decide | simp) (by assumption) (fun w' hw' K hK => by ((try unfold Same at hw'); (try go_split_ands); go_simp; exact hK)) ?_
              refine wpOrd_rd rfl rfl (by first | decide | simp) (by assumption) (fun w' hw' K hK => by ((try unfold Same at hw'); (try go_split_ands); go_simp; exact hK)) ?_
              refine wpOrd_rd rfl rfl (by first | decide | simp) (by assumption) (fun w' hw' K hK => by ((try unfold Same at hw'); (try go_split_ands); go_simp; exact hK)) ?_
              refine wpOrd_rd rfl rfl (by first | decide | simp) (by assumption) (fun w' hw' K hK => by ((try unfold Same at hw'); (try go_split_ands); go_simp; exact hK)) ?_
              refine wpOrd_rd rfl rfl (by first | decide | simp) (by assumption) (fun w' hw' K hK => by ((try unfold Same at hw'); (try go_split_ands); go_simp; exact hK)) ?_
              refine wpOrd_rd rfl rfl (by first | decide | simp) (by assumption) (fun w' hw' K hK => by ((try unfold Same at hw'); (try go_split_ands); go_simp; exact hK)) ?_
              refine wpOrd_rd rfl rfl (by first | decide | simp) (by assumption) (fun w' hw' K hK => by ((try unfold Same at hw'); (try go_split_ands); go_simp; exact hK)) ?_
              refine wpOrd_do rfl ?_
              (first | refine wpList_plain rfl (fun K hK => ?_) | refine wpList_step (fun K hK => ?_))
              go_simp
              refine hK _ _ ?_
              clear hK K
              (try dsimp only [Act.put])
              refine wpOrd_done (((Chg.refl NoB w5).drew.alloc _).cell R5 nob) (fun hS1 => ?_)
              refine wpOrd_do rfl ?_
              refine step_appW slInt rfl _ _ rfl (hct5.out.keep ((Chg.refl NoB w5).drew.alloc _) (fun _ _ => nob)) rfl ⟨w5.heap.size, 0, none⟩ 1 1 [.int .i64 x] rfl rfl (newsB (blk_new _ _)) (by simp [Value.oneCell']) (by omega) (by unfold maxLen; omega) ?_; intro v6 w6 ho6 hc6 hn6
              (try dsimp only [Act.put])
              (try simp only [List.setIfInBounds_toArray, List.set_cons_zero, List.set_cons_succ])
              refine wpOrd_done (hc6.cell (((Chg.refl NoB w5).drew.alloc _).cell R5 nob) (fun h => by have := (hfp.out rb h).1; omega)) (fun hS2 => ?_)
              refine wpOrd_do rfl ?_
              refine step_appR slInt rfl _ _ rfl ho6 rfl (enc := encI) (fun _ => rfl) (by simp [encI, Value.oneCell']) (l2 := ys.drop a) ((OwW.rdI (l := ys.drop a) (by rw [flatMap_encI']; exact HO5.out)).keep (((Chg.refl NoB w5).drew.alloc _ |>.mono fun _ e => e.elim).trans' hc6) (fun b _ hb hO => by obtain ⟨n9, c9, e9⟩ := hb; have h1 := hV5.out b ((congrArg (fun z => OwnB z b) (show v5 = _ from e9)).mpr (by simp [OwnB, Value.ownBlock])); have h2 := (hfp.out _ hO).2; omega)) rfl (by omega) (by unfold maxLen; omega) ?_; intro v7 w7 ho7 hc7 hn7
              (try dsimp only [Act.put])
              (try simp only [List.setIfInBounds_toArray, List.set_cons_zero, List.set_cons_succ])
              refine wpOrd_done (hc7.cell (hc6.cell (((Chg.refl NoB w5).drew.alloc _).cell R5 nob) (fun h => by have := (hfp.out rb h).1; omega)) (fun h => (hn6 rb h).elim (fun h1 => by have := (hfp.out rb h1).1; omega) (fun h1 => by have hz := hJ5.out.chg.size; simp at h1; omega))) (fun hS3 => ?_)
              refine wpOrd_rd rfl rfl (by first | decide | simp) (by assumption) (fun w' hw' K hK => by ((try unfold Same at hw'); (try go_split_ands); go_simp; exact hK)) ?_
              refine wpOrd_nil ?_
              have hc56 : Chg NoB w1 w7 := by
                have g1 := hJ5.out.chg.trans (((Chg.refl NoB w5).drew.alloc (.cells #[.int .i64 x] 3) |>.mono fun _ e => e.elim).trans' hc6) (fun j hj => .inr (hfp.out j hj).1)
                refine g1.trans hc7 (fun j hj => Or.inr ?_)
                rcases hn6 j hj with h1 | h1
                · exact (hfp.out j h1).1
                · have hz := hJ5.out.chg.size; simp at h1; omega
              have HN : Hid (RoI w1 w7 v7 (insI ys x)) := hid ⟨by
                  have e1 : a + 1 + (ys.drop a).length = (insI ys x).length := by rw [hins.out]; simp; omega
                  rw [← e1, hins.out]
                  simpa [flatMap_encI] using ho7, fun j hj => by
                  have hz := hJ5.out.chg.size
                  rcases hn7 j hj with h1 | h1
                  · rcases hn6 j h1 with h2 | h2
                    · exact (hfp.out j h2).1
                    · simp at h2; omega
                  · have hz2 := hc6.size; simp at hz2; omega, hc56⟩
              clear hc6 hc7 hn6 hn7 ho6 ho7 hc56 R5 hS0 hS1 hS2 hS3
              go_wp2_with fail
              go_roundw
              case rel => exact ⟨k + 1, by omega, by go_num, hid (by rw [hnext.out]; exact HN.out)⟩
              case measure => simp [intOf]; omega
            · have hnl : (a < ys.length) = False := eq_false hl1
              clear hst hl1
              go_upto_region 7 with fail
              refine wp_region_ord 16 (.rd 0 (.rd 1 (.rd 2 (.rd 3 (.rd 4 (.rd 5 (.rd 6 (.rd 7 (.rd 8 (.rd 9 (.rd 10 (.rd 11 (.rd 12 (.rd 13 (.rd 14 (.rd 15 (.done))))))))))))))))) (Same wr) (by kernel_rfl) (by kernel_rfl) (by kernel_rfl) (by kernel_rfl) (by kernel_rfl) (fun _ _ d _ _ h => by cases d <;> exact h) (Same.of (Chg.refl _ _).drew) (fun hS0 => ?_)
              refine wpOrd_rd rfl rfl (by first | decide | simp) (by assumption) (fun w' hw' K hK => by ((try unfold Same at hw'); (try go_split_ands); go_simp; exact hK)) ?_
              refine wpOrd_rd rfl rfl (by first | decide | simp) (by assumption) (fun w' hw' K hK => by ((try unfold Same at hw'); (try go_split_ands); go_simp; exact hK)) ?_
              refine wpOrd_rd rfl rfl (by first | decide | simp) (by assumption) (fun w' hw' K hK => by ((try unfold Same at hw'); (try go_split_ands); go_simp; exact hK)) ?_
              refine wpOrd_rd rfl rfl (by first | decide | simp) (by assumption) (fun w' hw' K hK => by ((try unfold Same at hw'); (try go_split_ands); go_simp; exact hK)) ?_
              refine wpOrd_rd rfl rfl (by first | decide | simp) (by assumption) (fun w' hw' K hK => by ((try unfold Same at hw'); (try go_split_ands); go_simp; exact hK)) ?_
              refine wpOrd_rd rfl rfl (by first | decide | simp) (by assumption) (fun w' hw' K hK => by ((try unfold Same at hw'); (try go_split_ands); go_simp; exact hK)) ?_
              refine wpOrd_rd rfl rfl (by first | decide | simp) (by assumption) (fun w' hw' K hK => by ((try unfold Same at hw'); (try go_split_ands); go_simp; exact hK)) ?_
              refine wpOrd_rd rfl rfl (by first | decide | simp) (by assumption) (fun w' hw' K hK => by ((try unfold Same at hw'); (try go_split_ands); go_simp; exact hK)) ?_
              refine wpOrd_rd rfl rfl (by first | decide | simp) (by assumption) (fun w' hw' K hK => by ((try unfold Same at hw'); (try go_split_ands); go_simp; exact hK)) ?_
              refine wpOrd_rd rfl rfl (by first | decide | simp) (by assumption) (fun w' hw' K hK => by ((try unfold Same at hw'); (try go_split_ands); go_simp; exact hK)) ?_
              refine wpOrd_rd rfl rfl (by first | decide | simp) (by assumption) (fun w' hw' K hK => by ((try unfold Same at hw'); (try go_split_ands); go_simp; exact hK)) ?_
              refine wpOrd_rd rfl rfl (by first | decide | simp) (by assumption) (fun w' hw' K hK => by ((try unfold Same at hw'); (try go_split_ands); go_simp; exact hK)) ?_
              refine wpOrd_rd rfl rfl (by first | decide | simp) (by assumption) (fun w' hw' K hK => by ((try unfold Same at hw'); (try go_split_ands); go_simp; exact hK)) ?_
              refine wpOrd_rd rfl rfl (by first | decide | simp) (by assumption) (fun w' hw' K hK => by ((try unfold Same at hw'); (try go_split_ands); go_simp; exact hK)) ?_
              refine wpOrd_rd rfl rfl (by first | decide | simp) (by assumption) (fun w' hw' K hK => by ((try unfold Same at hw'); (try go_split_ands); go_simp; exact hK)) ?_
              refine wpOrd_rd rfl rfl (by first | decide | simp) (by assumption) (fun w' hw' K hK => by ((try unfold Same at hw'); (try go_split_ands); go_simp; exact hK)) ?_
              refine wpOrd_nil ?_
              clear hS0
              go_upto_region 9 with fail
              refine wp_gen (fun W => Chg NoB wr W) (Chg.refl _ _).drew ?_
              rintro W hW
              have hJ := hid (hJ.out.keep hW)
              have r0 := hW.cell r0 nob
              have htl := hid (htl.out.mono hW)
              have hct := hid (hct.out.keep hW (fun _ _ => nob))
              go_upto_region 10 with (at_builtin; refine step_appR slInt rfl _ _ rfl (n := 0) (xs := []) (v := .slice (some ⟨W.heap.size, 0, none⟩) 0 0) ⟨rfl, .inr ⟨W.heap.size, 0, _, rfl, blk_new _ _, Nat.le_refl _, by simp [maxLen], by simp, by simp⟩⟩ rfl (enc := encI) (fun _ => rfl) (by simp [encI, Value.oneCell']) (l2 := ys.drop a) (htl.out.mono ((Chg.refl _ _).alloc _)) rfl (by simp; omega) (by simp [maxLen]; omega) ?_; intro v5 w5 ho5 hc5 hn5)
              have hown5 : ∀ j, OwnB (.slice (some ⟨W.heap.size, 0, none⟩) 0 0) j → j = W.heap.size := fun j hj => by simpa [OwnB, Value.ownBlock, eq_comm] using hj
              have hC5 : Chg NoB W w5 := ((Chg.refl NoB W).alloc _).new hc5 (fun j hj => by have := hown5 j hj; omega)
              have hv5 : ∀ j, OwnB v5 j → W.heap.size ≤ j := fun j hj => by
                rcases hn5 j hj with h1 | h1
                · have := hown5 j h1; omega
                · simp at h1; omega
              simp only [Nat.zero_add, List.nil_append] at ho5
              have hJ5 := hid (hJ.out.keep hC5)
              have hct5 := hid (hct.out.keep hC5 (fun _ _ => nob))
              have hfp : Hid (∀ j, OwnB (.slice (some ⟨g, 0, none⟩) a a) j → w1.heap.size ≤ j ∧ j < W.heap.size) := hid (fun j hj => ⟨hJ.out.ge j (by simpa [OwnB, Value.ownBlock] using hj), hct.out.lt hj⟩)
              have R5 := hC5.cell r0 nob
              have HO5 := hid ho5
              have hV5 := hid hv5
              have hk0 : (0 : Int) ≤ (k : Int) := by omega
              have hk1 : (k : Int) < (R.length : Int) := by omega
              have hdl : (ys.drop a).length = ys.length - a := List.length_drop
              clear hc5 hn5 hown5 hv5 ho5 r0
              refine wp_region_ord 14 (.rd 0 (.rd 1 (.rd 2 (.rd 3 (.rd 4 (.rd 5 (.rd 6 (.rd 7 (.rd 8 (.rd 11 (.one 9 (.one 10 (.one 12 (.rd 13 (.done))))))))))))))) (fun w' => w'.cell? ⟨rb, ro + k * 3, none⟩ = some (.int .i64 x)) (by kernel_rfl) (by kernel_rfl) (by kernel_rfl) (by kernel_rfl) (by kernel_rfl) (fun _ _ d _ _ h => by cases d <;> exact h) (R5) (fun hS0 => ?_)
              refine wpOrd_rd rfl rfl (by first | decide | simp) (by assumption) (fun w' hw' K hK => by ((try unfold Same at hw'); (try go_split_ands); go_simp; exact hK)) ?_
              refine wpOrd_rd rfl rfl (by first | decide | simp) (by assumption) (fun w' hw' K hK => by ((try unfold Same at hw'); (try go_split_ands); go_simp; exact hK)) ?_
              refine wpOrd_rd rfl rfl (by first | decide | simp) (by assumption) (fun w' hw' K hK => by ((try unfold Same at hw'); (try go_split_ands); go_simp; exact hK)) ?_
              refine wpOrd_rd rfl rfl (by first | decide | simp) (by assumption) (fun w' hw' K hK => by ((try unfold Same at hw'); (try go_split_ands); go_simp; exact hK)) ?_
              refine wpOrd_rd rfl rfl (by first | decide | simp) (by assumption) (fun w' hw' K hK => by ((try unfold Same at hw'); (try go_split_ands); go_simp; exact hK)) ?_
              refine wpOrd_rd rfl rfl (by first | decide | simp) (by assumption) (fun w' hw' K hK => by ((try unfold Same at hw'); (try go_split_ands); go_simp; exact hK)) ?_
              refine wpOrd_rd rfl rfl (by first | decide | simp) (by assumption) (fun w' hw' K hK => by ((try unfold Same at hw'); (try go_split_ands); go_simp; exact hK)) ?_
              refine wpOrd_rd rfl rfl (by first | decide | simp) (by assumption) (fun w' hw' K hK => by ((try unfold Same at hw'); (try go_split_ands); go_simp; exact hK)) ?_
              refine wpOrd_rd rfl rfl (by first | decide | simp) (by assumption) (fun w' hw' K hK => by ((try unfold Same at hw'); (try go_split_ands); go_simp; exact hK)) ?_
              refine wpOrd_rd rfl rfl (by first | decide | simp) (by assumption) (fun w' hw' K hK => by ((try unfold Same at hw'); (try go_split_ands); go_simp; exact hK)) ?_
              refine wpOrd_do rfl ?_
              (first | refine wpList_plain rfl (fun K hK => ?_) | refine wpList_step (fun K hK => ?_))
              go_simp
              refine hK _ _ ?_
              clear hK K
              (try dsimp only [Act.put])
              refine wpOrd_done (((Chg.refl NoB w5).drew.alloc _).cell R5 nob) (fun hS1 => ?_)
              refine wpOrd_do rfl ?_
              refine step_appW slInt rfl _ _ rfl (hct5.out.keep ((Chg.refl NoB w5).drew.alloc _) (fun _ _ => nob)) rfl ⟨w5.heap.size, 0, none⟩ 1 1 [.int .i64 x] rfl rfl (newsB (blk_new _ _)) (by simp [Value.oneCell']) (by omega) (by unfold maxLen; omega) ?_; intro v6 w6 ho6 hc6 hn6
              (try dsimp only [Act.put])
              (try simp only [List.setIfInBounds_toArray, List.set_cons_zero, List.set_cons_succ])
              refine wpOrd_done (hc6.cell (((Chg.refl NoB w5).drew.alloc _).cell R5 nob) (fun h => by have := (hfp.out rb h).1; omega)) (fun hS2 => ?_)
              refine wpOrd_do rfl ?_
              refine step_appR slInt rfl _ _ rfl ho6 rfl (enc := encI) (fun _ => rfl) (by simp [encI, Value.oneCell']) (l2 := ys.drop a) ((OwW.rdI (l := ys.drop a) (by rw [flatMap_encI']; exact HO5.out)).keep (((Chg.refl NoB w5).drew.alloc _ |>.mono fun _ e => e.elim).trans' hc6) (fun b _ hb hO => by obtain ⟨n9, c9, e9⟩ := hb; have h1 := hV5.out b ((congrArg (fun z => OwnB z b) (show v5 = _ from e9)).mpr (by simp [OwnB, Value.ownBlock])); have h2 := (hfp.out _ hO).2; omega)) rfl (by omega) (by unfold maxLen; omega) ?_; intro v7 w7 ho7 hc7 hn7
              (try dsimp only [Act.put])
              (try simp only [List.setIfInBounds_toArray, List.set_cons_zero, List.set_cons_succ])
              refine wpOrd_done (hc7.cell (hc6.cell (((Chg.refl NoB w5).drew.alloc _).cell R5 nob) (fun h => by have := (hfp.out rb h).1; omega)) (fun h => (hn6 rb h).elim (fun h1 => by have := (hfp.out rb h1).1; omega) (fun h1 => by have hz := hJ5.out.chg.size; simp at h1; omega))) (fun hS3 => ?_)
              refine wpOrd_rd rfl rfl (by first | decide | simp) (by assumption) (fun w' hw' K hK => by ((try unfold Same at hw'); (try go_split_ands); go_simp; exact hK)) ?_
              refine wpOrd_nil ?_
              have hc56 : Chg NoB w1 w7 := by
                have g1 := hJ5.out.chg.trans (((Chg.refl NoB w5).drew.alloc (.cells #[.int .i64 x] 3) |>.mono fun _ e => e.elim).trans' hc6) (fun j hj => .inr (hfp.out j hj).1)
                refine g1.trans hc7 (fun j hj => Or.inr ?_)
                rcases hn6 j hj with h1 | h1
                · exact (hfp.out j h1).1
                · have hz := hJ5.out.chg.size; simp at h1; omega
              have HN : Hid (RoI w1 w7 v7 (insI ys x)) := hid ⟨by
                  have e1 : a + 1 + (ys.drop a).length = (insI ys x).length := by rw [hins.out]; simp; omega
                  rw [← e1, hins.out]
                  simpa [flatMap_encI] using ho7, fun j hj => by
                  have hz := hJ5.out.chg.size
                  rcases hn7 j hj with h1 | h1
                  · rcases hn6 j h1 with h2 | h2
                    · exact (hfp.out j h2).1
                    · simp at h2; omega
                  · have hz2 := hc6.size; simp at hz2; omega, hc56⟩
              clear hc6 hc7 hn6 hn7 ho6 ho7 hc56 R5 hS0 hS1 hS2 hS3
              go_wp2_with fail
              go_roundw
              case rel => exact ⟨k + 1, by omega, by go_num, hid (by rw [hnext.out]; exact HN.out)⟩
              case measure => simp [intOf]; omega
    · obtain rfl : k = R.length := by omega
      rw [List.take_length, ← hres.out] at hys
      have hye := hys.out
      subst hye
      go_wp2_with fail
      go_ret
      exact ⟨.slice ao ys.length co, rfl, hid hI.out.own, hid (fun j hj => by have := hI.out.ge j hj; have := hc.out.size; omega), hid (hc.out.trans' hI.out.chg)⟩
end Go.Proofs.Ytekjchphlphecaa
