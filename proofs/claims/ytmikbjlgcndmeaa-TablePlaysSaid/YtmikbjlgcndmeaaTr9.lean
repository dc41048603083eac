import Derived.Test.YtmikbjlgcndmeaaTr8
namespace Go.Proofs.Ytmikbjlgcndmeaa
open Go.RowKit Go.ChangeMaps Go.MapKept
set_option linter.unusedVariables false
set_option linter.unusedSimpArgs false
set_option linter.unnecessarySimpa false
set_option maxHeartbeats 8000000

theorem slb_own {v : Value} {k : Nat} (h : SlB v k) : OwnB v k := by
  obtain ⟨off, n, c, rfl, _⟩ := h
  simp [OwnB, Value.ownBlock]
def newT (n : Int) : TxS × Value := (⟨n, 0, 0, 0, []⟩, .slice none 0 0)
theorem encT_new (n : Int) : encT (newT n) = [.int .i64 n, .int .i64 0, .int .i64 0, .int .i64 0, .slice none 0 0] := rfl
/-- The table with a new one in it. -/
theorem RtAt.ins {w0 : Rsv} {w w6 w7 : World} {p : Nat} {lv v6 : Value} {xs : List (TxS × Value)} (h : RtAt w0 w p lv xs) {n : Int} (hn : tFind (xs.map (·.1)) n = none) (hf : xs.length < 4) (a : Nat) (ha : a = rAt xs n)
    (hC : Chg (OwnB lv) w w6) (ho : OwW w6 73 5 v6 (a + 1 + (xs.drop a).length) ((xs.take a).flatMap encT ++ encT (newT n) ++ (xs.drop a).flatMap encT)) (hv6 : ∀ k, OwnB v6 k → OwnB lv k ∨ w.heap.size ≤ k)
    (hb : w7.heap[p]? = some (.cells #[v6] 39 (0, 0))) (hc : Chg (OneB p) w6 w7) : RtAt w0 w7 p v6 (xs.take a ++ [newT n] ++ xs.drop a) := by
  have hpl := lt_of_block h.blk
  have hno6 : ¬ OwnB v6 p := fun h2 => (hv6 p h2).elim (fun h3 => h.no h3) (fun h3 => by omega)
  have hal := rAt_le xs n
  have hlen : (xs.take a ++ [newT n] ++ xs.drop a).length = a + 1 + (xs.drop a).length := by
    simp only [List.length_append, List.length_take, List.length_singleton]; omega
  have hmem : ∀ x ∈ xs.take a ++ [newT n] ++ xs.drop a, x = newT n ∨ x ∈ xs := fun x hx => by
    simp only [List.mem_append, List.mem_singleton] at hx
    rcases hx with (hx | hx) | hx
    · exact .inr (List.mem_of_mem_take hx)
    · exact .inl hx
    · exact .inr (List.mem_of_mem_drop hx)
  refine ⟨hb, ?_, fun x hx => ?_, hno6, fun k hk => (hv6 k hk).elim (fun h5 => h.own k h5) (fun h5 => Rsv.new h.chg h5), h.ge, (h.chg.trans hC (fun k hk => .inl (h.own k hk))).trans hc (fun k hk => .inl (by have h' : k = p := hk; rw [h']; exact h.ge)), ?_, ?_, fun x hx => ?_⟩
  · rw [hlen, List.flatMap_append, List.flatMap_append]
    have := ho.keep hc (fun k hk e => hno6 (by have h' : k = p := e; rwa [h'] at hk))
    simpa using this
  · rcases hmem x hx with rfl | hx
    · exact ⟨⟨none, 0, rfl, Nat.le_refl _, by simp [maxLen, newT], fun i y hi => by simp [newT] at hi⟩, fun k hk => by obtain ⟨_, _, _, e, _⟩ := hk; cases e⟩
    · have hm := h.mks x hx
      have hm6 : MkK w0 p v6 w6 x := ⟨hm.rd.keepS hC fun k hk => (hm.out k hk).2.1, fun k hk => ⟨(hm.out k hk).1, fun h2 => (hv6 k h2).elim (fun h3 => (hm.out k hk).2.1 h3) (fun h3 => by have := Rd.slLt (size := 2) (fun _ => rfl) (by decide) hm.rd hk; omega), (hm.out k hk).2.2⟩⟩
      exact hm6.keep hc (fun k hk => .inl hk)
  · rw [hlen, List.length_drop]; omega
  · rw [ha]; exact rBegin_srt h.srt hn (newT n) rfl
  · rcases hmem x hx with rfl | hx
    · exact ⟨by simp [newT], by simp [newT], by simp [newT]⟩
    · exact h.fit x hx

set_option maxRecDepth 100000 in
theorem rBegin_calls (w0 : Rsv) (w : World) (p : Nat) (L : TTab) (n : Int) (h : RT w0 w p L) (res : Int) (hres : Hid (res = (tBegin L n).1)) :
    Calls Try.prog 15 #[.pointer (some ⟨p, 0, none⟩), .int .i64 n] w fun e w' => e = .returned (.int .i64 res) ∧ ∃ L', Hid (RT w0 w' p L' ∧ L'.Perm (tBegin L n).2) := by
  obtain ⟨lv, xs, rfl, h⟩ := h
  have hr := hres.out
  have hT : Hid (∀ k T, tBegin (xs.map (·.1)) n = (k, T) → (tBegin (xs.map (·.1)) n).2 = T) := hid (fun k T e => by rw [e])
  have HH := hid h
  obtain ⟨ix, hix⟩ := named (rIdx (xs.map (·.1)) n)
  by_cases hn : n < 1 ∨ 2147483647 < n
  · have e1 : tBegin (xs.map (·.1)) n = (1, xs.map (·.1)) := by unfold tBegin; rw [if_pos hn]
    rw [e1] at hr
    have hp := hT.out _ _ e1
    subst hr
    have hcs : n < 1 ∨ (¬ n < 1 ∧ 2147483647 < n) := by omega
    clear hn h hres
    rcases hcs with q1 | ⟨q1, q2⟩
    all_goals
      go_enter Try.func15, Try.ntmps15
      go_wp2
      go_ret
      exact ⟨rfl, _, hid ⟨⟨lv, xs, rfl, HH.out⟩, by first | rw [hp] | exact List.Perm.refl _⟩⟩
  · have q1 : ¬ n < 1 := by omega
    have q2 : ¬ 2147483647 < n := by omega
    rcases rIdx_cases (xs.map (·.1)) n with ⟨h1, h2⟩ | ⟨i, s, h1, h2, h3, h4⟩
    · by_cases hl : 4 ≤ xs.length
      · have e1 : tBegin (xs.map (·.1)) n = (5, xs.map (·.1)) := by
          unfold tBegin
          rw [if_neg hn, h2, if_neg (by simp), if_pos (by simpa using hl)]
        rw [e1] at hr
        have hp := hT.out _ _ e1
        subst hr
        have hix2 : ix = -1 := by rw [hix.out, h1]
        have hpc := h.cell
        obtain ⟨ao, co, rfl, _, _, _⟩ := h.row.form
        have HP := hid hpc
        have hli : (4 : Int) ≤ (xs.length : Int) := by omega
        clear hn h hres h1 h2 hpc
        subst hix2
        go_enter Try.func15, Try.ntmps15
        go_wp2_with (go_at_call 30; refine (rFind_calls w0 _ p _ xs n HH.out _ hix).mono ?_; rintro e w1 ⟨rfl, hc1⟩; have hp1 := hc1.cell HP.out nob)
        go_ret
        exact ⟨rfl, _, hid ⟨⟨_, xs, rfl, HH.out.keep hc1⟩, by first | rw [hp] | exact List.Perm.refl _⟩⟩
      · have e1 : tBegin (xs.map (·.1)) n = (0, xs.map (·.1) ++ [(newT n).1]) := by
          unfold tBegin
          rw [if_neg hn, h2, if_neg (by simp), if_neg (by simpa using hl)]; rfl
        rw [e1] at hr
        have hp := hT.out _ _ e1
        subst hr
        have hix2 : ix = -1 := by rw [hix.out, h1]
        have hpc := h.cell
        have HN := hid h2
        obtain ⟨ao, co, rfl, hco, hco2, hco3⟩ := h.row.form
        have HP := hid hpc
        have hli : ¬ (4 : Int) ≤ (xs.length : Int) := by omega
        unfold maxLen at hco2 hco3
        clear hn h hres h1 h2 hpc
        subst hix2
        go_enter Try.func15, Try.ntmps15
        go_wp2_with (go_at_call 30; refine (rFind_calls w0 _ p _ xs n HH.out _ hix).mono ?_; rintro e w1 ⟨rfl, hc1⟩; have hp1 := hc1.cell HP.out nob)
        have H1 := hid (HH.out.keep hc1)
        clear hix
        go_loopw [5] (fun s5 wr => ∃ a : Nat, a ≤ rAt xs n ∧ s5 = .int .i64 a ∧ w1 = wr) (fun i _ => xs.length - (intOf i).toNat)
        case atStart => exact ⟨0, by omega, rfl, rfl⟩
        case round =>
          obtain ⟨a, ha, rfl, rfl⟩ := hrel
          have hal := rAt_le xs n
          by_cases hlx : a < rAt xs n
          · obtain ⟨ha2, hax⟩ := rAt_lt hlx
            obtain ⟨g, cap, e2, h4, c0, _⟩ := H1.out.cells (List.getElem?_eq_getElem ha2)
            cases e2
            have hli2 : (a : Int) < (xs.length : Int) := by omega
            have ha0 : (0 : Int) ≤ (a : Int) := by omega
            obtain ⟨z, hz⟩ := named xs[a].1.txn
            rw [← hz.out] at c0 hax
            go_wp2_with fail
            go_roundw
            case rel => exact ⟨a + 1, by omega, by go_num, by simp⟩
            case measure => simp [intOf]; omega
          · have hae : a = rAt xs n := by omega
            have hst : a < xs.length → ∃ z, Hid (z = xs[a]?.map (fun x => x.1.txn)) := fun _ => ⟨_, rfl⟩
            have hpl := lt_of_block H1.out.blk
            have hxl : xs.length < 4 := by omega
            have hE : Hid (∀ j, OwnB (.slice (some ⟨w1.heap.size, 0, none⟩) 0 0) j → j = w1.heap.size) := hid (fun j hj => by simpa [OwnB, Value.ownBlock, eq_comm] using hj)
            have hone : Hid (∀ x ∈ xs, ∀ u ∈ encT x, u.oneCell' = true) := hid (fun x hx => (H1.out.mks x hx).one)
            have hdl : (xs.drop a).length = xs.length - a := List.length_drop
            have hst2 : a < xs.length → ¬ (xs.getD a (newT 0)).1.txn < n := fun h => by
              subst hae
              rw [List.getD_eq_getElem?_getD, List.getElem?_eq_getElem h]
              exact rAt_stop h
            have hal2 : a ≤ xs.length := by omega
            have HAE := hid hae
            clear hae hlx ha hst
            rcases H1.out.row.2 with ⟨e2, h0⟩ | ⟨g, cap, cur, e2, hg, hgc, hgm, hgs, hgt⟩
            · have hy0 : xs.length = 0 := h0
              have ha0 : a = 0 := by omega
              subst ha0
              have hx0 : xs = [] := List.eq_nil_of_length_eq_zero h0
              have htl : Hid (Rd w1 5 encT (.slice none 0 0) (xs.drop 0)) := hid ⟨none, 0, by rw [hx0]; rfl, by rw [hx0]; simp, by rw [hx0]; simp, fun i x hi => by rw [hx0] at hi; simp at hi⟩
              have hct : Hid (OwW w1 73 5 (.slice none 0 0) 0 ((xs.take 0).flatMap encT)) := hid OwW.nil
              have hfp : Hid (∀ j, OwnB (.slice none 0 0) j → j < w1.heap.size ∧ j ≠ p) := hid (fun j hj => by simp [OwnB, Value.ownBlock] at hj)
              have HY := hid hy0
              have hnl : (0 < xs.length) = False := eq_false (by omega)
              rw [e2] at H1 hp1 ⊢
              clear hst2 hx0 hy0 h0 e2
              go_upto_region 11 with (at_builtin; refine step_appQ slTxn rfl _ _ rfl (n := 0) (xs := []) (v := .slice (some ⟨w1.heap.size, 0, none⟩) 0 0) ⟨rfl, .inr ⟨w1.heap.size, 0, _, rfl, blk_new _ _, Nat.le_refl _, by simp [maxLen], by simp, by simp⟩⟩ rfl (enc := encT) (fun x => by simp [encT]) (l2 := xs.drop 0) (fun x hx => hone.out x (List.mem_of_mem_drop hx)) (htl.out.mono ((Chg.refl _ _).alloc _)) rfl (by omega) (by unfold maxLen; omega) ?_; intro v5 w5 ho5 hc5 hn5)
              have hC5 : Chg NoB w1 w5 := ((Chg.refl NoB w1).alloc _).new hc5 (fun j hj => by have := hE.out j hj; omega)
              have hv5 : ∀ j, OwnB v5 j → w1.heap.size ≤ j := fun j hj => (hn5 j hj).elim (fun h5 => by have := hE.out j h5; omega) (fun h5 => by simp at h5; omega)
              simp only [Nat.zero_add, List.nil_append] at ho5
              have HO5 := hid ho5
              have hct5 := hid (hct.out.keep hC5 (fun _ _ => nob))
              have hp5 := hC5.cell hp1 nob
              have hb5 := hid (hC5.heap H1.out.blk nob)
              have HV5 := hid hv5
              have HC5 := hid hC5
              have hz5 := hC5.size
              clear hc5 hn5 hv5 ho5 hp1 hC5
              go_wp2_with (first
                | (at_builtin; refine step_appW slTxn rfl _ _ rfl (hct5.out.keep ((Chg.refl NoB w5).alloc _) (fun _ _ => nob)) rfl ⟨w5.heap.size, 0, none⟩ 1 1 (encT (newT n)) rfl rfl (newsB (blk_new _ _)) (by simp [encT_new, Value.oneCell']) (by omega) (by unfold maxLen; omega) ?_; intro v6 w6 ho6 hc6 hn6; have hp6 := hc6.cell (((Chg.refl NoB w5).alloc (.cells (encT (newT n)).toArray 73)).cell hp5 nob) (fun h => (hfp.out _ h).2 rfl); have hz6 := hc6.size)
                | (at_builtin; refine step_appQ slTxn rfl _ _ rfl ho6 rfl (enc := encT) (fun x => by simp [encT]) (l2 := xs.drop 0) (fun x hx => hone.out x (List.mem_of_mem_drop hx)) (((HO5.out.rd (enc := encT) (fun x => by simp [encT])).mono ((Chg.refl NoB w5).alloc _)).keepS hc6 (fun k hk hS => by have h5 := HV5.out k (slb_own hk); have h6 := (hfp.out _ hS).1; omega)) rfl (by omega) (by unfold maxLen; omega) ?_; intro v7 w7 ho7 hc7 hn7)
                | ((fail_if_success (fail_if_success (with_reducible change wpList _ _ _ (Oper.mk _ (.store 37 _ _) _ _ _ _ :: _) _ _))); refine step_storeC rfl rfl p 0 rfl rfl (by obtain ⟨_, _, rfl, _⟩ := ho7.form; rfl) (by obtain ⟨_, _, rfl, _⟩ := ho7.form; rfl) (cs := [_]) (hc7.heap (hc6.heap (((Chg.refl NoB w5).alloc _).heap hb5.out nob) (fun h => (hfp.out _ h).2 rfl)) (fun h => (hn6 _ h).elim (fun h5 => (hfp.out _ h5).2 rfl) (fun h5 => by simp at h5; omega))) (by simp) (by kernel_rfl) ?_; intro w8 hb8 hc8 hs8))
              have hcut : ∀ j, OwnB (.slice none 0 0) j → OwnB (.slice none 0 0) j := fun j hj => by simpa [OwnB, Value.ownBlock] using hj
              have hv6 : ∀ j, OwnB v6 j → OwnB (.slice none 0 0) j ∨ w1.heap.size ≤ j := fun j hj => (hn6 j hj).elim (fun h5 => .inl (hcut j h5)) (fun h5 => by simp at h5; right; omega)
              have hv7 : ∀ j, OwnB v7 j → OwnB (.slice none 0 0) j ∨ w1.heap.size ≤ j := fun j hj => (hn7 j hj).elim (fun h5 => hv6 j h5) (fun h5 => by have := hc6.size; simp at this; right; omega)
              have hC7 : Chg (OwnB (.slice none 0 0)) w1 w7 := ((HC5.out.mono fun _ e => e.elim).trans ((((Chg.refl (OwnB (.slice none 0 0)) w5).alloc (.cells (encT (newT n)).toArray 73))).trans' hc6) (fun j hj => .inl (hcut j hj))).trans hc7 (fun j hj => hv6 j hj)
              have HF := hid (H1.out.ins HN.out hxl 0 HAE.out hC7 ho7 hv7 hb8 hc8)
              clear hb8 hc8 hs8 ho7 hc7 hn7 ho6 hc6 hn6 hC7 hv7 hv6 hcut
              go_wp2_with fail
              all_goals
                go_ret
                exact ⟨rfl, _, hid ⟨⟨v7, _, rfl, HF.out⟩, by first | (rw [hp, HAE.out]; exact rBegin_perm xs n (newT n)) | (rw [HAE.out]; exact rBegin_perm xs n (newT n))⟩⟩
            · cases e2
              have htl := hid ((H1.out.row.rd (enc := encT) (fun x => by simp [encT])).tail a hal2)
              have hct := hid (show OwW w1 73 5 (.slice (some ⟨g, 0, none⟩) a a) a ((xs.take a).flatMap encT) from by
                have h5 := H1.out.row.cut a hal2
                have h6 : (xs.flatMap encT).take (a * 5) = (xs.take a).flatMap encT := by
                  have h7 : xs.flatMap encT = (xs.take a).flatMap encT ++ (xs.drop a).flatMap encT := by rw [← List.flatMap_append, List.take_append_drop]
                  rw [h7, List.take_left' (by rw [encT_len, List.length_take]; omega)]
                rwa [h6] at h5)
              have hfp : Hid (∀ j, OwnB (.slice (some ⟨g, 0, none⟩) a a) j → j < w1.heap.size ∧ j ≠ p) := hid (fun j hj => ⟨hct.out.lt hj, fun e => H1.out.no (by rw [← e]; simpa [OwnB, Value.ownBlock] using hj)⟩)
              have ha0 : (0 : Int) ≤ (a : Int) := by omega
              have han : (a : Int) ≤ (xs.length : Int) := by omega
              have hac : (a : Int) ≤ (co : Int) := by omega
              have hnc : (xs.length : Int) ≤ (co : Int) := by omega
              clear hg hgc hgm hgs hgt
              by_cases hl1 : a < xs.length
              · have hl2 := hst2 hl1
                have htl : Hid (Rd w1 5 encT (.slice (some ⟨g, a * 5, none⟩) (xs.length - a) (co - a)) (xs.drop a)) := hid (by have := htl.out; rwa [if_neg (show ¬ co = a by omega)] at this)
                obtain ⟨_, _, e3, _, c0, _⟩ := H1.out.cells (List.getElem?_eq_getElem hl1)
                cases e3
                rw [List.getD_eq_getElem?_getD, List.getElem?_eq_getElem hl1, Option.getD_some] at hl2
                obtain ⟨z, hz⟩ := named xs[a].1.txn
                rw [← hz.out] at c0 hl2
                have hzn : decide (z < n) = false := decide_eq_false hl2
                clear hl2 hst2
                go_upto_region 11 with (at_builtin; refine step_appQ slTxn rfl _ _ rfl (n := 0) (xs := []) (v := .slice (some ⟨w1.heap.size, 0, none⟩) 0 0) ⟨rfl, .inr ⟨w1.heap.size, 0, _, rfl, blk_new _ _, Nat.le_refl _, by simp [maxLen], by simp, by simp⟩⟩ rfl (enc := encT) (fun x => by simp [encT]) (l2 := xs.drop a) (fun x hx => hone.out x (List.mem_of_mem_drop hx)) (htl.out.mono ((Chg.refl _ _).alloc _)) rfl (by omega) (by unfold maxLen; omega) ?_; intro v5 w5 ho5 hc5 hn5)
                have hC5 : Chg NoB w1 w5 := ((Chg.refl NoB w1).alloc _).new hc5 (fun j hj => by have := hE.out j hj; omega)
                have hv5 : ∀ j, OwnB v5 j → w1.heap.size ≤ j := fun j hj => (hn5 j hj).elim (fun h5 => by have := hE.out j h5; omega) (fun h5 => by simp at h5; omega)
                simp only [Nat.zero_add, List.nil_append] at ho5
                have HO5 := hid ho5
                have hct5 := hid (hct.out.keep hC5 (fun _ _ => nob))
                have hp5 := hC5.cell hp1 nob
                have hb5 := hid (hC5.heap H1.out.blk nob)
                have HV5 := hid hv5
                have HC5 := hid hC5
                have hz5 := hC5.size
                clear hc5 hn5 hv5 ho5 hp1 hC5
                go_wp2_with (first
                  | (at_builtin; refine step_appW slTxn rfl _ _ rfl (hct5.out.keep ((Chg.refl NoB w5).alloc _) (fun _ _ => nob)) rfl ⟨w5.heap.size, 0, none⟩ 1 1 (encT (newT n)) rfl rfl (newsB (blk_new _ _)) (by simp [encT_new, Value.oneCell']) (by omega) (by unfold maxLen; omega) ?_; intro v6 w6 ho6 hc6 hn6; have hp6 := hc6.cell (((Chg.refl NoB w5).alloc (.cells (encT (newT n)).toArray 73)).cell hp5 nob) (fun h => (hfp.out _ h).2 rfl); have hz6 := hc6.size)
                  | (at_builtin; refine step_appQ slTxn rfl _ _ rfl ho6 rfl (enc := encT) (fun x => by simp [encT]) (l2 := xs.drop a) (fun x hx => hone.out x (List.mem_of_mem_drop hx)) (((HO5.out.rd (enc := encT) (fun x => by simp [encT])).mono ((Chg.refl NoB w5).alloc _)).keepS hc6 (fun k hk hS => by have h5 := HV5.out k (slb_own hk); have h6 := (hfp.out _ hS).1; omega)) rfl (by omega) (by unfold maxLen; omega) ?_; intro v7 w7 ho7 hc7 hn7)
                  | ((fail_if_success (fail_if_success (with_reducible change wpList _ _ _ (Oper.mk _ (.store 37 _ _) _ _ _ _ :: _) _ _))); refine step_storeC rfl rfl p 0 rfl rfl (by obtain ⟨_, _, rfl, _⟩ := ho7.form; rfl) (by obtain ⟨_, _, rfl, _⟩ := ho7.form; rfl) (cs := [_]) (hc7.heap (hc6.heap (((Chg.refl NoB w5).alloc _).heap hb5.out nob) (fun h => (hfp.out _ h).2 rfl)) (fun h => (hn6 _ h).elim (fun h5 => (hfp.out _ h5).2 rfl) (fun h5 => by simp at h5; omega))) (by simp) (by kernel_rfl) ?_; intro w8 hb8 hc8 hs8))
                have hcut : ∀ j, OwnB (.slice (some ⟨g, 0, none⟩) a a) j → OwnB (.slice (some ⟨g, 0, none⟩) xs.length co) j := fun j hj => by simpa [OwnB, Value.ownBlock] using hj
                have hv6 : ∀ j, OwnB v6 j → OwnB (.slice (some ⟨g, 0, none⟩) xs.length co) j ∨ w1.heap.size ≤ j := fun j hj => (hn6 j hj).elim (fun h5 => .inl (hcut j h5)) (fun h5 => by simp at h5; right; omega)
                have hv7 : ∀ j, OwnB v7 j → OwnB (.slice (some ⟨g, 0, none⟩) xs.length co) j ∨ w1.heap.size ≤ j := fun j hj => (hn7 j hj).elim (fun h5 => hv6 j h5) (fun h5 => by have := hc6.size; simp at this; right; omega)
                have hC7 : Chg (OwnB (.slice (some ⟨g, 0, none⟩) xs.length co)) w1 w7 := ((HC5.out.mono fun _ e => e.elim).trans ((((Chg.refl (OwnB (.slice (some ⟨g, 0, none⟩) a a)) w5).alloc (.cells (encT (newT n)).toArray 73))).trans' hc6) (fun j hj => .inl (hcut j hj))).trans hc7 (fun j hj => hv6 j hj)
                have HF := hid (H1.out.ins HN.out hxl a HAE.out hC7 ho7 hv7 hb8 hc8)
                clear hb8 hc8 hs8 ho7 hc7 hn7 ho6 hc6 hn6 hC7 hv7 hv6 hcut
                go_wp2_with fail
                all_goals
                  go_ret
                  exact ⟨rfl, _, hid ⟨⟨v7, _, rfl, HF.out⟩, by first | (rw [hp, HAE.out]; exact rBegin_perm xs n (newT n)) | (rw [HAE.out]; exact rBegin_perm xs n (newT n))⟩⟩
              · have hnl : (a < xs.length) = False := eq_false hl1
                clear hst2 hl1
                by_cases hca : co = a
                · have htl : Hid (Rd w1 5 encT (.slice (some ⟨g, 0, none⟩) (xs.length - a) (co - a)) (xs.drop a)) := hid (by have := htl.out; rwa [if_pos hca] at this)
                  have hcb : (co = a) = True := eq_true hca
                  clear hca
                  go_upto_region 11 with (at_builtin; refine step_appQ slTxn rfl _ _ rfl (n := 0) (xs := []) (v := .slice (some ⟨w1.heap.size, 0, none⟩) 0 0) ⟨rfl, .inr ⟨w1.heap.size, 0, _, rfl, blk_new _ _, Nat.le_refl _, by simp [maxLen], by simp, by simp⟩⟩ rfl (enc := encT) (fun x => by simp [encT]) (l2 := xs.drop a) (fun x hx => hone.out x (List.mem_of_mem_drop hx)) (htl.out.mono ((Chg.refl _ _).alloc _)) rfl (by omega) (by unfold maxLen; omega) ?_; intro v5 w5 ho5 hc5 hn5)
                  have hC5 : Chg NoB w1 w5 := ((Chg.refl NoB w1).alloc _).new hc5 (fun j hj => by have := hE.out j hj; omega)
                  have hv5 : ∀ j, OwnB v5 j → w1.heap.size ≤ j := fun j hj => (hn5 j hj).elim (fun h5 => by have := hE.out j h5; omega) (fun h5 => by simp at h5; omega)
                  simp only [Nat.zero_add, List.nil_append] at ho5
                  have HO5 := hid ho5
                  have hct5 := hid (hct.out.keep hC5 (fun _ _ => nob))
                  have hp5 := hC5.cell hp1 nob
                  have hb5 := hid (hC5.heap H1.out.blk nob)
                  have HV5 := hid hv5
                  have HC5 := hid hC5
                  have hz5 := hC5.size
                  clear hc5 hn5 hv5 ho5 hp1 hC5
                  go_wp2_with (first
                    | (at_builtin; refine step_appW slTxn rfl _ _ rfl (hct5.out.keep ((Chg.refl NoB w5).alloc _) (fun _ _ => nob)) rfl ⟨w5.heap.size, 0, none⟩ 1 1 (encT (newT n)) rfl rfl (newsB (blk_new _ _)) (by simp [encT_new, Value.oneCell']) (by omega) (by unfold maxLen; omega) ?_; intro v6 w6 ho6 hc6 hn6; have hp6 := hc6.cell (((Chg.refl NoB w5).alloc (.cells (encT (newT n)).toArray 73)).cell hp5 nob) (fun h => (hfp.out _ h).2 rfl); have hz6 := hc6.size)
                    | (at_builtin; refine step_appQ slTxn rfl _ _ rfl ho6 rfl (enc := encT) (fun x => by simp [encT]) (l2 := xs.drop a) (fun x hx => hone.out x (List.mem_of_mem_drop hx)) (((HO5.out.rd (enc := encT) (fun x => by simp [encT])).mono ((Chg.refl NoB w5).alloc _)).keepS hc6 (fun k hk hS => by have h5 := HV5.out k (slb_own hk); have h6 := (hfp.out _ hS).1; omega)) rfl (by omega) (by unfold maxLen; omega) ?_; intro v7 w7 ho7 hc7 hn7)
                    | ((fail_if_success (fail_if_success (with_reducible change wpList _ _ _ (Oper.mk _ (.store 37 _ _) _ _ _ _ :: _) _ _))); refine step_storeC rfl rfl p 0 rfl rfl (by obtain ⟨_, _, rfl, _⟩ := ho7.form; rfl) (by obtain ⟨_, _, rfl, _⟩ := ho7.form; rfl) (cs := [_]) (hc7.heap (hc6.heap (((Chg.refl NoB w5).alloc _).heap hb5.out nob) (fun h => (hfp.out _ h).2 rfl)) (fun h => (hn6 _ h).elim (fun h5 => (hfp.out _ h5).2 rfl) (fun h5 => by simp at h5; omega))) (by simp) (by kernel_rfl) ?_; intro w8 hb8 hc8 hs8))
                  have hcut : ∀ j, OwnB (.slice (some ⟨g, 0, none⟩) a a) j → OwnB (.slice (some ⟨g, 0, none⟩) xs.length co) j := fun j hj => by simpa [OwnB, Value.ownBlock] using hj
                  have hv6 : ∀ j, OwnB v6 j → OwnB (.slice (some ⟨g, 0, none⟩) xs.length co) j ∨ w1.heap.size ≤ j := fun j hj => (hn6 j hj).elim (fun h5 => .inl (hcut j h5)) (fun h5 => by simp at h5; right; omega)
                  have hv7 : ∀ j, OwnB v7 j → OwnB (.slice (some ⟨g, 0, none⟩) xs.length co) j ∨ w1.heap.size ≤ j := fun j hj => (hn7 j hj).elim (fun h5 => hv6 j h5) (fun h5 => by have := hc6.size; simp at this; right; omega)
                  have hC7 : Chg (OwnB (.slice (some ⟨g, 0, none⟩) xs.length co)) w1 w7 := ((HC5.out.mono fun _ e => e.elim).trans ((((Chg.refl (OwnB (.slice (some ⟨g, 0, none⟩) a a)) w5).alloc (.cells (encT (newT n)).toArray 73))).trans' hc6) (fun j hj => .inl (hcut j hj))).trans hc7 (fun j hj => hv6 j hj)
                  have HF := hid (H1.out.ins HN.out hxl a HAE.out hC7 ho7 hv7 hb8 hc8)
                  clear hb8 hc8 hs8 ho7 hc7 hn7 ho6 hc6 hn6 hC7 hv7 hv6 hcut
                  go_wp2_with fail
                  all_goals
                    go_ret
                    exact ⟨rfl, _, hid ⟨⟨v7, _, rfl, HF.out⟩, by first | (rw [hp, HAE.out]; exact rBegin_perm xs n (newT n)) | (rw [HAE.out]; exact rBegin_perm xs n (newT n))⟩⟩
                · have htl : Hid (Rd w1 5 encT (.slice (some ⟨g, a * 5, none⟩) (xs.length - a) (co - a)) (xs.drop a)) := hid (by have := htl.out; rwa [if_neg hca] at this)
                  have hcb : (co = a) = False := eq_false hca
                  clear hca
                  go_upto_region 11 with (at_builtin; refine step_appQ slTxn rfl _ _ rfl (n := 0) (xs := []) (v := .slice (some ⟨w1.heap.size, 0, none⟩) 0 0) ⟨rfl, .inr ⟨w1.heap.size, 0, _, rfl, blk_new _ _, Nat.le_refl _, by simp [maxLen], by simp, by simp⟩⟩ rfl (enc := encT) (fun x => by simp [encT]) (l2 := xs.drop a) (fun x hx => hone.out x (List.mem_of_mem_drop hx)) (htl.out.mono ((Chg.refl _ _).alloc _)) rfl (by omega) (by unfold maxLen; omega) ?_; intro v5 w5 ho5 hc5 hn5)
                  have hC5 : Chg NoB w1 w5 := ((Chg.refl NoB w1).alloc _).new hc5 (fun j hj => by have := hE.out j hj; omega)
                  have hv5 : ∀ j, OwnB v5 j → w1.heap.size ≤ j := fun j hj => (hn5 j hj).elim (fun h5 => by have := hE.out j h5; omega) (fun h5 => by simp at h5; omega)
                  simp only [Nat.zero_add, List.nil_append] at ho5
                  have HO5 := hid ho5
                  have hct5 := hid (hct.out.keep hC5 (fun _ _ => nob))
                  have hp5 := hC5.cell hp1 nob
                  have hb5 := hid (hC5.heap H1.out.blk nob)
                  have HV5 := hid hv5
                  have HC5 := hid hC5
                  have hz5 := hC5.size
                  clear hc5 hn5 hv5 ho5 hp1 hC5
                  go_wp2_with (first
                    | (at_builtin; refine step_appW slTxn rfl _ _ rfl (hct5.out.keep ((Chg.refl NoB w5).alloc _) (fun _ _ => nob)) rfl ⟨w5.heap.size, 0, none⟩ 1 1 (encT (newT n)) rfl rfl (newsB (blk_new _ _)) (by simp [encT_new, Value.oneCell']) (by omega) (by unfold maxLen; omega) ?_; intro v6 w6 ho6 hc6 hn6; have hp6 := hc6.cell (((Chg.refl NoB w5).alloc (.cells (encT (newT n)).toArray 73)).cell hp5 nob) (fun h => (hfp.out _ h).2 rfl); have hz6 := hc6.size)
                    | (at_builtin; refine step_appQ slTxn rfl _ _ rfl ho6 rfl (enc := encT) (fun x => by simp [encT]) (l2 := xs.drop a) (fun x hx => hone.out x (List.mem_of_mem_drop hx)) (((HO5.out.rd (enc := encT) (fun x => by simp [encT])).mono ((Chg.refl NoB w5).alloc _)).keepS hc6 (fun k hk hS => by have h5 := HV5.out k (slb_own hk); have h6 := (hfp.out _ hS).1; omega)) rfl (by omega) (by unfold maxLen; omega) ?_; intro v7 w7 ho7 hc7 hn7)
                    | ((fail_if_success (fail_if_success (with_reducible change wpList _ _ _ (Oper.mk _ (.store 37 _ _) _ _ _ _ :: _) _ _))); refine step_storeC rfl rfl p 0 rfl rfl (by obtain ⟨_, _, rfl, _⟩ := ho7.form; rfl) (by obtain ⟨_, _, rfl, _⟩ := ho7.form; rfl) (cs := [_]) (hc7.heap (hc6.heap (((Chg.refl NoB w5).alloc _).heap hb5.out nob) (fun h => (hfp.out _ h).2 rfl)) (fun h => (hn6 _ h).elim (fun h5 => (hfp.out _ h5).2 rfl) (fun h5 => by simp at h5; omega))) (by simp) (by kernel_rfl) ?_; intro w8 hb8 hc8 hs8))
                  have hcut : ∀ j, OwnB (.slice (some ⟨g, 0, none⟩) a a) j → OwnB (.slice (some ⟨g, 0, none⟩) xs.length co) j := fun j hj => by simpa [OwnB, Value.ownBlock] using hj
                  have hv6 : ∀ j, OwnB v6 j → OwnB (.slice (some ⟨g, 0, none⟩) xs.length co) j ∨ w1.heap.size ≤ j := fun j hj => (hn6 j hj).elim (fun h5 => .inl (hcut j h5)) (fun h5 => by simp at h5; right; omega)
                  have hv7 : ∀ j, OwnB v7 j → OwnB (.slice (some ⟨g, 0, none⟩) xs.length co) j ∨ w1.heap.size ≤ j := fun j hj => (hn7 j hj).elim (fun h5 => hv6 j h5) (fun h5 => by have := hc6.size; simp at this; right; omega)
                  have hC7 : Chg (OwnB (.slice (some ⟨g, 0, none⟩) xs.length co)) w1 w7 := ((HC5.out.mono fun _ e => e.elim).trans ((((Chg.refl (OwnB (.slice (some ⟨g, 0, none⟩) a a)) w5).alloc (.cells (encT (newT n)).toArray 73))).trans' hc6) (fun j hj => .inl (hcut j hj))).trans hc7 (fun j hj => hv6 j hj)
                  have HF := hid (H1.out.ins HN.out hxl a HAE.out hC7 ho7 hv7 hb8 hc8)
                  clear hb8 hc8 hs8 ho7 hc7 hn7 ho6 hc6 hn6 hC7 hv7 hv6 hcut
                  go_wp2_with fail
                  all_goals
                    go_ret
                    exact ⟨rfl, _, hid ⟨⟨v7, _, rfl, HF.out⟩, by first | (rw [hp, HAE.out]; exact rBegin_perm xs n (newT n)) | (rw [HAE.out]; exact rBegin_perm xs n (newT n))⟩⟩
    · have e1 : tBegin (xs.map (·.1)) n = (9, xs.map (·.1)) := by
        unfold tBegin
        rw [if_neg hn, h4, if_pos (by simp)]
      rw [e1] at hr
      have hp := hT.out _ _ e1
      subst hr
      have hix2 : ix = (i : Int) := by rw [hix.out, h1]
      have hi0 : (0 : Int) ≤ (i : Int) := by omega
      clear hn h hres h1 h2 h3 h4
      subst hix2
      go_enter Try.func15, Try.ntmps15
      go_wp2_with (go_at_call 30; refine (rFind_calls w0 _ p _ xs n HH.out _ hix).mono ?_; rintro e w1 ⟨rfl, hc1⟩)
      go_ret
      exact ⟨rfl, _, hid ⟨⟨_, xs, rfl, HH.out.keep hc1⟩, by first | rw [hp] | exact List.Perm.refl _⟩⟩
end Go.Proofs.Ytmikbjlgcndmeaa
