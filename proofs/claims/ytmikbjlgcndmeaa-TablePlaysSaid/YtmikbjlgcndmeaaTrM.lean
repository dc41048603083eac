import Derived.Test.YtmikbjlgcndmeaaTr9
namespace Go.Proofs.Ytmikbjlgcndmeaa
open Go.RowKit Go.ChangeMaps Go.MapKept
attribute [local go_sem] Go.Oper.rdK
set_option linter.unusedVariables false
set_option linter.unusedSimpArgs false
set_option linter.unnecessarySimpa false
set_option maxHeartbeats 8000000

/-- A new list of marks. -/
theorem MkK.made {w0 : Rsv} {w1 w6 : World} {p : Nat} {lv v6 : Value} {xs : List (TxS × Value)} (h : RtAt w0 w1 p lv xs) {s1 : TxS} {ms : List (Int × Int)} {mk : Int × Int} (hs : s1.marks = ms ++ [mk])
    (ho : OwW w6 75 2 v6 (0 + ms.length + 1) ([] ++ ms.flatMap encMk ++ encMk mk)) (hv : ∀ k, OwnB v6 k → w1.heap.size ≤ k) : MkK w0 p lv w6 (s1, v6) := by
  refine ⟨?_, fun k hk => ?_⟩
  · show Rd w6 2 encMk v6 s1.marks
    rw [hs]
    refine OwW.rd (size := 2) (enc := encMk) (fun _ => rfl) (e := 75) ?_
    rw [List.length_append, List.flatMap_append]
    simpa using ho
  · have h1 := hv k (slb_own hk)
    exact ⟨fun e => by have := lt_of_block h.blk; omega, fun e => by have := h.row.lt e; omega, Rsv.new h.chg h1⟩
theorem ow_empty {w : World} {e : TypeId} {size g : Nat} (h : w.heap[g]? = some (.cells #[] e (0, 0))) : OwW w e size (.slice (some ⟨g, 0, none⟩) 0 0) 0 [] := ⟨by simp, .inr ⟨g, 0, #[], rfl, h, Nat.le_refl _, by simp [maxLen], by simp, by simp⟩⟩
theorem own_at {g : Nat} : ∀ j, OwnB (.slice (some ⟨g, 0, none⟩) 0 0) j → j = g := fun j hj => by simpa [OwnB, Value.ownBlock, eq_comm] using hj

theorem blk_at {w : World} {o : Obj} {k k' : Nat} (h : w.heap[k]? = some o) (e : k = k') : w.heap[k']? = some o := e ▸ h

set_option maxRecDepth 100000 in
theorem rMark_calls (w0 : Rsv) (w : World) (p : Nat) (L : TTab) (n l : Int) (h : RT w0 w p L) (rn er : Int) (L' : TTab) (hres : Hid ((rn, er, L') = tMark L n l)) :
    Calls Try.prog 18 #[.pointer (some ⟨p, 0, none⟩), .int .i64 n, .int .i64 l] w fun e w' => e = .returned (.tuple #[.int .i64 rn, .int .i64 er]) ∧ Hid (RT w0 w' p L') := by
  obtain ⟨lv, xs, rfl, h⟩ := h
  obtain ⟨ix, hix⟩ := named (rIdx (xs.map (·.1)) n)
  have HH := hid h
  have hr := hres.out
  unfold tMark at hr
  rcases rIdx_cases (xs.map (·.1)) n with ⟨h1, h2⟩ | ⟨i, s, h1, h2, h3, h4⟩
  · rw [h2] at hr
    cases hr
    have hix2 : ix = -1 := by rw [hix.out, h1]
    clear h h1 h2 hres
    subst hix2
    go_enter Try.func18, Try.ntmps18
    go_wp2_with (go_at_call 30; refine (rFind_calls w0 _ p lv xs n HH.out _ hix).mono ?_; rintro e w1 ⟨rfl, hc1⟩)
    go_ret2
    exact ⟨rfl, hid ⟨lv, xs, rfl, HH.out.keep hc1⟩⟩
  · rw [h4] at hr
    rw [h1] at hix
    have hixe := hix.out
    subst hixe
    rw [List.getElem?_map] at h2
    obtain ⟨⟨s', mv⟩, hx, rfl⟩ := Option.map_eq_some_iff.1 h2
    have HX := hid hx
    obtain ⟨g, cap, rfl, hcap, c0, c1, c2, c3, c4⟩ := h.cells hx
    have hil := (List.getElem?_eq_some_iff.1 hx).1
    have HP := hid h.cell
    have hi0 : (0 : Int) ≤ (i : Int) := by omega
    have hi1 : (i : Int) < (xs.length : Int) := by omega
    have hin : ¬ (i : Int) < 0 := by omega
    have HIX : Hid ((i : Int) = rIdx (xs.map (·.1)) n) := hid h1.symm
    have hmk := hid (h.mks _ (List.mem_of_getElem? hx))
    have hft := hid (h.fit _ (List.mem_of_getElem? hx))
    obtain ⟨am, cm, em, hm1, hm2, hm3⟩ := hmk.out.rd
    simp only at em hm1 hm2 hm3 hr h3
    subst em
    unfold maxLen at hm2
    clear c0 c1 h h1 h2 h4 hx hres hix hm3
    by_cases hl : l = s'.left
    · subst hl
      rw [if_neg (by simp)] at hr
      have e1 : (s'.left != s'.left) = false := by simp
      by_cases hf : 4 ≤ s'.marks.length
      · rw [if_pos hf] at hr
        cases hr
        have hfi : (4 : Int) ≤ (s'.marks.length : Int) := by omega
        clear hf
        go_enter Try.func18, Try.ntmps18
        go_wp2_with (go_at_call 30; refine (rFind_calls w0 _ p _ xs n HH.out _ HIX).mono ?_; rintro e w1 ⟨rfl, hk1⟩; have c3 := hk1.cell c3 nob; have c4 := hk1.cell c4 nob; have hp1 := hk1.cell HP.out nob)
        go_ret2
        exact ⟨rfl, hid ⟨_, xs, rfl, HH.out.keep hk1⟩⟩
      · rw [if_neg hf] at hr
        obtain ⟨s1, hs1⟩ := named ({ s' with marks := s'.marks ++ [(s'.last, s'.left)] } : TxS)
        have hr2 : rn = (s'.marks.length : Int) ∧ er = 0 ∧ L' = tUpd (xs.map (·.1)) n s1 := by
          cases hr
          exact ⟨rfl, rfl, by rw [hs1.out]⟩
        obtain ⟨rfl, rfl, hL0⟩ := hr2
        have hL := hid hL0
        have hfi : ¬ (4 : Int) ≤ (s'.marks.length : Int) := by omega
        have hlen4 : s'.marks.length < 4 := by omega
        have hs1m : Hid (s1.marks = s'.marks ++ [(s'.last, s'.left)]) := hid (by rw [hs1.out])
        have hs1l : s1.marks.length = s'.marks.length + 1 := by rw [hs1m.out, List.length_append]; rfl
        have hs1e : Hid (∀ v, encT (s1, v) = (encT (s', .slice am s'.marks.length cm)).set 4 v) := hid (fun v => by rw [hs1.out]; rfl)
        have hs1t : Hid (s1.txn = s'.txn) := hid (by rw [hs1.out])
        have hfit1 : Hid (0 ≤ s1.left ∧ s1.left ≤ 1048576 ∧ s1.marks.length ≤ 4) := hid (by
          refine ⟨?_, ?_, by omega⟩
          · rw [hs1.out]; exact hft.out.1
          · rw [hs1.out]; exact hft.out.2.1)
        have hw : IntKind.i64.wrap ((s'.marks.length : Int) + 1 - 1) = (s'.marks.length : Int) := by rw [IntKind.wrap_i64]; omega
        have hLs : Hid (∀ v, L' = (xs.set i (s1, v)).map (·.1)) := hid (fun v => by
          rw [hL.out, fst_set, ← h3]
          exact tUpd_set HH.out.srt' (by rw [List.getElem?_map, HX.out]; rfl))
        have hone : Hid (∀ x ∈ s'.marks, ∀ u ∈ encMk x, u.oneCell' = true) := hid (fun x _ => by simp [encMk, Value.oneCell'])
        have HS1L := hid hs1l
        clear hf hr hL0 hs1l
        go_enter Try.func18, Try.ntmps18
        go_upto_region 8 with (go_at_call 30; refine (rFind_calls w0 _ p _ xs n HH.out _ HIX).mono ?_; rintro e w1 ⟨rfl, hk1⟩; have c2 := hk1.cell c2 nob; have c3 := hk1.cell c3 nob; have c4 := hk1.cell c4 nob; have hp1 := hk1.cell HP.out nob)
        have H1 := hid (HH.out.keep hk1)
        have hmk1 := hid ((hmk.out.keep hk1 (fun k e => e.elim)).rd)
        have HK1 := hid hk1
        clear hk1
        go_cut [] (fun wx => Hid (∃ v, RtAt w0 wx p (.slice (some ⟨g, 0, none⟩) xs.length cap) (xs.set i (s1, v))))
        case first =>
          refine wp_region_ord 30 (.rd 0 (.rd 1 (.rd 2 (.rd 3 (.rd 4 (.rd 6 (.rd 7 (.rd 8 (.rd 9 (.rd 10 (.rd 11 (.rd 12 (.rd 13 (.rd 15 (.rd 16 (.rd 17 (.rd 18 (.rd 19 (.rd 20 (.rd 21 (.rd 22 (.rd 23 (.rd 24 (.rd 25 (.two 5 (.two 14 (.one 26 (.one 27 (.rd 28 (.rd 29 (.one 30 (.done)))))) 26 (.one 14 (.one 27 (.rd 28 (.rd 29 (.one 30 (.done))))))) 26 (.one 5 (.one 14 (.one 27 (.rd 28 (.rd 29 (.one 30 (.done)))))))))))))))))))))))))))))))) (Same w1) (by kernel_rfl) (by kernel_rfl) (by kernel_rfl) (by kernel_rfl) (by kernel_rfl) (fun _ _ d _ _ h => by cases d <;> exact h) (Same.of (Chg.refl _ _).drew) (fun hS0 => ?_)
          refine wpOrd_rd rfl rfl (by first | decide | simp) (by assumption) (fun w' hw' K hK => by ((try unfold Same at hw'); (try go_split_ands); go_simp; exact hK)) ?_
          refine wpOrd_rd rfl rfl (by first | decide | simp) (by assumption) (fun w' hw' K hK => by ((try unfold Same at hw'); (try go_split_ands); go_simp; exact hK)) ?_
          refine wpOrd_rd rfl rfl (by first | decide | simp) (by assumption) (fun w' hw' K hK => by ((try unfold Same at hw'); (try go_split_ands); go_simp; exact hK)) ?_
          refine wpOrd_rd rfl rfl (by first | decide | simp) (by assumption) (fun w' hw' K hK => by ((try unfold Same at hw'); (try go_split_ands); go_simp; exact hK)) ?_
          refine wpOrd_rd rfl rfl (by first | decide | simp) (by assumption) (fun w' hw' K hK => by ((try unfold Same at hw'); (try go_split_ands); go_simp; exact hK)) ?_
          refine wpOrd_rd rfl rfl (by first | decide | simp) (by assumption) (fun w' hw' K hK => by ((try unfold Same at hw'); (try go_split_ands); go_simp; exact hK)) ?_
          refine wpOrd_rd rfl rfl (by first | decide | simp) (by assumption) (fun w' hw' K hK => by ((try unfold Same at hw'); (try go_split_ands); go_simp; exact hK)) ?_
          refine wpOrd_rd rfl rfl (by first | decide | simp) (by assumption) (fun w' hw' K hK => by ((try unfold Same at hw'); (try go_split_ands); go_simp; exact hK)) ?_
          refine wpOrd_rd rfl rfl (by first | decide | simp) (by assumption) (fun w' hw' K hK => by ((try unfold Same at hw'); (try go_split_ands); go_simp; exact hK)) ?_
          refine wpOrd_rd rfl rfl (by first | decide | simp) (by assumption) (fun w' hw' K hK => by ((try unfold Same at hw'); (try go_split_ands); go_simp; exact hK)) ?_
          refine wpOrd_rd rfl rfl (by first | decide | simp) (by assumption) (fun w' hw' K hK => by ((try unfold Same at hw'); (try go_split_ands); go_simp; exact hK)) ?_
          refine wpOrd_rd rfl rfl (by first | decide | simp) (by assumption) (fun w' hw' K hK => by ((try unfold Same at hw'); (try go_split_ands); go_simp; exact hK)) ?_
          refine wpOrd_rd rfl rfl (by first | decide | simp) (by assumption) (fun w' hw' K hK => by ((try unfold Same at hw'); (try go_split_ands); go_simp; exact hK)) ?_
          refine wpOrd_rd rfl rfl (by first | decide | simp) (by assumption) (fun w' hw' K hK => by ((try unfold Same at hw'); (try go_split_ands); go_simp; exact hK)) ?_
          refine wpOrd_rd rfl rfl (by first | decide | simp) (by assumption) (fun w' hw' K hK => by ((try unfold Same at hw'); (try go_split_ands); go_simp; exact hK)) ?_
          refine wpOrd_rd rfl rfl (by first | decide | simp) (by assumption) (fun w' hw' K hK => by ((try unfold Same at hw'); (try go_split_ands); go_simp; exact hK)) ?_
          refine wpOrd_rd rfl rfl (by first | decide | simp) (by assumption) (fun w' hw' K hK => by ((try unfold Same at hw'); (try go_split_ands); go_simp; exact hK)) ?_
          refine wpOrd_rd rfl rfl (by first | decide | simp) (by assumption) (fun w' hw' K hK => by ((try unfold Same at hw'); (try go_split_ands); go_simp; exact hK)) ?_
          refine wpOrd_rd rfl rfl (by first | decide | simp) (by assumption) (fun w' hw' K hK => by ((try unfold Same at hw'); (try go_split_ands); go_simp; exact hK)) ?_
          refine wpOrd_rd rfl rfl (by first | decide | simp) (by assumption) (fun w' hw' K hK => by ((try unfold Same at hw'); (try go_split_ands); go_simp; exact hK)) ?_
          refine wpOrd_rd rfl rfl (by first | decide | simp) (by assumption) (fun w' hw' K hK => by ((try unfold Same at hw'); (try go_split_ands); go_simp; exact hK)) ?_
          refine wpOrd_rd rfl rfl (by first | decide | simp) (by assumption) (fun w' hw' K hK => by ((try unfold Same at hw'); (try go_split_ands); go_simp; exact hK)) ?_
          refine wpOrd_rd rfl rfl (by first | decide | simp) (by assumption) (fun w' hw' K hK => by ((try unfold Same at hw'); (try go_split_ands); go_simp; exact hK)) ?_
          refine wpOrd_rd rfl rfl (by first | decide | simp) (by assumption) (fun w' hw' K hK => by ((try unfold Same at hw'); (try go_split_ands); go_simp; exact hK)) ?_
          refine wpOrd_two rfl rfl ?_ ?_
          · (first | refine wpList_plain rfl (fun K hK => ?_) | refine wpList_step (fun K hK => ?_))
            go_simp
            refine hK _ _ ?_
            clear hK K
            (try dsimp only [Act.put])
            refine wpOrd_done (Same.of ((Chg.refl NoB w1).drew.alloc (.cells #[] 75))) (fun hS1 => ?_)
            refine wpOrd_two rfl rfl ?_ ?_
            · refine step_appQ slMk rfl _ _ rfl (ow_empty (blk_new _ _)) rfl (enc := encMk) (fun x => rfl) (l2 := s'.marks) hone.out (hmk1.out.mono ((Chg.refl NoB w1).drew.alloc (.cells #[] 75))) rfl (by omega) (by unfold maxLen; omega) ?_; intro v5 w5 ho5 hc5 hn5
              have C5 : Chg NoB w1 w5 := ((Chg.refl NoB w1).drew.alloc (.cells #[] 75)).new hc5 (fun j hj => by have h9 := own_at j hj; rw [h9]; exact Nat.le_refl _)
              have hv5 : ∀ j, OwnB v5 j → w1.heap.size ≤ j := fun j hj => (hn5 j hj).elim (fun h5 => by have h9 := own_at j h5; rw [h9]; exact Nat.le_refl _) (fun h5 => by simp at h5; omega)
              (try dsimp only [Act.put])
              (try simp only [List.setIfInBounds_toArray, List.set_cons_zero, List.set_cons_succ])
              refine wpOrd_done (Same.of C5) (fun hS2 => ?_)
              refine wpOrd_do rfl ?_
              (first | refine wpList_plain rfl (fun K hK => ?_) | refine wpList_step (fun K hK => ?_))
              go_simp
              refine hK _ _ ?_
              clear hK K
              (try dsimp only [Act.put])
              refine wpOrd_done (Same.of (C5.alloc (.cells (encMk (s'.last, s'.left)).toArray 75))) (fun hS3 => ?_)
              refine wpOrd_do rfl ?_
              refine step_appW slMk rfl _ _ rfl (ho5.keep ((Chg.refl NoB w5).alloc (.cells (encMk (s'.last, s'.left)).toArray 75)) (fun _ _ => nob)) rfl ⟨w5.heap.size, 0, none⟩ 1 1 (encMk (s'.last, s'.left)) rfl rfl (newsB (blk_new _ _)) (by simp [encMk, Value.oneCell']) (by omega) (by unfold maxLen; omega) ?_; intro v6 w6 ho6 hc6 hn6
              have C6 : Chg NoB w1 w6 := (C5.alloc (.cells (encMk (s'.last, s'.left)).toArray 75)).new hc6 hv5
              have hv6 : ∀ j, OwnB v6 j → w1.heap.size ≤ j := fun j hj => (hn6 j hj).elim (fun h5 => hv5 j h5) (fun h5 => by have := C5.size; (try simp at h5); omega)
              (try dsimp only [Act.put])
              (try simp only [List.setIfInBounds_toArray, List.set_cons_zero, List.set_cons_succ])
              refine wpOrd_done (Same.of C6) (fun hS4 => ?_)
              refine wpOrd_rd rfl rfl (by first | decide | simp) (by assumption) (fun w' hw' K hK => by ((try unfold Same at hw'); (try go_split_ands); go_simp; exact hK)) ?_
              refine wpOrd_rd rfl rfl (by first | decide | simp) (by assumption) (fun w' hw' K hK => by ((try unfold Same at hw'); (try go_split_ands); go_simp; exact hK)) ?_
              refine wpOrd_do rfl ?_
              refine step_setT rfl rfl (H1.out.keep C6) i 4 (s1, v6) HX.out (by omega) rfl rfl (by obtain ⟨_, _, rfl, _⟩ := ho6.form; rfl) (by obtain ⟨_, _, rfl, _⟩ := ho6.form; rfl) (hs1e.out v6) hs1t.out (MkK.made H1.out hs1m.out ho6 hv6) hfit1.out (by kernel_rfl) ?_; intro w7 h7
              (try dsimp only [Act.put])
              refine wpOrd_last ?_
              refine wpOrd_nil ?_
              go_wp2_with fail
              go_meet
              exact ⟨v6, h7⟩
            · (first | refine wpList_plain rfl (fun K hK => ?_) | refine wpList_step (fun K hK => ?_))
              go_simp
              refine hK _ _ ?_
              clear hK K
              (try dsimp only [Act.put])
              refine wpOrd_done (Same.of (((Chg.refl NoB w1).drew.alloc (.cells #[] 75)).alloc (.cells (encMk (s'.last, s'.left)).toArray 75))) (fun hS6 => ?_)
              refine wpOrd_do rfl ?_
              refine step_appQ slMk rfl _ _ rfl (ow_empty (blk_alloc (blk_new _ _) _)) rfl (enc := encMk) (fun x => rfl) (l2 := s'.marks) hone.out (hmk1.out.mono (((Chg.refl NoB w1).drew.alloc (.cells #[] 75)).alloc (.cells (encMk (s'.last, s'.left)).toArray 75))) rfl (by omega) (by unfold maxLen; omega) ?_; intro v5 w5 ho5 hc5 hn5
              have C5 : Chg NoB w1 w5 := (((Chg.refl NoB w1).drew.alloc (.cells #[] 75)).alloc (.cells (encMk (s'.last, s'.left)).toArray 75)).new hc5 (fun j hj => by have h9 := own_at j hj; rw [h9]; exact Nat.le_refl _)
              have hv5 : ∀ j, OwnB v5 j → w1.heap.size ≤ j := fun j hj => (hn5 j hj).elim (fun h5 => by have h9 := own_at j h5; rw [h9]; exact Nat.le_refl _) (fun h5 => by simp at h5; omega)
              (try dsimp only [Act.put])
              (try simp only [List.setIfInBounds_toArray, List.set_cons_zero, List.set_cons_succ])
              refine wpOrd_done (Same.of C5) (fun hS7 => ?_)
              refine wpOrd_do rfl ?_
              refine step_appW slMk rfl _ _ rfl (ho5) rfl ⟨w1.heap.size + 1, 0, none⟩ 1 1 (encMk (s'.last, s'.left)) rfl rfl (newsB (hc5.heap (k := w1.heap.size + 1) (blk_at (blk_new _ _) (by simp)) (fun h => by have h9 := own_at _ h; omega))) (by simp [encMk, Value.oneCell']) (by omega) (by unfold maxLen; omega) ?_; intro v6 w6 ho6 hc6 hn6
              have C6 : Chg NoB w1 w6 := (C5).new hc6 hv5
              have hv6 : ∀ j, OwnB v6 j → w1.heap.size ≤ j := fun j hj => (hn6 j hj).elim (fun h5 => hv5 j h5) (fun h5 => by have := C5.size; (try simp at h5); omega)
              (try dsimp only [Act.put])
              (try simp only [List.setIfInBounds_toArray, List.set_cons_zero, List.set_cons_succ])
              refine wpOrd_done (Same.of C6) (fun hS8 => ?_)
              refine wpOrd_rd rfl rfl (by first | decide | simp) (by assumption) (fun w' hw' K hK => by ((try unfold Same at hw'); (try go_split_ands); go_simp; exact hK)) ?_
              refine wpOrd_rd rfl rfl (by first | decide | simp) (by assumption) (fun w' hw' K hK => by ((try unfold Same at hw'); (try go_split_ands); go_simp; exact hK)) ?_
              refine wpOrd_do rfl ?_
              refine step_setT rfl rfl (H1.out.keep C6) i 4 (s1, v6) HX.out (by omega) rfl rfl (by obtain ⟨_, _, rfl, _⟩ := ho6.form; rfl) (by obtain ⟨_, _, rfl, _⟩ := ho6.form; rfl) (hs1e.out v6) hs1t.out (MkK.made H1.out hs1m.out ho6 hv6) hfit1.out (by kernel_rfl) ?_; intro w7 h7
              (try dsimp only [Act.put])
              refine wpOrd_last ?_
              refine wpOrd_nil ?_
              go_wp2_with fail
              go_meet
              exact ⟨v6, h7⟩
          · (first | refine wpList_plain rfl (fun K hK => ?_) | refine wpList_step (fun K hK => ?_))
            go_simp
            refine hK _ _ ?_
            clear hK K
            (try dsimp only [Act.put])
            refine wpOrd_done (Same.of ((Chg.refl NoB w1).drew.alloc (.cells (encMk (s'.last, s'.left)).toArray 75))) (fun hS10 => ?_)
            refine wpOrd_do rfl ?_
            (first | refine wpList_plain rfl (fun K hK => ?_) | refine wpList_step (fun K hK => ?_))
            go_simp
            refine hK _ _ ?_
            clear hK K
            (try dsimp only [Act.put])
            refine wpOrd_done (Same.of (((Chg.refl NoB w1).drew.alloc (.cells (encMk (s'.last, s'.left)).toArray 75)).alloc (.cells #[] 75))) (fun hS11 => ?_)
            refine wpOrd_do rfl ?_
            refine step_appQ slMk rfl _ _ rfl (ow_empty (blk_at (blk_new _ _) (by simp))) rfl (enc := encMk) (fun x => rfl) (l2 := s'.marks) hone.out (hmk1.out.mono (((Chg.refl NoB w1).drew.alloc (.cells (encMk (s'.last, s'.left)).toArray 75)).alloc (.cells #[] 75))) rfl (by omega) (by unfold maxLen; omega) ?_; intro v5 w5 ho5 hc5 hn5
            have C5 : Chg NoB w1 w5 := (((Chg.refl NoB w1).drew.alloc (.cells (encMk (s'.last, s'.left)).toArray 75)).alloc (.cells #[] 75)).new hc5 (fun j hj => by have h9 := own_at j hj; rw [h9]; omega)
            have hv5 : ∀ j, OwnB v5 j → w1.heap.size ≤ j := fun j hj => (hn5 j hj).elim (fun h5 => by have h9 := own_at j h5; rw [h9]; omega) (fun h5 => by simp at h5; omega)
            (try dsimp only [Act.put])
            (try simp only [List.setIfInBounds_toArray, List.set_cons_zero, List.set_cons_succ])
            refine wpOrd_done (Same.of C5) (fun hS12 => ?_)
            refine wpOrd_do rfl ?_
            refine step_appW slMk rfl _ _ rfl (ho5) rfl ⟨w1.heap.size, 0, none⟩ 1 1 (encMk (s'.last, s'.left)) rfl rfl (newsB (hc5.heap (blk_alloc (blk_new _ _) _) (fun h => by have h9 := own_at _ h; omega))) (by simp [encMk, Value.oneCell']) (by omega) (by unfold maxLen; omega) ?_; intro v6 w6 ho6 hc6 hn6
            have C6 : Chg NoB w1 w6 := (C5).new hc6 hv5
            have hv6 : ∀ j, OwnB v6 j → w1.heap.size ≤ j := fun j hj => (hn6 j hj).elim (fun h5 => hv5 j h5) (fun h5 => by have := C5.size; (try simp at h5); omega)
            (try dsimp only [Act.put])
            (try simp only [List.setIfInBounds_toArray, List.set_cons_zero, List.set_cons_succ])
            refine wpOrd_done (Same.of C6) (fun hS13 => ?_)
            refine wpOrd_rd rfl rfl (by first | decide | simp) (by assumption) (fun w' hw' K hK => by ((try unfold Same at hw'); (try go_split_ands); go_simp; exact hK)) ?_
            refine wpOrd_rd rfl rfl (by first | decide | simp) (by assumption) (fun w' hw' K hK => by ((try unfold Same at hw'); (try go_split_ands); go_simp; exact hK)) ?_
            refine wpOrd_do rfl ?_
            refine step_setT rfl rfl (H1.out.keep C6) i 4 (s1, v6) HX.out (by omega) rfl rfl (by obtain ⟨_, _, rfl, _⟩ := ho6.form; rfl) (by obtain ⟨_, _, rfl, _⟩ := ho6.form; rfl) (hs1e.out v6) hs1t.out (MkK.made H1.out hs1m.out ho6 hv6) hfit1.out (by kernel_rfl) ?_; intro w7 h7
            (try dsimp only [Act.put])
            refine wpOrd_last ?_
            refine wpOrd_nil ?_
            go_wp2_with fail
            go_meet
            exact ⟨v6, h7⟩
        case rest =>
          obtain ⟨v, h7⟩ := hcut.out
          have hx7 : (xs.set i (s1, v))[i]? = some (s1, v) := by rw [List.getElem?_set, if_pos rfl, if_pos hil]
          have hp7 := h7.cell
          obtain ⟨_, _, ee, _, _, _, _, _, d4⟩ := h7.cells hx7
          simp only [List.length_set] at ee
          cases ee
          obtain ⟨_, _, e9, _, _, h9⟩ := (h7.mks _ (List.mem_of_getElem? hx7)).rd
          simp only [HS1L.out] at e9
          subst e9
          have H7 := hid h7
          have hw2 : IntKind.i64.wrap ((s'.marks.length : Int)) = (s'.marks.length : Int) := by rw [IntKind.wrap_i64]; omega
          clear h9 hx7 h7 hcut c2 c3 c4 hp1
          go_wp2_with fail
          go_ret2
          exact ⟨rfl, hid ⟨_, _, (hLs.out _).symm, H7.out⟩⟩
    · rw [if_pos hl] at hr
      cases hr
      have e1 : (l != s'.left) = true := by simpa using hl
      clear hl
      go_enter Try.func18, Try.ntmps18
      go_wp2_with (go_at_call 30; refine (rFind_calls w0 _ p _ xs n HH.out _ HIX).mono ?_; rintro e w1 ⟨rfl, hk1⟩; have c3 := hk1.cell c3 nob; have c4 := hk1.cell c4 nob; have hp1 := hk1.cell HP.out nob)
      go_ret2
      exact ⟨rfl, hid ⟨_, xs, rfl, HH.out.keep hk1⟩⟩
end Go.Proofs.Ytmikbjlgcndmeaa
