import Derived.Test.YtmikbjlgcndmeaaTr6
namespace Go.Proofs.Ytmikbjlgcndmeaa
open Go.RowKit Go.ChangeMaps Go.MapKept
attribute [local go_sem] Go.Oper.rdK
set_option linter.unusedVariables false
set_option linter.unusedSimpArgs false
set_option linter.unnecessarySimpa false
set_option maxHeartbeats 8000000

theorem tail_blk {g c k n m q : Nat} (h : SlB (.slice (if c = q then some ⟨g, 0, none⟩ else some ⟨g, n, none⟩) m (c - q)) k) : k = g := by
  obtain ⟨off, n', c', e, _⟩ := h
  split at e <;> (cases e; rfl)
set_option maxRecDepth 100000 in
theorem rEnd_calls (w0 : Rsv) (w : World) (p : Nat) (L : TTab) (n : Int) (h : RT w0 w p L) (res : Int) (L' : TTab) (hres : Hid ((res, L') = tEnd L n)) :
    Calls Try.prog 21 #[.pointer (some ⟨p, 0, none⟩), .int .i64 n] w fun e w' => e = .returned (.int .i64 res) ∧ Hid (RT w0 w' p L') := by
  obtain ⟨lv, xs, rfl, h⟩ := h
  obtain ⟨ix, hix⟩ := named (rIdx (xs.map (·.1)) n)
  have HH := hid h
  have hr := hres.out
  unfold tEnd at hr
  rcases rIdx_cases (xs.map (·.1)) n with ⟨h1, h2⟩ | ⟨i, s, h1, h2, h3, h4⟩
  · rw [h2] at hr
    cases hr
    have hix2 : ix = -1 := by rw [hix.out, h1]
    clear h h1 h2 hres
    subst hix2
    go_enter Try.func21, Try.ntmps21
    go_wp2_with (go_at_call 30; refine (rFind_calls w0 _ p lv xs n HH.out _ hix).mono ?_; rintro e w1 ⟨rfl, hc1⟩)
    go_ret
    exact ⟨rfl, hid ⟨lv, xs, rfl, HH.out.keep hc1⟩⟩
  · rw [h4] at hr
    rw [h1] at hix
    have hixe := hix.out
    subst hixe
    rw [List.getElem?_map] at h2
    obtain ⟨⟨s', mv⟩, hx, rfl⟩ := Option.map_eq_some_iff.1 h2
    have HX := hid hx
    obtain ⟨g, cap, rfl, hcap, _⟩ := h.cells hx
    have hil := (List.getElem?_eq_some_iff.1 hx).1
    have HP := hid h.cell
    have hi0 : (0 : Int) ≤ (i : Int) := by omega
    have hin : ¬ (i : Int) < 0 := by omega
    have HIX : Hid ((i : Int) = rIdx (xs.map (·.1)) n) := hid h1.symm
    simp only at hr h3
    have hr2 : res = 0 ∧ L' = (xs.take i ++ xs.drop (i + 1)).map (·.1) := by
      cases hr
      refine ⟨rfl, ?_⟩
      rw [← h3]
      exact srt_erase HH.out.srt HX.out
    obtain ⟨rfl, hL0⟩ := hr2
    have hL := hid hL0
    have hw : IntKind.i64.wrap ((i : Int) + 1) = (i : Int) + 1 := by rw [IntKind.wrap_i64]; have := HH.out.few; omega
    have hic : (i : Int) ≤ (cap : Int) := by omega
    have hi1 : (0 : Int) ≤ (i : Int) + 1 := by omega
    have hi2 : (i : Int) + 1 ≤ (xs.length : Int) := by omega
    have hlc : (xs.length : Int) ≤ (cap : Int) := by omega
    have hfew := HH.out.few
    clear h h1 h2 h4 hx hres hix hr hL0
    go_enter Try.func21, Try.ntmps21
    go_upto_region 4 with (go_at_call 30; refine (rFind_calls w0 _ p _ xs n HH.out _ HIX).mono ?_; rintro e w1 ⟨rfl, hc1⟩; have hp1 := hc1.cell HP.out nob)
    have H1 := hid (HH.out.keep hc1)
    have hb0 : OwnB (.slice (some ⟨g, 0, none⟩) xs.length cap) g := by simp [OwnB, Value.ownBlock]
    have hgp : g ≠ p := fun e => H1.out.no (by rw [← e]; exact hb0)
    have hpl := lt_of_block H1.out.blk
    have hgl := H1.out.row.lt hb0
    have hrd := hid (H1.out.row.rd (enc := encT) (fun x => by simp [encT]))
    have hone : Hid (∀ x ∈ xs, ∀ u ∈ encT x, u.oneCell' = true) := hid (fun x hx => (H1.out.mks x hx).one)
    have hE : ∀ j, OwnB (.slice (some ⟨w1.heap.size, 0, none⟩) 0 0) j → j = w1.heap.size := fun j hj => by simpa [OwnB, Value.ownBlock, eq_comm] using hj
    have HE := hid hE
    have hA0 : Hid (OwW ((w1.drew).alloc (.cells #[] 73)) 73 5 (.slice (some ⟨w1.heap.size, 0, none⟩) 0 0) 0 []) := hid ⟨rfl, .inr ⟨w1.heap.size, 0, _, rfl, blk_new _ _, Nat.le_refl _, by simp [maxLen], by simp, by simp⟩⟩
    have hlt1 : (xs.take i).length = i := by rw [List.length_take]; omega
    have hld1 : (xs.drop (i + 1)).length = xs.length - (i + 1) := List.length_drop
    clear hE
    refine wp_region_ord 19 (.rd 0 (.rd 2 (.rd 3 (.rd 4 (.rd 5 (.rd 6 (.rd 7 (.rd 9 (.rd 10 (.rd 11 (.rd 12 (.rd 13 (.rd 14 (.rd 15 (.one 1 (.one 8 (.one 16 (.rd 17 (.rd 18 (.one 19 (.done))))))))))))))))))))) (fun w' => w'.cell? ⟨p, 0, none⟩ = some (.slice (some ⟨g, 0, none⟩) xs.length cap)) (by kernel_rfl) (by kernel_rfl) (by kernel_rfl) (by kernel_rfl) (by kernel_rfl) (fun _ _ d _ _ h => by cases d <;> exact h) (hp1) (fun hS0 => ?_)
    refine wpOrd_rd rfl rfl (by first | decide | simp) (by assumption) (fun w' hw' K hK => by ((try unfold Same at hw'); (try go_split_ands); go_simp; exact hK)) ?_
    refine wpOrd_rd rfl rfl (by first | decide | simp) (by assumption) (fun w' hw' K hK => by ((try unfold Same at hw'); (try go_split_ands); go_simp; exact hK)) ?_
    refine wpOrd_rd rfl rfl (by first | decide | simp) (by assumption) (fun w' hw' K hK => by ((try unfold Same at hw'); (try go_split_ands); go_simp; exact hK)) ?_
    refine wpOrd_rd rfl rfl (by first | decide | simp) (by assumption) (fun w' hw' K hK => by ((try unfold Same at hw'); (try go_split_ands); go_simp; exact hK)) ?_
    refine wpOrd_rd rfl rfl (by first | decide | simp) (by assumption) (fun w' hw' K hK => by ((try unfold Same at hw'); (try go_split_ands); go_simp; exact hK)) ?_
    refine wpOrd_rd rfl rfl (by first | decide | simp) (by assumption) (fun w' hw' K hK => by ((try unfold Same at hw'); (try go_split_ands); go_simp; exact hK)) ?_
    refine wpOrd_rd rfl rfl (by first | decide | simp) (by assumption) (fun w' hw' K hK => by ((try unfold Same at hw'); (try go_split_ands); go_simp; exact hK)) ?_
    refine wpOrd_rd rfl rfl (by first | decide | simp) (by assumption) (fun w' hw' K hK => by ((try unfold Same at hw'); (try go_split_ands); go_simp; exact hK)) ?_
    refine wpOrd_rd rfl rfl (by first | decide | simp) (by assumption) (fun w' hw' K hK => by ((try unfold Same at hw'); (try go_split_ands); go_simp; exact hK)) ?_
    refine wpOrd_rd rfl rfl (by first | decide | simp) (by assumption) (fun w' hw' K hK => by ((try unfold Same at hw'); (try go_split_ands); go_simp; exact hK)) ?_
    refine wpOrd_rd rfl rfl (by first | decide | simp) (by assumption) (fun w' hw' K hK => by ((try unfold Same at hw'); (try go_split_ands); go_simp; exact hK)) ?_
    refine wpOrd_rd rfl rfl (by first | decide | simp) (by assumption) (fun w' hw' K hK => by ((try unfold Same at hw'); (try go_split_ands); go_simp; exact hK)) ?_
    refine wpOrd_rd rfl rfl (by first | decide | simp) (by assumption) (fun w' hw' K hK => by ((try unfold Same at hw'); (try go_split_ands); go_simp; exact hK)) ?_
    refine wpOrd_rd rfl rfl (by first | decide | simp) (by assumption) (fun w' hw' K hK => by ((try unfold Same at hw'); (try go_split_ands); go_simp; exact hK)) ?_
    refine wpOrd_do rfl ?_
    (first | refine wpList_plain rfl (fun K hK => ?_) | refine wpList_step (fun K hK => ?_))
    go_simp
    refine hK _ _ ?_
    clear hK K
    (try dsimp only [Act.put])
    refine wpOrd_done (((Chg.refl NoB w1).drew.alloc _).cell hp1 nob) (fun hS1 => ?_)
    refine wpOrd_do rfl ?_
    refine step_appQ slTxn rfl _ _ rfl hA0.out rfl (enc := encT) (fun x => by simp [encT]) (l2 := xs.take i) (fun x hx => hone.out x (List.mem_of_mem_take hx)) ((hrd.out.head i (by omega)).mono ((Chg.refl NoB w1).drew.alloc _)) rfl (by omega) (by unfold maxLen; omega) ?_; intro v5 w5 ho5 hc5 hn5
    have hv5 : ∀ k, OwnB v5 k → w1.heap.size ≤ k := fun k hk => (hn5 k hk).elim (fun h5 => by have := HE.out k h5; omega) (fun h5 => by simp at h5; omega)
    (try dsimp only [Act.put])
    (try simp only [List.setIfInBounds_toArray, List.set_cons_zero, List.set_cons_succ])
    refine wpOrd_done (hc5.cell (((Chg.refl NoB w1).drew.alloc _).cell hp1 nob) (fun h => by have := HE.out p h; omega)) (fun hS2 => ?_)
    refine wpOrd_do rfl ?_
    refine step_appQ slTxn rfl _ _ rfl ho5 rfl (enc := encT) (fun x => by simp [encT]) (l2 := xs.drop (i + 1)) (fun x hx => hone.out x (List.mem_of_mem_drop hx)) (((hrd.out.tail (i + 1) (by omega)).mono ((Chg.refl NoB w1).drew.alloc (.cells #[] 73))).keepS hc5 (fun k hk hS => by have h5 := HE.out k hS; have h6 := tail_blk hk; omega)) rfl (by omega) (by unfold maxLen; omega) ?_; intro v6 w6 ho6 hc6 hn6
    (try dsimp only [Act.put])
    (try simp only [List.setIfInBounds_toArray, List.set_cons_zero, List.set_cons_succ])
    refine wpOrd_done (hc6.cell (hc5.cell (((Chg.refl NoB w1).drew.alloc (.cells #[] 73)).cell hp1 nob) (fun h => by have := HE.out p h; omega)) (fun h => by have := hv5 p h; omega)) (fun hS3 => ?_)
    refine wpOrd_rd rfl rfl (by first | decide | simp) (by assumption) (fun w' hw' K hK => by ((try unfold Same at hw'); (try go_split_ands); go_simp; exact hK)) ?_
    refine wpOrd_rd rfl rfl (by first | decide | simp) (by assumption) (fun w' hw' K hK => by ((try unfold Same at hw'); (try go_split_ands); go_simp; exact hK)) ?_
    refine wpOrd_do rfl ?_
    refine step_storeC rfl rfl p 0 rfl rfl (by obtain ⟨_, _, rfl, _⟩ := ho6.form; rfl) (by obtain ⟨_, _, rfl, _⟩ := ho6.form; rfl) (cs := [.slice (some ⟨g, 0, none⟩) xs.length cap]) (hc6.heap (hc5.heap (((Chg.refl NoB w1).drew.alloc (.cells #[] 73)).heap H1.out.blk nob) (fun h => by have := HE.out p h; omega)) (fun h => by have := hv5 p h; omega)) (by simp) (by kernel_rfl) ?_; intro w7 hb7 hc7 hs7
    (try dsimp only [Act.put])
    refine wpOrd_last ?_
    refine wpOrd_nil ?_
    have hv6 : ∀ k, OwnB v6 k → w1.heap.size ≤ k := fun k hk => by
      rcases hn6 k hk with h5 | h5
      · exact hv5 k h5
      · have := hc5.size; simp at this; omega
    have hC : Chg NoB w1 w6 := (((Chg.refl NoB w1).drew.alloc (.cells #[] 73)).new hc5 (fun k hk => by have := HE.out k hk; omega)).new hc6 (fun k hk => hv5 k hk)
    have hno6 : ¬ OwnB v6 p := fun h => by have := hv6 p h; omega
    have hlen : (xs.take i ++ xs.drop (i + 1)).length = 0 + (xs.take i).length + (xs.drop (i + 1)).length := by simp
    have hmkk : ∀ x ∈ xs, MkK w0 p v6 w6 x := fun x hx => ((H1.out.mks x hx).turn (lv' := v6) (fun k hk => .inr (hv6 k hk))).keep hC (fun k hk => hk.elim)
    have hsub : (xs.take i ++ xs.drop (i + 1)).Sublist xs := by
      have := (List.Sublist.refl (xs.take i)).append (List.drop_sublist 1 (xs.drop i))
      rw [List.drop_drop, List.take_append_drop] at this
      exact this
    have HN : Hid (RtAt w0 w7 p v6 (xs.take i ++ xs.drop (i + 1))) := hid ⟨by rw [hb7]; rfl, by
        have h9 := ho6.keep hc7 (fun k hk e => hno6 (by have h' : k = p := e; rwa [h'] at hk))
        rw [hlen, List.flatMap_append]
        simpa using h9, fun x hx => (hmkk x (hsub.mem hx)).keep hc7 (fun k hk => .inl hk), hno6, fun k hk => Rsv.new H1.out.chg (hv6 k hk), H1.out.ge, (H1.out.chg.trans hC (fun _ e => e.elim)).trans hc7 (fun k hk => .inl (by have h' : k = p := hk; rw [h']; exact H1.out.ge)), by have := hsub.length_le; have := H1.out.few; omega, H1.out.srt.sublist hsub, fun x hx => H1.out.fit x (hsub.mem hx)⟩
    clear hb7 hc7 hs7 ho6 hc6 hn6 ho5 hc5 hn5 hmkk hC hv6 hv5 hno6 hS0 hS1 hS2 hS3 hp1
    go_wp2_with fail
    all_goals
      go_ret
      exact ⟨rfl, hid ⟨v6, _, hL.out.symm, HN.out⟩⟩
end Go.Proofs.Ytmikbjlgcndmeaa
