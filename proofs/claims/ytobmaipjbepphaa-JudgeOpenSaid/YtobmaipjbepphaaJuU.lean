import Derived.Test.YtobmaipjbepphaaJuS
namespace Go.Proofs.Ytobmaipjbepphaa
open Go.RowKit Go.ChangeMaps Go.MapKept
attribute [local go_sem] Go.Oper.rdK
set_option linter.unusedVariables false
set_option maxHeartbeats 8000000

theorem snoc_cases {α : Type} (l : List α) : l = [] ∨ ∃ ys y, l = ys ++ [y] := by
  rcases h : l.reverse with _ | ⟨y, ys⟩
  · exact .inl (by simpa using h)
  · exact .inr ⟨ys.reverse, y, by rw [← List.reverse_reverse l, h]; simp⟩

set_option maxRecDepth 100000 in
theorem undone_calls (e : JE) (b o : Nat) (r : Rec) (v1 v2 : Value) (w : World) (he : JI.ok w e) (hr : RcAt w b o r v1 v2) (hbe : b ≠ e.b) (hne : ¬ OwnB e.mv e.b)
    (res : Bool) (st : List Rec) (hres : Hid ((res, st) = jUndo e.s.stand r)) :
    Calls Try.prog 33 #[.pointer (some ⟨e.b, 0, none⟩), .pointer (some ⟨b, o, none⟩)] w fun en w' => en = .returned (.bool res) ∧ ∃ mv, JI.ok w' { e with s := { e.s with stand := st }, mv := mv } ∧ (∀ k, OwnB mv k → OwnB e.mv k) ∧ Chg (OneB e.b) w w' := by
  obtain ⟨c0, c1, c2, c3, c4, c5, c6, c7, c8⟩ := hr.cells
  clear c0 c1 c4 c6 c7
  obtain ⟨hblk, hst⟩ := he
  have e3 : w.cell? ⟨e.b, 3, none⟩ = some e.mv := by rw [cell_blk hblk]; rfl
  have f3 : w.frozen? ⟨e.b, 3, none⟩ = false := frozen_blk hblk 3
  have HB := hid hblk
  have hbl := lt_of_block hblk
  obtain ⟨xs, hx1, hx2, hx3, hx4⟩ := id hst
  obtain ⟨ao, cap, hmv, hm1, hm2, hm3⟩ := hx2.form
  have HST := hid hst
  clear hst hblk
  rcases snoc_cases xs with rfl | ⟨ys, y, rfl⟩
  · have hs0 : e.s.stand = [] := by rw [← hx1]; rfl
    have hr0 := hres.out
    rw [hs0] at hr0
    cases hr0
    have HE := hid hmv
    simp only [List.length_nil] at hmv
    rw [hmv] at e3
    clear hmv hx1 hx2 hx3 hres
    go_enter Try.func33, Try.ntmps33
    go_wp2
    go_ret
    refine ⟨rfl, e.mv, ⟨HB.out, ?_⟩, fun k hk => hk, Chg.refl _ _⟩
    have := HST.out
    rw [hs0] at this
    exact this
  · have hlen : (ys ++ [y]).length = ys.length + 1 := by simp
    obtain ⟨m, hm⟩ := named ys.length
    rw [hlen, ← hm.out] at hm1 hm2 hmv hx2
    obtain ⟨c, hcy⟩ := named y.1
    have hlast : e.s.stand = ys.map (·.1) ++ [c] := by rw [← hx1, hcy.out]; simp
    have hJ : Hid (res = (r.page == c.page && (r.off == c.off && (r.after.toList == c.before.toList && r.next == c.prev))) ∧ st = ys.map (·.1)) := by
      have := hres.out
      rw [hlast] at this
      unfold jUndo at this
      simp at this
      exact hid (by simpa using this)
    rcases hx2.2 with ⟨_, h0⟩ | ⟨g, cap', cur, hv, hgb, _⟩
    · omega
    obtain ⟨g', cap'', hv', hcc, hcell⟩ := OwW.cell (l := ys ++ [y]) (enc := encRv) encRv_len (by rw [hlen, ← hm.out]; exact hx2) (i := m) (x := y) (by rw [hm.out]; simp)
    rw [hlen, ← hm.out] at hv' hcc
    have hvg := hv.symm.trans hv'
    simp only [Value.slice.injEq, Option.some.injEq, Addr.mk.injEq, true_and, and_true] at hvg
    obtain ⟨rfl, rfl⟩ := hvg
    have hgb : g ≠ e.b := fun x => hne (by rw [hv]; simp [OwnB, Value.ownBlock, x])
    obtain ⟨y1, y2, y3⟩ := y
    obtain ⟨o1, o2⟩ := hx4 (y1, y2, y3) (by simp)
    have HX4 := hid hx4
    clear hx4
    simp only [] at hcy
    rw [← hcy.out] at hcell
    have hcl : ∀ j v, (c.cs y2 y3)[j]? = some v → w.cell? ⟨g, m * 11 + j, none⟩ = some v := fun j v hv => hcell j v hv
    have HC := hid hcl
    have HX := hid hx2
    have HV := hid hv
    have HY : Hid ((∀ r ∈ e.s.stand, r.okk) ∧ e.s.stand = ys.map (·.1) ++ [c]) := hid ⟨hx3, hlast⟩
    rw [hv] at e3
    unfold maxLen at hm2
    clear hcl hcell hx1 hx2 hx3 hmv hv hv' hlast hres hlen
    go_enter Try.func33, Try.ntmps33
    have ho : Hid (∀ u ∈ c.cs y2 y3, u.oneCell' = true) := hid (by
      intro u hu
      simp only [Rec.cs, List.mem_cons, List.not_mem_nil, or_false] at hu
      rcases hu with h | h | h | h | h | h | h | h | h | h | h <;> subst h <;> first | rfl | exact o1 | exact o2)
    clear o1 o2
    go_upto_region 6 with (first
      | ((fail_if_success (fail_if_success (with_reducible change wpList _ _ _ (Oper.mk _ (.load 30 _) _ _ _ _ :: _) _ _))); refine step_loadAt rfl rfl g (m * 11) rfl (c.cs y2 y3) HC.out Try.underlying30 (by kernel_rfl) ?_)
      | ((fail_if_success (fail_if_success (with_reducible change wpList _ _ _ (Oper.mk _ (.store 30 _ _) _ _ _ _ :: _) _ _))); refine step_storeRow rfl rfl w.heap.size rfl rfl (blk_new _ _) (by kernel_rfl) rfl (by have := ho.out; simpa using this) ?_; intro w3 hb3 hc3 hs3; have hbk := hc3.heap (((Chg.refl NoB w).alloc _).heap HB.out nob) (fun x => by (unfold OneB at x; omega)); have k3 : w3.cell? ⟨e.b, 3, none⟩ = some (.slice (some ⟨g, 0, none⟩) (m + 1) cap') := hc3.cell (((Chg.refl NoB w).alloc _).cell e3 nob) (fun x => by (have h' : e.b = w.heap.size := x; omega)); have f3' := frozen_blk hbk 3))
    have hww : Chg (OneB e.b) w (w3.setCell ⟨e.b, 3, none⟩ (.slice (some ⟨g, 0, none⟩) m m)) := ((((Chg.refl NoB w).alloc _).new hc3 (fun i x => by have h' : i = w.heap.size := x; omega)).mono (T := OneB e.b) fun _ x => x.elim).setCell (p := ⟨e.b, 3, none⟩) (.inl (OneB.self _)) _
    refine wp_gen (fun W => Chg (OneB e.b) w W ∧ W.heap[e.b]? = some (.cells #[.int .i64 e.s.txn, .int .i64 e.s.first, .int .i64 e.s.last, .slice (some ⟨g, 0, none⟩) m m] 65 (0, 0)) ∧ RcAt W w.heap.size 0 c y2 y3) ⟨hww, by have := blk_setCell hbk 3 (.slice (some ⟨g, 0, none⟩) m m); simpa [JE.cs] using this, fun j u hu => by rw [cell_blk (blk_setCell_other hb3 (show w.heap.size ≠ e.b by omega) _)]; simpa using hu⟩ ?_
    rintro W ⟨hcW, hbW, hrW⟩
    have hcW' := hid hcW
    obtain ⟨d0, d1, d2, d3, d4, d5, d6, d7, d8⟩ := hrW.cells
    simp only [Nat.zero_add] at d2 d3 d4 d7
    have q2 := hcW.cell c2 hbe
    have q3 := hcW.cell c3 hbe
    have q5 := hcW.cell c5 hbe
    have q8 := hcW.cell c8 hbe
    clear c2 c3 c5 c8 d0 d1 d5 d6 d8 hrW k3 f3' hbk hb3 hc3 hs3 hww hcW e3 f3
    obtain ⟨b1, e1⟩ := named (r.page == c.page)
    obtain ⟨b2, e2⟩ := named (r.off == c.off)
    obtain ⟨b3, e3⟩ := named (r.after.toList == c.before.toList)
    obtain ⟨b4, e4⟩ := named (r.next == c.prev)
    have HR : Hid (res = (b1 && (b2 && (b3 && b4)))) := hid (by rw [hJ.out.1, e1.out, e2.out, e3.out, e4.out])
    have k1 := e1.out.symm
    have k2 := e2.out.symm
    have k3 := e3.out.symm
    have k4 := e4.out.symm
    clear e1 e2 e3 e4
    have hend : Hid (∃ mv, JI.ok W.drew { e with s := { e.s with stand := st }, mv := mv } ∧ (∀ k, OwnB mv k → OwnB e.mv k) ∧ Chg (OneB e.b) w W.drew) := hid (by
      refine ⟨.slice (some ⟨g, 0, none⟩) m m, ⟨hbW, ?_⟩, fun k hk => by rw [HV.out]; exact hk, hcW'.out.drew⟩
      have h1 := HX.out
      rw [HV.out] at h1
      have h2 := (h1.keep hcW'.out (fun k hk e1 => hgb (by have h3 : some g = some k := hk; have h4 : k = e.b := e1; cases h3; exact h4))).cut m (by omega)
      refine ⟨ys, hJ.out.2.symm, ?_, fun x hx => HY.out.1 x ?_, fun x hx => HX4.out x (by simp [hx])⟩
      · have h5 : ((ys ++ [(y1, y2, y3)]).flatMap encRv).take (m * 11) = ys.flatMap encRv := by
          rw [List.flatMap_append, List.take_left']
          have : ∀ l : List (Rec × Value × Value), (l.flatMap encRv).length = l.length * 11 := fun l => by induction l with | nil => rfl | cons x l ih => simp [encRv_len, ih]; omega
          rw [this, hm.out]
        rw [h5] at h2
        rw [← hm.out]
        exact (h2.keep (Chg.refl NoB W).drew (fun _ _ => nob))
      · rw [HY.out.2]; rw [hJ.out.2] at hx; simp at hx ⊢; exact .inl hx)
    clear hcW' hbW HX HV HY HX4 HC hJ
    cases b1
    rotate_left
    cases b2
    rotate_left
    cases b3
    rotate_left
    cases b4
    all_goals
      refine wp_region_ord 35 (.rd 0 (.rd 1 (.rd 2 (.rd 3 (.rd 4 (.rd 5 (.rd 6 (.rd 7 (.rd 8 (.rd 9 (.rd 10 (.rd 11 (.rd 12 (.rd 13 (.rd 14 (.rd 15 (.rd 16 (.rd 17 (.rd 18 (.rd 19 (.rd 20 (.rd 21 (.rd 22 (.rd 23 (.rd 24 (.rd 25 (.rd 26 (.rd 27 (.rd 28 (.rd 29 (.rd 30 (.rd 31 (.rd 32 (.rd 33 (.rd 34 (.done)))))))))))))))))))))))))))))))))))) (Same W) (by kernel_rfl) (by kernel_rfl) (by kernel_rfl) (by kernel_rfl) (by kernel_rfl) (fun _ _ d _ _ h => by cases d <;> exact h) (Same.of (Chg.refl _ _).drew) (fun hS0 => ?_)
      refine wpOrd_rd rfl rfl (by first | decide | simp) (by assumption) (fun w' hw' K hK => by ((try unfold Same at hw'); (try go_split_ands); go_simp; exact hK)) ?_
      refine wpOrd_rd rfl rfl (by first | decide | simp) (by assumption) (fun w' hw' K hK => by ((try unfold Same at hw'); (try go_split_ands); go_simp; exact hK)) ?_
      refine wpOrd_rd rfl rfl (by first | decide | simp) (by assumption) (fun w' hw' K hK => by ((try unfold Same at hw'); (try go_split_ands); go_simp; exact hK)) ?_
      refine wpOrd_rd rfl rfl (by first | decide | simp) (by assumption) (fun w' hw' K hK => by ((try unfold Same at hw'); (try go_split_ands); go_simp; exact hK)) ?_
      refine wpOrd_rd rfl rfl (by first | decide | simp) (by assumption) (fun w' hw' K hK => by ((try unfold Same at hw'); (try go_split_ands); go_simp; exact hK)) ?_
      refine wpOrd_rd rfl rfl (by first | decide | simp) (by assumption) (fun w' hw' K hK => by ((try unfold Same at hw'); (try go_split_ands); go_simp; exact hK)) ?_
      refine wpOrd_rd rfl rfl (by first | decide | simp) (by assumption) (fun w' hw' K hK => by ((try unfold Same at hw'); (try go_split_ands); go_simp; exact hK)) ?_
      refine wpOrd_rd rfl rfl (by first | decide | simp) (by assumption) (fun w' hw' K hK => by ((try unfold Same at hw'); (try go_split_ands); go_simp; exact hK)) ?_
      refine wpOrd_rd rfl rfl (by first | decide | simp) (by assumption) (fun w' hw' K hK => by ((try unfold Same at hw'); (try go_split_ands); go_simp; exact hK)) ?_
      refine wpOrd_rd rfl rfl (by first | decide | simp) (by assumption) (fun w' hw' K hK => by ((try unfold Same at hw'); (try go_split_ands); go_simp; exact hK)) ?_
      refine wpOrd_rd rfl rfl (by first | decide | simp) (by assumption) (fun w' hw' K hK => by ((try unfold Same at hw'); (try go_split_ands); go_simp; exact hK)) ?_
      refine wpOrd_rd rfl rfl (by first | decide | simp) (by assumption) (fun w' hw' K hK => by ((try unfold Same at hw'); (try go_split_ands); go_simp; exact hK)) ?_
      refine wpOrd_rd rfl rfl (by first | decide | simp) (by assumption) (fun w' hw' K hK => by ((try unfold Same at hw'); (try go_split_ands); go_simp; exact hK)) ?_
      refine wpOrd_rd rfl rfl (by first | decide | simp) (by assumption) (fun w' hw' K hK => by ((try unfold Same at hw'); (try go_split_ands); go_simp; exact hK)) ?_
      refine wpOrd_rd rfl rfl (by first | decide | simp) (by assumption) (fun w' hw' K hK => by ((try unfold Same at hw'); (try go_split_ands); go_simp; exact hK)) ?_
      refine wpOrd_rd rfl rfl (by first | decide | simp) (by assumption) (fun w' hw' K hK => by ((try unfold Same at hw'); (try go_split_ands); go_simp; exact hK)) ?_
      refine wpOrd_rd rfl rfl (by first | decide | simp) (by assumption) (fun w' hw' K hK => by ((try unfold Same at hw'); (try go_split_ands); go_simp; exact hK)) ?_
      refine wpOrd_rd rfl rfl (by first | decide | simp) (by assumption) (fun w' hw' K hK => by ((try unfold Same at hw'); (try go_split_ands); go_simp; exact hK)) ?_
      refine wpOrd_rd rfl rfl (by first | decide | simp) (by assumption) (fun w' hw' K hK => by ((try unfold Same at hw'); (try go_split_ands); go_simp; exact hK)) ?_
      refine wpOrd_rd rfl rfl (by first | decide | simp) (by assumption) (fun w' hw' K hK => by ((try unfold Same at hw'); (try go_split_ands); go_simp; exact hK)) ?_
      refine wpOrd_rd rfl rfl (by first | decide | simp) (by assumption) (fun w' hw' K hK => by ((try unfold Same at hw'); (try go_split_ands); go_simp; exact hK)) ?_
      refine wpOrd_rd rfl rfl (by first | decide | simp) (by assumption) (fun w' hw' K hK => by ((try unfold Same at hw'); (try go_split_ands); go_simp; exact hK)) ?_
      refine wpOrd_rd rfl rfl (by first | decide | simp) (by assumption) (fun w' hw' K hK => by ((try unfold Same at hw'); (try go_split_ands); go_simp; exact hK)) ?_
      refine wpOrd_rd rfl rfl (by first | decide | simp) (by assumption) (fun w' hw' K hK => by ((try unfold Same at hw'); (try go_split_ands); go_simp; exact hK)) ?_
      refine wpOrd_rd rfl rfl (by first | decide | simp) (by assumption) (fun w' hw' K hK => by ((try unfold Same at hw'); (try go_split_ands); go_simp; exact hK)) ?_
      refine wpOrd_rd rfl rfl (by first | decide | simp) (by assumption) (fun w' hw' K hK => by ((try unfold Same at hw'); (try go_split_ands); go_simp; exact hK)) ?_
      refine wpOrd_rd rfl rfl (by first | decide | simp) (by assumption) (fun w' hw' K hK => by ((try unfold Same at hw'); (try go_split_ands); go_simp; exact hK)) ?_
      refine wpOrd_rd rfl rfl (by first | decide | simp) (by assumption) (fun w' hw' K hK => by ((try unfold Same at hw'); (try go_split_ands); go_simp; exact hK)) ?_
      refine wpOrd_rd rfl rfl (by first | decide | simp) (by assumption) (fun w' hw' K hK => by ((try unfold Same at hw'); (try go_split_ands); go_simp; exact hK)) ?_
      refine wpOrd_rd rfl rfl (by first | decide | simp) (by assumption) (fun w' hw' K hK => by ((try unfold Same at hw'); (try go_split_ands); go_simp; exact hK)) ?_
      refine wpOrd_rd rfl rfl (by first | decide | simp) (by assumption) (fun w' hw' K hK => by ((try unfold Same at hw'); (try go_split_ands); go_simp; exact hK)) ?_
      refine wpOrd_rd rfl rfl (by first | decide | simp) (by assumption) (fun w' hw' K hK => by ((try unfold Same at hw'); (try go_split_ands); go_simp; exact hK)) ?_
      refine wpOrd_rd rfl rfl (by first | decide | simp) (by assumption) (fun w' hw' K hK => by ((try unfold Same at hw'); (try go_split_ands); go_simp; exact hK)) ?_
      refine wpOrd_rd rfl rfl (by first | decide | simp) (by assumption) (fun w' hw' K hK => by ((try unfold Same at hw'); (try go_split_ands); go_simp; exact hK)) ?_
      refine wpOrd_rd rfl rfl (by first | decide | simp) (by assumption) (fun w' hw' K hK => by ((try unfold Same at hw'); (try go_split_ands); go_simp; exact hK)) ?_
      refine wpOrd_nil ?_
      go_wp2_with fail
      go_ret
      exact ⟨ret_bool (by rw [HR.out]; rfl), hend.out⟩
end Go.Proofs.Ytobmaipjbepphaa
