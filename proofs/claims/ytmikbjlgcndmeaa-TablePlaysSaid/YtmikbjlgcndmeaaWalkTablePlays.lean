import Derived.Test.YtmikbjlgcndmeaaTrTwo
import Derived.Test.YtmikbjlgcndmeaaRowsLaw
namespace Go.Proofs.Ytmikbjlgcndmeaa
open Go.RowKit Go.ChangeMaps Go.MapKept
attribute [local go_sem] Go.Oper.rdK
set_option linter.unusedVariables false
set_option linter.unusedSimpArgs false
set_option linter.unnecessarySimpa false

/-- What holds behind a call of both. -/
def Pl (R : Rsv) (p q : Nat) (wx : World) : Prop := ∃ T L, Two R wx p q T L ∧ Same2 T L
theorem rsvB_cell {R : Rsv} {w wx : World} {cs : List Value} {t : TypeId} (h : Chg (rsvB R w (.cells cs.toArray t)).S (w.alloc (.cells cs.toArray t)) wx) {i : Nat} {v : Value} (hi : cs[i]? = some v) : wx.cell? ⟨w.heap.size, i, none⟩ = some v :=
  h.cell (by rw [cell_blk (blk_new _ _)]; simpa using hi) (fun hk => hk (.inr rfl))

set_option maxRecDepth 100000 in
set_option maxHeartbeats 8000000 in
theorem tablePlays_walk (w : World) (v : Value) (l : List TOp) (hv : RdR w 3 TOpR v l) :
    Calls Try.prog 4 #[v] w fun e w' => e = .returned (.bool true) ∧ Chg NoB w w' := by
  obtain ⟨a, c, rfl, q1, q2, hr⟩ := hv
  unfold maxLen at q2
  by_cases hlen : 300 < l.length
  · have hl : (300 : Int) < (l.length : Int) := by omega
    go_enter Try.func4, Try.ntmps4
    go_wp2_with (go_at_call 8; refine (awake w).mono ?_; rintro e w1 ⟨rfl, c1⟩)
    refine (awake w1).mono ?_
    rintro e w2 ⟨rfl, c2⟩
    go_wp2
    go_ret
    exact ⟨rfl, c1.trans' c2⟩
  have hl : ¬ (300 : Int) < (l.length : Int) := by omega
  have HR := hid hr
  clear hr
  go_enter Try.func4, Try.ntmps4
  go_upto_region 4 with (first
    | (go_at_call 8; refine (awake w).mono ?_; rintro e w1 ⟨rfl, c1⟩)
    | (go_at_call 9; refine (tabNew w1).mono ?_; rintro e w2 ⟨rfl, hT0, c2⟩))
  obtain ⟨p, hp⟩ := named (w1.heap.size + 1)
  obtain ⟨q, hq⟩ := named w2.heap.size
  have hI0 : Hid (Pl (rsv0 w) p q (w2.alloc (.cells #[.slice none 0 0] 39))) := by
    have hz1 := c1.size
    have hz2 := c2.size
    have hl1 : w1.heap.size + 1 < w2.heap.size := hT0.lt _ (.inl rfl)
    have hC := (c1.trans' c2).alloc (.cells #[.slice none 0 0] 39)
    refine hid ⟨[], [], ⟨w1.heap.size, [], .slice none 0 0, [], rfl, rfl, by rw [hp.out]; exact hT0.keep0 ((Chg.refl _ _).alloc _), ?_, ?_, ?_⟩, .refl _, List.nodup_nil⟩
    · refine ⟨by rw [hq.out]; exact blk_new _ _, OwW.nil, by simp, by rw [ownB_nil]; exact id, fun k hk => by rw [ownB_nil] at hk; exact hk.elim, ?_, hC.mono fun _ e => e.elim, by simp, List.Pairwise.nil, by simp⟩
      show ¬ q < w.heap.size
      rw [hq.out]; omega
    · rintro k (rfl | rfl | ⟨e, he, _⟩)
      · show ¬ k < w.heap.size
        rw [hp.out]; omega
      · show ¬ w1.heap.size < w.heap.size
        omega
      · simp at he
    · rintro k hk (rfl | hx | ⟨x, hx, _⟩)
      · rcases hk with h | h | ⟨e, he, _⟩
        · rw [hp.out, hq.out] at h; omega
        · rw [hq.out] at h; omega
        · simp at he
      · rw [ownB_nil] at hx; exact hx.elim
      · simp at hx
  rw [← hp.out, ← hq.out]
  clear hT0
  go_wp2_with fail
  go_loopw [36] (fun i wr => ∃ k : Nat, k ≤ l.length ∧ i = .int .i64 k ∧ Hid (Pl (rsv0 w) p q wr)) (fun i _ => l.length - toN i)
  case atStart => exact ⟨0, by omega, rfl, hI0⟩
  case round =>
    obtain ⟨k, hk, rfl, hI⟩ := hrel
    clear hI0
    obtain ⟨T, L, hT, hS⟩ := hI.out
    have HT := hid hT
    have HS := hid hS
    clear hI hS
    by_cases hlt : k < l.length
    · have HC := hid (rsv0_chg hT.chg)
      obtain ⟨x, b, off, hx, hwf, rfl, g0, g1, g2⟩ := top_at HR.out HC.out k hlt
      have HWF := hid hwf
      have HT1 : Hid (Two (rsvB (rsv0 w) wr (.cells #[.int .i64 x.kind, .int .i64 x.txn, .int .i64 x.n] 41)) (wr.alloc (.cells #[.int .i64 x.kind, .int .i64 x.txn, .int .i64 x.n] 41)) p q T L) := hid (HT.out.push _)
      clear hwf hT
      go_upto_block 2 with fail
      go_cut [] (fun wx => Hid (Pl (rsvB (rsv0 w) wr (.cells #[.int .i64 x.kind, .int .i64 x.txn, .int .i64 x.n] 41)) p q wx))
      case first =>
        cases k1 : (x.kind == 1)
        case true =>
          obtain ⟨⟨res, T'⟩, hr1⟩ := named (tBegin T x.txn)
          obtain ⟨r2, hr2⟩ := named (tBegin L x.txn).1
          have e9 : r2 = res := by rw [hr2.out, (HS.out.begin_ x.txn (List.Perm.refl _)).1, ← hr1.out]
          subst e9
          go_upto_region 9 with fail
          refine wp_region_ord 9 (.rd 0 (.rd 1 (.rd 2 (.rd 4 (.rd 5 (.rd 6 (.one 3 (.one 7 (.rd 8 (.done)))))))))) (fun w' => w'.cell? ⟨wr.heap.size, 1, none⟩ = some (.int .i64 x.txn) ∧ w'.cell? ⟨wr.heap.size, 2, none⟩ = some (.int .i64 x.n)) (by kernel_rfl) (by kernel_rfl) (by kernel_rfl) (by kernel_rfl) (by kernel_rfl) (fun _ _ d _ _ h => by cases d <;> exact h) (⟨rsvB_cell (HT1.out.keep (Chg.refl NoB _).drew).chg rfl, rsvB_cell (HT1.out.keep (Chg.refl NoB _).drew).chg rfl⟩) (fun hS0 => ?_)
          refine wpOrd_rd rfl rfl (by first | decide | simp) (by assumption) (fun w' hw' K hK => by ((try unfold Same at hw'); (try go_split_ands); go_simp; exact hK)) ?_
          refine wpOrd_rd rfl rfl (by first | decide | simp) (by assumption) (fun w' hw' K hK => by ((try unfold Same at hw'); (try go_split_ands); go_simp; exact hK)) ?_
          refine wpOrd_rd rfl rfl (by first | decide | simp) (by assumption) (fun w' hw' K hK => by ((try unfold Same at hw'); (try go_split_ands); go_simp; exact hK)) ?_
          refine wpOrd_rd rfl rfl (by first | decide | simp) (by assumption) (fun w' hw' K hK => by ((try unfold Same at hw'); (try go_split_ands); go_simp; exact hK)) ?_
          refine wpOrd_rd rfl rfl (by first | decide | simp) (by assumption) (fun w' hw' K hK => by ((try unfold Same at hw'); (try go_split_ands); go_simp; exact hK)) ?_
          refine wpOrd_rd rfl rfl (by first | decide | simp) (by assumption) (fun w' hw' K hK => by ((try unfold Same at hw'); (try go_split_ands); go_simp; exact hK)) ?_
          refine wpOrd_do rfl ?_
          (first | refine wpList_plain rfl (fun K hK => ?_) | refine wpList_step (fun K hK => ?_))
          go_simp
          ((with_reducible refine (twBegin (HT1.out.keep (Chg.refl NoB _).drew) x.txn r2 T' hr1).mono ?_); rintro e w4 ⟨rfl, hT4⟩)
          refine hK _ _ ?_
          clear hK K
          (try dsimp only [Act.put])
          refine wpOrd_done (⟨rsvB_cell (hT4).chg rfl, rsvB_cell (hT4).chg rfl⟩) (fun hS1 => ?_)
          refine wpOrd_do rfl ?_
          (first | refine wpList_plain rfl (fun K hK => ?_) | refine wpList_step (fun K hK => ?_))
          go_simp
          ((with_reducible refine (rwBegin hT4 x.txn r2 hr2).mono ?_); rintro e w5 ⟨L', ⟨rfl, hL'⟩, hT5⟩)
          refine hK _ _ ?_
          clear hK K
          (try dsimp only [Act.put])
          refine wpOrd_done (⟨rsvB_cell (hT5).chg rfl, rsvB_cell (hT5).chg rfl⟩) (fun hS2 => ?_)
          refine wpOrd_rd rfl rfl (by first | decide | simp) (by assumption) (fun w' hw' K hK => by ((try unfold Same at hw'); (try go_split_ands); go_simp; exact hK)) ?_
          refine wpOrd_nil ?_
          go_wp2_with fail
          go_meet
          exact ⟨T', L', hT5, by have := (HS.out.begin_ x.txn hL').2; rw [← hr1.out] at this; exact this⟩
        cases k2 : (x.kind == 2)
        case true =>
          obtain ⟨⟨res, T'⟩, hr1⟩ := named (tLog T x.txn x.n)
          obtain ⟨⟨r2, L'⟩, hr2⟩ := named (tLog L x.txn x.n)
          have h9 := HS.out.log x.txn x.n
          rw [← hr1.out, ← hr2.out] at h9
          obtain ⟨e9, h9⟩ := h9
          dsimp only at e9 h9
          subst e9
          have H9 := hid h9
          clear h9
          go_upto_region 12 with fail
          refine wp_region_ord 13 (.rd 0 (.rd 1 (.rd 2 (.rd 3 (.rd 4 (.rd 6 (.rd 7 (.rd 8 (.rd 9 (.rd 10 (.one 5 (.one 11 (.rd 12 (.done)))))))))))))) (fun w' => w'.cell? ⟨wr.heap.size, 1, none⟩ = some (.int .i64 x.txn) ∧ w'.cell? ⟨wr.heap.size, 2, none⟩ = some (.int .i64 x.n)) (by kernel_rfl) (by kernel_rfl) (by kernel_rfl) (by kernel_rfl) (by kernel_rfl) (fun _ _ d _ _ h => by cases d <;> exact h) (⟨rsvB_cell (HT1.out.keep (Chg.refl NoB _).drew).chg rfl, rsvB_cell (HT1.out.keep (Chg.refl NoB _).drew).chg rfl⟩) (fun hS0 => ?_)
          refine wpOrd_rd rfl rfl (by first | decide | simp) (by assumption) (fun w' hw' K hK => by ((try unfold Same at hw'); (try go_split_ands); go_simp; exact hK)) ?_
          refine wpOrd_rd rfl rfl (by first | decide | simp) (by assumption) (fun w' hw' K hK => by ((try unfold Same at hw'); (try go_split_ands); go_simp; exact hK)) ?_
          refine wpOrd_rd rfl rfl (by first | decide | simp) (by assumption) (fun w' hw' K hK => by ((try unfold Same at hw'); (try go_split_ands); go_simp; exact hK)) ?_
          refine wpOrd_rd rfl rfl (by first | decide | simp) (by assumption) (fun w' hw' K hK => by ((try unfold Same at hw'); (try go_split_ands); go_simp; exact hK)) ?_
          refine wpOrd_rd rfl rfl (by first | decide | simp) (by assumption) (fun w' hw' K hK => by ((try unfold Same at hw'); (try go_split_ands); go_simp; exact hK)) ?_
          refine wpOrd_rd rfl rfl (by first | decide | simp) (by assumption) (fun w' hw' K hK => by ((try unfold Same at hw'); (try go_split_ands); go_simp; exact hK)) ?_
          refine wpOrd_rd rfl rfl (by first | decide | simp) (by assumption) (fun w' hw' K hK => by ((try unfold Same at hw'); (try go_split_ands); go_simp; exact hK)) ?_
          refine wpOrd_rd rfl rfl (by first | decide | simp) (by assumption) (fun w' hw' K hK => by ((try unfold Same at hw'); (try go_split_ands); go_simp; exact hK)) ?_
          refine wpOrd_rd rfl rfl (by first | decide | simp) (by assumption) (fun w' hw' K hK => by ((try unfold Same at hw'); (try go_split_ands); go_simp; exact hK)) ?_
          refine wpOrd_rd rfl rfl (by first | decide | simp) (by assumption) (fun w' hw' K hK => by ((try unfold Same at hw'); (try go_split_ands); go_simp; exact hK)) ?_
          refine wpOrd_do rfl ?_
          (first | refine wpList_plain rfl (fun K hK => ?_) | refine wpList_step (fun K hK => ?_))
          go_simp
          ((with_reducible refine (twLog (HT1.out.keep (Chg.refl NoB _).drew) x.txn x.n  r2 T' hr1).mono ?_); rintro e w4 ⟨rfl, hT4⟩)
          refine hK _ _ ?_
          clear hK K
          (try dsimp only [Act.put])
          refine wpOrd_done (⟨rsvB_cell (hT4).chg rfl, rsvB_cell (hT4).chg rfl⟩) (fun hS1 => ?_)
          refine wpOrd_do rfl ?_
          (first | refine wpList_plain rfl (fun K hK => ?_) | refine wpList_step (fun K hK => ?_))
          go_simp
          ((with_reducible refine (rwLog hT4 x.txn x.n r2 L' hr2).mono ?_); rintro e w5 ⟨L2, ⟨rfl, rfl⟩, hT5⟩)
          refine hK _ _ ?_
          clear hK K
          (try dsimp only [Act.put])
          refine wpOrd_done (⟨rsvB_cell (hT5).chg rfl, rsvB_cell (hT5).chg rfl⟩) (fun hS2 => ?_)
          refine wpOrd_rd rfl rfl (by first | decide | simp) (by assumption) (fun w' hw' K hK => by ((try unfold Same at hw'); (try go_split_ands); go_simp; exact hK)) ?_
          refine wpOrd_nil ?_
          go_wp2_with fail
          go_meet
          exact ⟨T', _, hT5, H9.out⟩
        cases k3 : (x.kind == 3)
        case true =>
          obtain ⟨⟨res, T'⟩, hr1⟩ := named (tLeft T x.txn x.n)
          obtain ⟨⟨r2, L'⟩, hr2⟩ := named (tLeft L x.txn x.n)
          have h9 := HS.out.left x.txn x.n
          rw [← hr1.out, ← hr2.out] at h9
          obtain ⟨e9, h9⟩ := h9
          dsimp only at e9 h9
          subst e9
          have H9 := hid h9
          clear h9
          go_upto_region 15 with fail
          refine wp_region_ord 13 (.rd 0 (.rd 1 (.rd 2 (.rd 3 (.rd 4 (.rd 6 (.rd 7 (.rd 8 (.rd 9 (.rd 10 (.one 5 (.one 11 (.rd 12 (.done)))))))))))))) (fun w' => w'.cell? ⟨wr.heap.size, 1, none⟩ = some (.int .i64 x.txn) ∧ w'.cell? ⟨wr.heap.size, 2, none⟩ = some (.int .i64 x.n)) (by kernel_rfl) (by kernel_rfl) (by kernel_rfl) (by kernel_rfl) (by kernel_rfl) (fun _ _ d _ _ h => by cases d <;> exact h) (⟨rsvB_cell (HT1.out.keep (Chg.refl NoB _).drew).chg rfl, rsvB_cell (HT1.out.keep (Chg.refl NoB _).drew).chg rfl⟩) (fun hS0 => ?_)
          refine wpOrd_rd rfl rfl (by first | decide | simp) (by assumption) (fun w' hw' K hK => by ((try unfold Same at hw'); (try go_split_ands); go_simp; exact hK)) ?_
          refine wpOrd_rd rfl rfl (by first | decide | simp) (by assumption) (fun w' hw' K hK => by ((try unfold Same at hw'); (try go_split_ands); go_simp; exact hK)) ?_
          refine wpOrd_rd rfl rfl (by first | decide | simp) (by assumption) (fun w' hw' K hK => by ((try unfold Same at hw'); (try go_split_ands); go_simp; exact hK)) ?_
          refine wpOrd_rd rfl rfl (by first | decide | simp) (by assumption) (fun w' hw' K hK => by ((try unfold Same at hw'); (try go_split_ands); go_simp; exact hK)) ?_
          refine wpOrd_rd rfl rfl (by first | decide | simp) (by assumption) (fun w' hw' K hK => by ((try unfold Same at hw'); (try go_split_ands); go_simp; exact hK)) ?_
          refine wpOrd_rd rfl rfl (by first | decide | simp) (by assumption) (fun w' hw' K hK => by ((try unfold Same at hw'); (try go_split_ands); go_simp; exact hK)) ?_
          refine wpOrd_rd rfl rfl (by first | decide | simp) (by assumption) (fun w' hw' K hK => by ((try unfold Same at hw'); (try go_split_ands); go_simp; exact hK)) ?_
          refine wpOrd_rd rfl rfl (by first | decide | simp) (by assumption) (fun w' hw' K hK => by ((try unfold Same at hw'); (try go_split_ands); go_simp; exact hK)) ?_
          refine wpOrd_rd rfl rfl (by first | decide | simp) (by assumption) (fun w' hw' K hK => by ((try unfold Same at hw'); (try go_split_ands); go_simp; exact hK)) ?_
          refine wpOrd_rd rfl rfl (by first | decide | simp) (by assumption) (fun w' hw' K hK => by ((try unfold Same at hw'); (try go_split_ands); go_simp; exact hK)) ?_
          refine wpOrd_do rfl ?_
          (first | refine wpList_plain rfl (fun K hK => ?_) | refine wpList_step (fun K hK => ?_))
          go_simp
          ((with_reducible refine (twLeft (HT1.out.keep (Chg.refl NoB _).drew) x.txn x.n (by have h9 := HWF.out; unfold wfI at h9; exact h9) r2 T' hr1).mono ?_); rintro e w4 ⟨rfl, hT4⟩)
          refine hK _ _ ?_
          clear hK K
          (try dsimp only [Act.put])
          refine wpOrd_done (⟨rsvB_cell (hT4).chg rfl, rsvB_cell (hT4).chg rfl⟩) (fun hS1 => ?_)
          refine wpOrd_do rfl ?_
          (first | refine wpList_plain rfl (fun K hK => ?_) | refine wpList_step (fun K hK => ?_))
          go_simp
          ((with_reducible refine (rwAdd hT4 x.txn x.n r2 L' hr2).mono ?_); rintro e w5 ⟨L2, ⟨rfl, rfl⟩, hT5⟩)
          refine hK _ _ ?_
          clear hK K
          (try dsimp only [Act.put])
          refine wpOrd_done (⟨rsvB_cell (hT5).chg rfl, rsvB_cell (hT5).chg rfl⟩) (fun hS2 => ?_)
          refine wpOrd_rd rfl rfl (by first | decide | simp) (by assumption) (fun w' hw' K hK => by ((try unfold Same at hw'); (try go_split_ands); go_simp; exact hK)) ?_
          refine wpOrd_nil ?_
          go_wp2_with fail
          go_meet
          exact ⟨T', _, hT5, H9.out⟩
        cases k4 : (x.kind == 4)
        case true =>
          obtain ⟨⟨ra, er, T'⟩, hr1⟩ := named (tMark T x.txn x.n)
          obtain ⟨⟨rb, es, L'⟩, hr2⟩ := named (tMark L x.txn x.n)
          have h9 := HS.out.mark x.txn x.n
          rw [← hr1.out, ← hr2.out] at h9
          obtain ⟨e8, e9, h9⟩ := h9
          dsimp only at e8 e9 h9
          subst e8 e9
          have H9 := hid h9
          clear h9
          go_wp2_with (first
            | (go_at_call 13; refine (twMark HT1.out x.txn x.n rb es T' hr1).mono ?_; rintro e w4 ⟨rfl, hT4⟩; have g5 := rsvB_cell hT4.chg (i := 1) rfl; have g6 := rsvB_cell hT4.chg (i := 2) rfl)
            | (go_at_call 18; refine (rwMark hT4 x.txn x.n rb es L' hr2).mono ?_; rintro e w5 ⟨L2, ⟨rfl, rfl⟩, hT5⟩))
          go_meet
          exact ⟨T', _, hT5, H9.out⟩
        cases k5 : (x.kind == 5)
        case true =>
          obtain ⟨⟨ra, rl, er, T'⟩, hr1⟩ := named (tBack T x.txn x.n)
          obtain ⟨⟨rb, rm, es, L'⟩, hr2⟩ := named (tBack L x.txn x.n)
          have h9 := HS.out.back x.txn x.n
          rw [← hr1.out, ← hr2.out] at h9
          obtain ⟨e7, e8, e9, h9⟩ := h9
          dsimp only at e7 e8 e9 h9
          subst e7 e8 e9
          have H9 := hid h9
          clear h9
          go_wp2_with (first
            | (go_at_call 14; refine (twBack HT1.out x.txn x.n rb rm es T' hr1).mono ?_; rintro e w4 ⟨rfl, hT4⟩; have g5 := rsvB_cell hT4.chg (i := 1) rfl; have g6 := rsvB_cell hT4.chg (i := 2) rfl)
            | (go_at_call 19; refine (rwBack hT4 x.txn x.n rb rm es L' hr2).mono ?_; rintro e w5 ⟨L2, ⟨rfl, rfl⟩, hT5⟩))
          go_meet
          exact ⟨T', _, hT5, H9.out⟩
        cases k6 : (x.kind == 6)
        case true =>
          obtain ⟨⟨res, T'⟩, hr1⟩ := named (tEnd T x.txn)
          obtain ⟨⟨r2, L'⟩, hr2⟩ := named (tEnd L x.txn)
          have h9 := HS.out.end_ x.txn
          rw [← hr1.out, ← hr2.out] at h9
          obtain ⟨e9, h9⟩ := h9
          dsimp only at e9 h9
          subst e9
          have H9 := hid h9
          clear h9
          go_upto_region 28 with fail
          refine wp_region_ord 9 (.rd 0 (.rd 1 (.rd 2 (.rd 4 (.rd 5 (.rd 6 (.one 3 (.one 7 (.rd 8 (.done)))))))))) (fun w' => w'.cell? ⟨wr.heap.size, 1, none⟩ = some (.int .i64 x.txn) ∧ w'.cell? ⟨wr.heap.size, 2, none⟩ = some (.int .i64 x.n)) (by kernel_rfl) (by kernel_rfl) (by kernel_rfl) (by kernel_rfl) (by kernel_rfl) (fun _ _ d _ _ h => by cases d <;> exact h) (⟨rsvB_cell (HT1.out.keep (Chg.refl NoB _).drew).chg rfl, rsvB_cell (HT1.out.keep (Chg.refl NoB _).drew).chg rfl⟩) (fun hS0 => ?_)
          refine wpOrd_rd rfl rfl (by first | decide | simp) (by assumption) (fun w' hw' K hK => by ((try unfold Same at hw'); (try go_split_ands); go_simp; exact hK)) ?_
          refine wpOrd_rd rfl rfl (by first | decide | simp) (by assumption) (fun w' hw' K hK => by ((try unfold Same at hw'); (try go_split_ands); go_simp; exact hK)) ?_
          refine wpOrd_rd rfl rfl (by first | decide | simp) (by assumption) (fun w' hw' K hK => by ((try unfold Same at hw'); (try go_split_ands); go_simp; exact hK)) ?_
          refine wpOrd_rd rfl rfl (by first | decide | simp) (by assumption) (fun w' hw' K hK => by ((try unfold Same at hw'); (try go_split_ands); go_simp; exact hK)) ?_
          refine wpOrd_rd rfl rfl (by first | decide | simp) (by assumption) (fun w' hw' K hK => by ((try unfold Same at hw'); (try go_split_ands); go_simp; exact hK)) ?_
          refine wpOrd_rd rfl rfl (by first | decide | simp) (by assumption) (fun w' hw' K hK => by ((try unfold Same at hw'); (try go_split_ands); go_simp; exact hK)) ?_
          refine wpOrd_do rfl ?_
          (first | refine wpList_plain rfl (fun K hK => ?_) | refine wpList_step (fun K hK => ?_))
          go_simp
          ((with_reducible refine (twEnd (HT1.out.keep (Chg.refl NoB _).drew) x.txn  r2 T' hr1).mono ?_); rintro e w4 ⟨rfl, hT4⟩)
          refine hK _ _ ?_
          clear hK K
          (try dsimp only [Act.put])
          refine wpOrd_done (⟨rsvB_cell (hT4).chg rfl, rsvB_cell (hT4).chg rfl⟩) (fun hS1 => ?_)
          refine wpOrd_do rfl ?_
          (first | refine wpList_plain rfl (fun K hK => ?_) | refine wpList_step (fun K hK => ?_))
          go_simp
          ((with_reducible refine (rwEnd hT4 x.txn r2 L' hr2).mono ?_); rintro e w5 ⟨L2, ⟨rfl, rfl⟩, hT5⟩)
          refine hK _ _ ?_
          clear hK K
          (try dsimp only [Act.put])
          refine wpOrd_done (⟨rsvB_cell (hT5).chg rfl, rsvB_cell (hT5).chg rfl⟩) (fun hS2 => ?_)
          refine wpOrd_rd rfl rfl (by first | decide | simp) (by assumption) (fun w' hw' K hK => by ((try unfold Same at hw'); (try go_split_ands); go_simp; exact hK)) ?_
          refine wpOrd_nil ?_
          go_wp2_with fail
          go_meet
          exact ⟨T', _, hT5, H9.out⟩
        go_wp2_with fail
        go_meet
        exact ⟨T, L, HT1.out, HS.out⟩
      case rest =>
        obtain ⟨T', L', hT4, hS4⟩ := hcut.out
        have g5 := rsvB_cell hT4.chg (i := 1) rfl
        obtain ⟨R, hRR⟩ := named (tRows' T')
        have hRL : Hid (R = rRows L') := hid (by rw [hRR.out, hS4.rows hT4.srt])
        obtain ⟨⟨⟨x1, y1, z1⟩, lf, er⟩, hrow⟩ := named (tRow T' x.txn)
        have hrow2 : Hid (((x1, y1, z1), lf, er) = tRow L' x.txn) := hid (by rw [hrow.out, hS4.row])
        obtain ⟨nd, hnd⟩ := named (tNeed' T')
        have hnd2 : Hid (nd = tNeed' L') := hid (by rw [hnd.out, hS4.need])
        have hrr : Hid (true = decide (R = R)) := hid (by simp)
        have HT4 := hid hT4
        have HS4 := hid hS4
        have HCw := hid HT.out.chg
        clear hT4 hS4 hcut g0 g1 g2 HS HC
        go_wp2_with (first
          | (go_at_call 22; refine (twRow HT4.out x.txn x1 y1 z1 lf er hrow).mono ?_; rintro e w5 ⟨rfl, hT5, c5⟩; have g6 := ((Chg.refl NoB w5).alloc (.cells #[.int .i64 x1, .int .i64 y1, .int .i64 z1] 49)).cell (c5.cell g5 nob) nob)
          | (go_at_call 23; refine (rwRow (hT5.keep ((Chg.refl NoB _).alloc _)) x.txn x1 y1 z1 lf er hrow2).mono ?_; rintro e w6 ⟨rfl, hT6, c6⟩; have u0 := ((Chg.refl NoB w6).alloc (.cells #[.int .i64 x1, .int .i64 y1, .int .i64 z1] 49)).cell (c6.cell (p := ⟨w5.heap.size, 0, none⟩) (by rw [cell_blk (blk_new w5 _)]; rfl) nob) nob; have u1 := ((Chg.refl NoB w6).alloc (.cells #[.int .i64 x1, .int .i64 y1, .int .i64 z1] 49)).cell (c6.cell (p := ⟨w5.heap.size, 1, none⟩) (by rw [cell_blk (blk_new w5 _)]; rfl) nob) nob; have u2 := ((Chg.refl NoB w6).alloc (.cells #[.int .i64 x1, .int .i64 y1, .int .i64 z1] 49)).cell (c6.cell (p := ⟨w5.heap.size, 2, none⟩) (by rw [cell_blk (blk_new w5 _)]; rfl) nob) nob; have hsz : w5.heap.size < w6.heap.size := (by have := c6.size; simp at this; omega))
          | (go_at_call 25; refine (twRows (hT6.keep ((Chg.refl NoB _).alloc _)) R hRR).mono ?_; rintro e w7 ⟨ra, rc, rfl, hrd7, hT7⟩)
          | (go_at_call 26; refine (rwRows hT7 R hRL).mono ?_; rintro e w8 ⟨rb, rd, rfl, hrd8, hT8, c8⟩)
          | (go_at_call 24; refine (sameRows _ _ R R _ (hrd7.out.mono c8) hrd8.out true (hid (decide_eq_true rfl).symm)).mono ?_; rintro e w9 ⟨rfl, n9, rfl⟩; have hT9 := hT8.keep ((Chg.refl NoB w8).drewN n9))
          | (go_at_call 27; refine (twNeed hT9 nd hnd).mono ?_; rintro e w10 ⟨rfl, hT10⟩)
          | (go_at_call 28; refine (rwNeed hT10 nd hnd2).mono ?_; rintro e w11 ⟨rfl, hT11⟩))
        go_roundw
        case rel => exact ⟨k + 1, by omega, by go_num, hid ⟨T', L', hT11.pop HCw.out, HS4.out⟩⟩
        case measure => simp [toN]; omega
    · obtain rfl : l.length = k := by omega
      go_wp2_with fail
      go_ret
      exact ⟨rfl, rsv0_chg HT.out.chg⟩
end Go.Proofs.Ytmikbjlgcndmeaa
