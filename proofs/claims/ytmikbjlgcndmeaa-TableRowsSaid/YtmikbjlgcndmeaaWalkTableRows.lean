import Derived.Test.YtmikbjlgcndmeaaRowsLaw
import Derived.Test.YtmikbjlgcndmeaaOrd
namespace Go.Proofs.Ytmikbjlgcndmeaa
open Go.RowKit Go.ChangeMaps
attribute [local go_sem] Go.Oper.rdK
set_option linter.unusedVariables false

/-- What stands of a row that was copied, and of the answer. -/
structure RwI (w5 W : World) (b1 b2 : Nat) (x y z : Int) : Prop where
  chg : Chg NoB w5 W
  c0 : W.cell? ⟨b1, 0, none⟩ = some (.int .i64 x)
  c1 : W.cell? ⟨b1, 1, none⟩ = some (.int .i64 y)
  c2 : W.cell? ⟨b1, 2, none⟩ = some (.int .i64 z)
  d0 : W.cell? ⟨b2, 0, none⟩ = some (.int .i64 x)
  d1 : W.cell? ⟨b2, 1, none⟩ = some (.int .i64 y)
  d2 : W.cell? ⟨b2, 2, none⟩ = some (.int .i64 z)

set_option maxRecDepth 100000 in
set_option maxHeartbeats 8000000 in
theorem tableRows_walk (w : World) (v : Value) (l : List TOp) (hv : RdR w 3 TOpR v l) :
    Calls Try.prog 7 #[v] w fun e w' => e = .returned (.bool true) ∧ Chg NoB w w' := by
  obtain ⟨a, c, rfl, q1, q2, hr⟩ := hv
  unfold maxLen at q2
  by_cases hlen : 300 < l.length
  · have hl : (300 : Int) < (l.length : Int) := by omega
    go_enter Try.func7, Try.ntmps7
    go_wp2_with (go_at_call 8; refine (awake w).mono ?_; rintro e w1 ⟨rfl, c1⟩)
    refine (awake w1).mono ?_
    rintro e w2 ⟨rfl, c2⟩
    go_wp2
    go_ret
    exact ⟨rfl, c1.trans' c2⟩
  have hl : ¬ (300 : Int) < (l.length : Int) := by omega
  have HR := hid hr
  clear hr
  go_enter Try.func7, Try.ntmps7
  go_wp2_with (first
    | (go_at_call 8; refine (awake w).mono ?_; rintro e w1 ⟨rfl, c1⟩)
    | (go_at_call 9; refine (tbNew w w1 c1).mono ?_; rintro e w2 ⟨p, rfl, hT0⟩))
  go_loopw [23] (fun i wr => ∃ k : Nat, k ≤ l.length ∧ i = .int .i64 k ∧ Hid (∃ T, TB w wr p T ∧ rOk T)) (fun i _ => l.length - toN i)
  case atStart => exact ⟨0, by omega, rfl, _, hT0, by simp [rOk]⟩
  case round =>
    obtain ⟨k, hk, rfl, hI⟩ := hrel
    clear hT0
    obtain ⟨T, hT, hS⟩ := hI.out
    have HT := hid hT
    have HS := hid hS
    clear hI hS
    by_cases hlt : k < l.length
    · obtain ⟨x, b, off, hx, hwf, rfl, g0, g1, g2⟩ := top_at HR.out hT.chg k hlt
      clear hwf hT
      go_upto_block 2 with fail
      go_cut [] (fun wx => Hid (∃ T', TB w wx p T' ∧ rOk T'))
      case first =>
        cases k1 : (x.kind == 1)
        case true =>
          obtain ⟨⟨res, T'⟩, hr⟩ := named (tBegin T x.txn)
          have hRO : Hid (rOk T') := hid (by have := rOk_begin HS.out x.txn; rw [← hr.out] at this; exact this)
          go_wp2_with (go_at_call 10; refine (tbBegin (HT.out.keep ((Chg.refl NoB wr).alloc _)) x.txn res T' hr).mono ?_; rintro e w4 ⟨rfl, hTB4⟩)
          go_meet
          exact ⟨T', hTB4, hRO.out⟩
        cases k2 : (x.kind == 2)
        case true =>
          obtain ⟨⟨res, T'⟩, hr⟩ := named (tLog T x.txn x.n)
          have hRO : Hid (rOk T') := hid (by have := rOk_log HS.out x.txn x.n; rw [← hr.out] at this; exact this)
          go_wp2_with (go_at_call 11; refine (tbLog (HT.out.keep ((Chg.refl NoB wr).alloc _)) x.txn x.n res T' hr).mono ?_; rintro e w4 ⟨rfl, hTB4⟩)
          go_meet
          exact ⟨T', hTB4, hRO.out⟩
        cases k6 : (x.kind == 6)
        case true =>
          obtain ⟨⟨res, T'⟩, hr⟩ := named (tEnd T x.txn)
          have hRO : Hid (rOk T') := hid (by have := rOk_end HS.out x.txn; rw [← hr.out] at this; exact this)
          go_wp2_with (go_at_call 20; refine (tbEnd (HT.out.keep ((Chg.refl NoB wr).alloc _)) x.txn res T' hr).mono ?_; rintro e w4 ⟨rfl, hTB4⟩)
          go_meet
          exact ⟨T', hTB4, hRO.out⟩
        go_wp2_with fail
        go_meet
        exact ⟨T, HT.out.keep ((Chg.refl NoB wr).alloc _), HS.out⟩
      case rest =>
        obtain ⟨T', hTB4, hRO⟩ := hcut.out
        have HRO := hid hRO
        obtain ⟨R, hRR⟩ := named (tRows' T')
        have hok := hTB4.ok
        have hlen4 : R.length ≤ 4 := by rw [hRR.out]; exact rows_few hok.2.1
        have hfacts : Hid (∀ (i : Nat) (x y z : Int), R[i]? = some (x, y, z) → (∃ lf, tRow T' x = ((x, y, z), lf, 0)) ∧ y ≤ z ∧ 1 ≤ z) := hid (fun i x y z h => rows_facts HRO.out (by rw [← hRR.out]; exact h))
        have hrise : Hid (∀ (i : Nat) (a b : Row3), R[i]? = some a → R[i + 1]? = some b → a.1 < b.1) := hid (fun i a b h1 h2 => rows_rise hok.1 (by rw [← hRR.out]; exact h1) (by rw [← hRR.out]; exact h2))
        have HTB4 := hid hTB4
        clear hok hRO hcut hTB4 g0 g1 g2 HT HS
        go_wp2_with (go_at_call 25; refine (tbRows HTB4.out R hRR).mono ?_; rintro e w5 ⟨ra, rc, rfl, hrd, hT5⟩)
        obtain ⟨_, _, ee, hr1, hr2, hrd2⟩ := hrd.out
        cases ee
        have HRD := hid hrd2
        have HT5 := hid hT5
        clear hrd2 hrd hT5
        go_loopw [53] (fun i wr => ∃ j : Nat, j ≤ R.length ∧ i = .int .i64 j ∧ Hid (Chg NoB w5 wr)) (fun i _ => R.length - toN i)
        case atStart => exact ⟨0, by omega, rfl, Chg.refl _ _⟩
        case round =>
          obtain ⟨j, hj, rfl, hc⟩ := hrel
          by_cases hlj : j < R.length
          · obtain ⟨x1, y1, z1, rb, ro, hrx, rfl, f0, f1, f2⟩ := row_at HRD.out hc.out j hlj
            obtain ⟨⟨lf, hrow⟩, hyz, hz1⟩ := hfacts.out j x1 y1 z1 (by rw [← hrx.out]; exact List.getElem?_eq_getElem hlj)
            have HROW := hid hrow.symm
            clear hrow
            have hT6 := hid (HT5.out.keep hc.out)
            go_upto_region 19 with (go_at_call 22; refine (tbRow2 (hT6.out.keep ((Chg.refl NoB wr).alloc _)) x1 x1 y1 z1 lf 0 HROW).mono ?_; rintro e w6 ⟨rfl, c6⟩)
            have hs6 : wr.heap.size < w6.heap.size := by have := c6.size; simp at this; omega
            have HW : RwI w5 (w6.alloc (.cells #[.int .i64 x1, .int .i64 y1, .int .i64 z1] 49)) wr.heap.size w6.heap.size x1 y1 z1 := by
              have hcA : Chg NoB (wr.alloc (.cells #[.int .i64 x1, .int .i64 y1, .int .i64 z1] 49)) (w6.alloc (.cells #[.int .i64 x1, .int .i64 y1, .int .i64 z1] 49)) := c6.alloc _
              refine ⟨((hc.out.alloc _).trans' c6).alloc _, hcA.cell ?_ nob, hcA.cell ?_ nob, hcA.cell ?_ nob, ?_, ?_, ?_⟩ <;> rw [cell_blk (blk_new _ _)] <;> rfl
            refine wp_gen (fun W => RwI w5 W wr.heap.size w6.heap.size x1 y1 z1) HW ?_
            intro W hW
            obtain ⟨b1, hb1⟩ := named wr.heap.size
            obtain ⟨b2, hb2⟩ := named w6.heap.size
            rw [← hb1.out, ← hb2.out] at hW
            rw [← hb1.out, ← hb2.out]
            have HWC := hid hW.chg
            have e0 := hW.c0
            have e1 := hW.c1
            have e2 := hW.c2
            have u0 := hW.d0
            have u1 := hW.d1
            have u2 := hW.d2
            clear hW HW hs6 c6 f0 f1 f2
            rcases Nat.eq_zero_or_pos j with h0 | h0
            · have hd : decide ((0 : Int) < (j : Int)) = false := by simp; omega
              have hdN : (0 < j) = False := propext ⟨fun h => by omega, fun h => h.elim⟩
              clear h0
              refine wp_region_ord 34 (.rd 0 (.rd 1 (.rd 2 (.rd 3 (.rd 4 (.rd 5 (.rd 6 (.rd 7 (.rd 8 (.rd 9 (.rd 10 (.rd 11 (.rd 12 (.rd 13 (.rd 14 (.rd 15 (.rd 16 (.rd 17 (.rd 18 (.rd 19 (.rd 20 (.rd 21 (.rd 22 (.rd 23 (.rd 24 (.rd 25 (.rd 26 (.rd 27 (.rd 28 (.rd 29 (.rd 30 (.rd 31 (.rd 32 (.rd 33 (.done))))))))))))))))))))))))))))))))))) (Same W) (by kernel_rfl) (by kernel_rfl) (by kernel_rfl) (by kernel_rfl) (by kernel_rfl) (fun _ _ d _ _ h => by cases d <;> exact h) (Same.of (Chg.refl _ _).drew) (fun hS0 => ?_)
              refine wpOrd_rd rfl rfl (by first | decide | simp) (by assumption) (fun w' hw' K hK => by ((try unfold Same at hw'); (try go_split_ands); go_simp; exact hK)) ?_
              refine wpOrd_rd rfl rfl (by first | decide | simp) (by assumption) (fun w' hw' K hK => by ((try unfold Same at hw'); (try go_split_ands); go_simp; exact hK)) ?_
              refine wpOrd_rd rfl rfl (by first | decide | simp) (by assumption) (fun w' hw' K hK => by ((try unfold Same at hw'); (try go_split_ands); go_simp; exact hK)) ?_
              refine wpOrd_rd rfl rfl (by first | decide | simp) (by assumption) (fun w' hw' K hK => by ((try unfold Same at hw'); (try go_split_ands); go_simp; exact hK)) ?_
              refine wpOrd_rd rfl rfl (by first | decide | simp) (by assumption) (fun w' hw' K hK => by ((try unfold Same at hw'); (try go_split_ands); go_simp; exact hK)) ?_
              refine wpOrd_rd rfl rfl (by first | decide | simp) (by assumption) (fun w' hw' K hK => by ((try unfold Same at hw'); (try go_split_ands); go_simp; exact hK)) ?_
              refine wpOrd_rd rfl rfl (by first | decide | simp) (by assumption) (fun w' hw' K hK => by ((try unfold Same at hw'); (try go_split_ands); go_simp; exact hK)) ?_
              refine wpOrd_rd rfl rfl (by first | decide | simp) (by assumption) (fun w' hw' K hK => by ((try unfold Same at hw'); (try go_split_ands); go_simp; exact hK)) ?_
              refine wpOrd_rd rfl rfl (by first | decide | simp) (by assumption) (fun w' hw' K hK => by ((try unfold Same at hw'); (try go_split_ands); go_simp; exact hK)) ?_
              refine wpOrd_rd rfl rfl (by first | decide | simp) (by assumption) (fun w' hw' K hK => by ((try unfold Same at hw'); (try go_split_ands); go_simp; exact hK)) ?_
              refine wpOrd_rd rfl rfl (by first | decide | simp) (by assumption) (fun w' hw' K hK => by ((try unfold Same at hw'); (try go_split_ands); go_simp; exact hK)) ?_
              refine wpOrd_rd rfl rfl (by first | decide | simp) (by assumption) (fun w' hw' K hK => by ((try unfold Same at hw'); (try go_split_ands); go_simp; exact hK)) ?_
              refine wpOrd_rd rfl rfl (by first | decide | simp) (by assumption) (fun w' hw' K hK => by ((try unfold Same at hw'); (try go_split_ands); go_simp; exact hK)) ?_
              refine wpOrd_rd rfl rfl (by first | decide | simp) (by assumption) (fun w' hw' K hK => by ((try unfold Same at hw'); (try go_split_ands); go_simp; exact hK)) ?_
              refine wpOrd_rd rfl rfl (by first | decide | simp) (by assumption) (fun w' hw' K hK => by ((try unfold Same at hw'); (try go_split_ands); go_simp; exact hK)) ?_
              refine wpOrd_rd rfl rfl (by first | decide | simp) (by assumption) (fun w' hw' K hK => by ((try unfold Same at hw'); (try go_split_ands); go_simp; exact hK)) ?_
              refine wpOrd_rd rfl rfl (by first | decide | simp) (by assumption) (fun w' hw' K hK => by ((try unfold Same at hw'); (try go_split_ands); go_simp; exact hK)) ?_
              refine wpOrd_rd rfl rfl (by first | decide | simp) (by assumption) (fun w' hw' K hK => by ((try unfold Same at hw'); (try go_split_ands); go_simp; exact hK)) ?_
              refine wpOrd_rd rfl rfl (by first | decide | simp) (by assumption) (fun w' hw' K hK => by ((try unfold Same at hw'); (try go_split_ands); go_simp; exact hK)) ?_
              refine wpOrd_rd rfl rfl (by first | decide | simp) (by assumption) (fun w' hw' K hK => by ((try unfold Same at hw'); (try go_split_ands); go_simp; exact hK)) ?_
              refine wpOrd_rd rfl rfl (by first | decide | simp) (by assumption) (fun w' hw' K hK => by ((try unfold Same at hw'); (try go_split_ands); go_simp; exact hK)) ?_
              refine wpOrd_rd rfl rfl (by first | decide | simp) (by assumption) (fun w' hw' K hK => by ((try unfold Same at hw'); (try go_split_ands); go_simp; exact hK)) ?_
              refine wpOrd_rd rfl rfl (by first | decide | simp) (by assumption) (fun w' hw' K hK => by ((try unfold Same at hw'); (try go_split_ands); go_simp; exact hK)) ?_
              refine wpOrd_rd rfl rfl (by first | decide | simp) (by assumption) (fun w' hw' K hK => by ((try unfold Same at hw'); (try go_split_ands); go_simp; exact hK)) ?_
              refine wpOrd_rd rfl rfl (by first | decide | simp) (by assumption) (fun w' hw' K hK => by ((try unfold Same at hw'); (try go_split_ands); go_simp; exact hK)) ?_
              refine wpOrd_rd rfl rfl (by first | decide | simp) (by assumption) (fun w' hw' K hK => by ((try unfold Same at hw'); (try go_split_ands); go_simp; exact hK)) ?_
              refine wpOrd_rd rfl rfl (by first | decide | simp) (by assumption) (fun w' hw' K hK => by ((try unfold Same at hw'); (try go_split_ands); go_simp; exact hK)) ?_
              refine wpOrd_rd rfl rfl (by first | decide | simp) (by assumption) (fun w' hw' K hK => by ((try unfold Same at hw'); (try go_split_ands); go_simp; exact hK)) ?_
              refine wpOrd_rd rfl rfl (by first | decide | simp) (by assumption) (fun w' hw' K hK => by ((try unfold Same at hw'); (try go_split_ands); go_simp; exact hK)) ?_
              refine wpOrd_rd rfl rfl (by first | decide | simp) (by assumption) (fun w' hw' K hK => by ((try unfold Same at hw'); (try go_split_ands); go_simp; exact hK)) ?_
              refine wpOrd_rd rfl rfl (by first | decide | simp) (by assumption) (fun w' hw' K hK => by ((try unfold Same at hw'); (try go_split_ands); go_simp; exact hK)) ?_
              refine wpOrd_rd rfl rfl (by first | decide | simp) (by assumption) (fun w' hw' K hK => by ((try unfold Same at hw'); (try go_split_ands); go_simp; exact hK)) ?_
              refine wpOrd_rd rfl rfl (by first | decide | simp) (by assumption) (fun w' hw' K hK => by ((try unfold Same at hw'); (try go_split_ands); go_simp; exact hK)) ?_
              refine wpOrd_rd rfl rfl (by first | decide | simp) (by assumption) (fun w' hw' K hK => by ((try unfold Same at hw'); (try go_split_ands); go_simp; exact hK)) ?_
              refine wpOrd_nil ?_
              clear hd hdN e0 e1 e2 u0 u1 u2 hS0
              go_wp2_with fail
              go_roundw
              case rel => exact ⟨j + 1, by omega, by go_num, hid HWC.out.drew⟩
              case measure => simp [toN]; omega
            · obtain ⟨m, rfl⟩ : ∃ m, j = m + 1 := ⟨j - 1, by omega⟩
              have hmR : m < R.length := by omega
              obtain ⟨s1, s2, s3, rb2, ro2, hrx2, ee2, f0, _, _⟩ := row_at HRD.out HWC.out m hmR
              cases ee2
              have hlt2 := hrise.out m (s1, s2, s3) (x1, y1, z1) (by rw [← hrx2.out]; exact List.getElem?_eq_getElem hmR) (by rw [← hrx.out]; exact List.getElem?_eq_getElem hlj)
              dsimp only at hlt2
              have hge : decide (x1 ≤ s1) = false := by simp; omega
              have hd : decide ((0 : Int) < (m : Int) + 1) = true := by rw [decide_eq_true_iff]; omega
              have hw : IntKind.i64.wrap (m : Int) = (m : Int) := by rw [IntKind.wrap_i64]; omega
              have hm0 : (0 : Int) ≤ (m : Int) := by omega
              have hm1 : (m : Int) < (R.length : Int) := by omega
              clear h0 hlt2
              refine wp_region_ord 34 (.rd 0 (.rd 1 (.rd 2 (.rd 3 (.rd 4 (.rd 5 (.rd 6 (.rd 7 (.rd 8 (.rd 9 (.rd 10 (.rd 11 (.rd 12 (.rd 13 (.rd 14 (.rd 15 (.rd 16 (.rd 17 (.rd 18 (.rd 19 (.rd 20 (.rd 21 (.rd 22 (.rd 23 (.rd 24 (.rd 25 (.rd 26 (.rd 27 (.rd 28 (.rd 29 (.rd 30 (.rd 31 (.rd 32 (.rd 33 (.done))))))))))))))))))))))))))))))))))) (Same W) (by kernel_rfl) (by kernel_rfl) (by kernel_rfl) (by kernel_rfl) (by kernel_rfl) (fun _ _ d _ _ h => by cases d <;> exact h) (Same.of (Chg.refl _ _).drew) (fun hS0 => ?_)
              refine wpOrd_rd rfl rfl (by first | decide | simp) (by assumption) (fun w' hw' K hK => by ((try unfold Same at hw'); (try go_split_ands); go_simp; exact hK)) ?_
              refine wpOrd_rd rfl rfl (by first | decide | simp) (by assumption) (fun w' hw' K hK => by ((try unfold Same at hw'); (try go_split_ands); go_simp; exact hK)) ?_
              refine wpOrd_rd rfl rfl (by first | decide | simp) (by assumption) (fun w' hw' K hK => by ((try unfold Same at hw'); (try go_split_ands); go_simp; exact hK)) ?_
              refine wpOrd_rd rfl rfl (by first | decide | simp) (by assumption) (fun w' hw' K hK => by ((try unfold Same at hw'); (try go_split_ands); go_simp; exact hK)) ?_
              refine wpOrd_rd rfl rfl (by first | decide | simp) (by assumption) (fun w' hw' K hK => by ((try unfold Same at hw'); (try go_split_ands); go_simp; exact hK)) ?_
              refine wpOrd_rd rfl rfl (by first | decide | simp) (by assumption) (fun w' hw' K hK => by ((try unfold Same at hw'); (try go_split_ands); go_simp; exact hK)) ?_
              refine wpOrd_rd rfl rfl (by first | decide | simp) (by assumption) (fun w' hw' K hK => by ((try unfold Same at hw'); (try go_split_ands); go_simp; exact hK)) ?_
              refine wpOrd_rd rfl rfl (by first | decide | simp) (by assumption) (fun w' hw' K hK => by ((try unfold Same at hw'); (try go_split_ands); go_simp; exact hK)) ?_
              refine wpOrd_rd rfl rfl (by first | decide | simp) (by assumption) (fun w' hw' K hK => by ((try unfold Same at hw'); (try go_split_ands); go_simp; exact hK)) ?_
              refine wpOrd_rd rfl rfl (by first | decide | simp) (by assumption) (fun w' hw' K hK => by ((try unfold Same at hw'); (try go_split_ands); go_simp; exact hK)) ?_
              refine wpOrd_rd rfl rfl (by first | decide | simp) (by assumption) (fun w' hw' K hK => by ((try unfold Same at hw'); (try go_split_ands); go_simp; exact hK)) ?_
              refine wpOrd_rd rfl rfl (by first | decide | simp) (by assumption) (fun w' hw' K hK => by ((try unfold Same at hw'); (try go_split_ands); go_simp; exact hK)) ?_
              refine wpOrd_rd rfl rfl (by first | decide | simp) (by assumption) (fun w' hw' K hK => by ((try unfold Same at hw'); (try go_split_ands); go_simp; exact hK)) ?_
              refine wpOrd_rd rfl rfl (by first | decide | simp) (by assumption) (fun w' hw' K hK => by ((try unfold Same at hw'); (try go_split_ands); go_simp; exact hK)) ?_
              refine wpOrd_rd rfl rfl (by first | decide | simp) (by assumption) (fun w' hw' K hK => by ((try unfold Same at hw'); (try go_split_ands); go_simp; exact hK)) ?_
              refine wpOrd_rd rfl rfl (by first | decide | simp) (by assumption) (fun w' hw' K hK => by ((try unfold Same at hw'); (try go_split_ands); go_simp; exact hK)) ?_
              refine wpOrd_rd rfl rfl (by first | decide | simp) (by assumption) (fun w' hw' K hK => by ((try unfold Same at hw'); (try go_split_ands); go_simp; exact hK)) ?_
              refine wpOrd_rd rfl rfl (by first | decide | simp) (by assumption) (fun w' hw' K hK => by ((try unfold Same at hw'); (try go_split_ands); go_simp; exact hK)) ?_
              refine wpOrd_rd rfl rfl (by first | decide | simp) (by assumption) (fun w' hw' K hK => by ((try unfold Same at hw'); (try go_split_ands); go_simp; exact hK)) ?_
              refine wpOrd_rd rfl rfl (by first | decide | simp) (by assumption) (fun w' hw' K hK => by ((try unfold Same at hw'); (try go_split_ands); go_simp; exact hK)) ?_
              refine wpOrd_rd rfl rfl (by first | decide | simp) (by assumption) (fun w' hw' K hK => by ((try unfold Same at hw'); (try go_split_ands); go_simp; exact hK)) ?_
              refine wpOrd_rd rfl rfl (by first | decide | simp) (by assumption) (fun w' hw' K hK => by ((try unfold Same at hw'); (try go_split_ands); go_simp; exact hK)) ?_
              refine wpOrd_rd rfl rfl (by first | decide | simp) (by assumption) (fun w' hw' K hK => by ((try unfold Same at hw'); (try go_split_ands); go_simp; exact hK)) ?_
              refine wpOrd_rd rfl rfl (by first | decide | simp) (by assumption) (fun w' hw' K hK => by ((try unfold Same at hw'); (try go_split_ands); go_simp; exact hK)) ?_
              refine wpOrd_rd rfl rfl (by first | decide | simp) (by assumption) (fun w' hw' K hK => by ((try unfold Same at hw'); (try go_split_ands); go_simp; exact hK)) ?_
              refine wpOrd_rd rfl rfl (by first | decide | simp) (by assumption) (fun w' hw' K hK => by ((try unfold Same at hw'); (try go_split_ands); go_simp; exact hK)) ?_
              refine wpOrd_rd rfl rfl (by first | decide | simp) (by assumption) (fun w' hw' K hK => by ((try unfold Same at hw'); (try go_split_ands); go_simp; exact hK)) ?_
              refine wpOrd_rd rfl rfl (by first | decide | simp) (by assumption) (fun w' hw' K hK => by ((try unfold Same at hw'); (try go_split_ands); go_simp; exact hK)) ?_
              refine wpOrd_rd rfl rfl (by first | decide | simp) (by assumption) (fun w' hw' K hK => by ((try unfold Same at hw'); (try go_split_ands); go_simp; exact hK)) ?_
              refine wpOrd_rd rfl rfl (by first | decide | simp) (by assumption) (fun w' hw' K hK => by ((try unfold Same at hw'); (try go_split_ands); go_simp; exact hK)) ?_
              refine wpOrd_rd rfl rfl (by first | decide | simp) (by assumption) (fun w' hw' K hK => by ((try unfold Same at hw'); (try go_split_ands); go_simp; exact hK)) ?_
              refine wpOrd_rd rfl rfl (by first | decide | simp) (by assumption) (fun w' hw' K hK => by ((try unfold Same at hw'); (try go_split_ands); go_simp; exact hK)) ?_
              refine wpOrd_rd rfl rfl (by first | decide | simp) (by assumption) (fun w' hw' K hK => by ((try unfold Same at hw'); (try go_split_ands); go_simp; exact hK)) ?_
              refine wpOrd_rd rfl rfl (by first | decide | simp) (by assumption) (fun w' hw' K hK => by ((try unfold Same at hw'); (try go_split_ands); go_simp; exact hK)) ?_
              refine wpOrd_nil ?_
              clear hd hge hw f0 e0 e1 e2 u0 u1 u2 hS0
              go_wp2_with fail
              go_roundw
              case rel => exact ⟨m + 2, by omega, by go_num, hid HWC.out.drew⟩
              case measure => simp [toN]; omega
          · obtain rfl : R.length = j := by omega
            have hR4 : (R.length : Int) ≤ 4 := by omega
            go_wp2_with fail
            go_roundw
            case rel => exact ⟨k + 1, by omega, by go_num, hid ⟨T', HT5.out.keep hc.out, HRO.out⟩⟩
            case measure => simp [toN]; omega
    · obtain rfl : l.length = k := by omega
      go_wp2_with fail
      go_ret
      exact ⟨rfl, HT.out.chg⟩
end Go.Proofs.Ytmikbjlgcndmeaa
