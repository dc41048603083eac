import Derived.Test.YtlhblkpdfdpiaaaWtBl
namespace Go.Proofs.Ytlhblkpdfdpiaaa.Wt
open Go.RowKit Go.ChangeMaps Go.MapKept Go.Shelf
set_option linter.unusedVariables false
set_option linter.unusedSimpArgs false
set_option linter.unnecessarySimpa false
set_option maxHeartbeats 16000000

set_option maxRecDepth 100000 in
theorem rbl_calls (w : World) (q : Nat) (tv : Value) (B : Nat) (L : List RRow) (hL : RefAt w q tv B L) (kd tx pg : Int) (x3 x4 x5 x6 x7 : Value) (v : Value) (l : List Int) (hv : Rd w 1 encI v l) (hl : l.length ≤ 1000) :
    Calls Try.prog 20 #[.pointer (some ⟨q, 0, none⟩), .agg #[.int .i64 kd, .int .i64 tx, .int .i64 pg, x3, x4, x5, x6, x7], v] w fun ee w' => ∃ v', ee = .returned v' ∧ Hid (OwnL w w' v' (rBl L kd tx pg l)) ∧ Hid (Chg NoB w w') := by
  have HL := hid hL
  obtain ⟨a, c, rfl, q1, q2, hr⟩ := hv
  unfold maxLen at q2
  have HR := hid hr
  clear hr hL
  go_enter Try.func20, Try.ntmps20
  go_upto_region 1 with fail
  obtain ⟨nb, hnb⟩ := named w.heap.size
  have hw1 : Hid (Chg NoB w (w.alloc (.cells #[.int .i64 kd, .int .i64 tx, .int .i64 pg, x3, x4, x5, x6, x7] 37))) := hid ((Chg.refl NoB w).alloc _)
  have hb0 : Hid ((w.alloc (.cells #[.int .i64 kd, .int .i64 tx, .int .i64 pg, x3, x4, x5, x6, x7] 37)).heap[nb]? = some (.cells #[.int .i64 kd, .int .i64 tx, .int .i64 pg, x3, x4, x5, x6, x7] 37 (0, 0))) := hid (by rw [hnb.out]; exact blk_new _ _)
  rw [← hnb.out]
  refine wp_gen (fun W => Hid (Chg NoB w W) ∧ Hid (W.heap[nb]? = some (.cells #[.int .i64 kd, .int .i64 tx, .int .i64 pg, x3, x4, x5, x6, x7] 37 (0, 0)))) ⟨hw1, hb0⟩ ?_
  rintro W ⟨HC, HB⟩
  clear hw1 hb0
  have g0 : W.cell? ⟨nb, 0, none⟩ = some (.int .i64 kd) := cell_blk HB.out 0
  have g2 : W.cell? ⟨nb, 2, none⟩ = some (.int .i64 pg) := cell_blk HB.out 2
  have hno : kd < 2 ∨ kd > 4 ∨ pg < 0 ∨ pg > 7 → Hid (rBl L kd tx pg l = []) := fun h => hid (by rw [rBl, if_pos h])
  by_cases z1 : kd < 2
  · have HN := hno (.inl z1)
    clear hno
    go_wp2_with fail
    go_ret
    exact ⟨_, rfl, hid (by rw [HN.out]; exact ⟨World.ownsRow_nil _ _ _ _, fun _ => rfl⟩), HC⟩
  by_cases z2 : kd > 4
  · have HN := hno (.inr (.inl z2))
    clear hno
    go_wp2_with fail
    go_ret
    exact ⟨_, rfl, hid (by rw [HN.out]; exact ⟨World.ownsRow_nil _ _ _ _, fun _ => rfl⟩), HC⟩
  by_cases z3 : pg < 0
  · have HN := hno (.inr (.inr (.inl z3)))
    clear hno
    go_wp2_with fail
    go_ret
    exact ⟨_, rfl, hid (by rw [HN.out]; exact ⟨World.ownsRow_nil _ _ _ _, fun _ => rfl⟩), HC⟩
  by_cases z4 : pg > 7
  · have HN := hno (.inr (.inr (.inr z4)))
    clear hno
    go_wp2_with fail
    go_ret
    exact ⟨_, rfl, hid (by rw [HN.out]; exact ⟨World.ownsRow_nil _ _ _ _, fun _ => rfl⟩), HC⟩
  clear hno
  have HSP : Hid (∀ l, rBl L kd tx pg l = blk (rF L kd tx pg) l) := hid (fun l => by rw [rBl, if_neg (by omega)])
  have HF : Hid (∀ n, rF L kd tx pg n = ((n != tx) && ((rfMode L n pg == 2) || ((rfMode L n pg == 1) && (kd != 2))))) := hid (fun n => rfl)
  obtain ⟨F, hF⟩ := named (rF L kd tx pg)
  rw [← hF.out] at HSP HF
  clear hF
  go_wp2_with fail
  go_loopw [7, 8] (fun s6 s20 wr => ∃ k : Nat, k ≤ l.length ∧ s20 = .int .i64 k ∧ Hid (OwnL W wr s6 (blk F (l.take k)) ∧ Chg NoB W wr)) (fun _ k _ => l.length - (intOf k).toNat)
  case atStart => exact ⟨0, by omega, rfl, hid ⟨⟨World.ownsRow_nil _ _ _ _, fun _ => rfl⟩, Chg.refl _ _⟩⟩
  case round =>
    obtain ⟨k, hk, rfl, hI⟩ := hrel
    obtain ⟨oa, oc, e1⟩ := ownsForm hI.out.1.1
    subst e1
    by_cases hlt : k < l.length
    · obtain ⟨n, hn⟩ := named l[k]
      obtain ⟨b, off, hab, h2⟩ := Rd.cells HR.out (HC.out.trans' hI.out.2) k hlt
      rw [← hn.out] at h2
      subst hab
      have h2 := h2 0 _ rfl
      simp only [Nat.add_zero, Nat.mul_one] at h2
      obtain ⟨m, hm⟩ := named (rfMode L n pg)
      have hFn := HF.out n
      rw [← hm.out] at hFn
      obtain ⟨acc, hacc⟩ := named (blk F (l.take k))
      have HSN : Hid (blk F (l.take (k + 1)) = bstep F acc n) := hid (by rw [List.take_succ_eq_append_getElem hlt, blk_snoc, ← hacc.out, ← hn.out])
      have HAL : acc.length ≤ 1000 := by rw [hacc.out]; have := blk_len F l k (by omega); omega
      rw [← hacc.out] at hI
      rw [← hacc.out]
      have hskip : F n = false → Hid (bstep F acc n = acc) := fun h => hid (by simp [bstep, h])
      have HO := hid hI.out.1
      have HCW := hid hI.out.2
      have HLW := hid (HL.out.keep (HC.out.trans' HCW.out) (fun e => e) (fun _ _ e => e))
      have x0 : wr.cell? ⟨nb, 0, none⟩ = some (.int .i64 kd) := cell_blk (HCW.out.heap HB.out nob) 0
      have x1 : wr.cell? ⟨nb, 1, none⟩ = some (.int .i64 tx) := cell_blk (HCW.out.heap HB.out nob) 1
      have x2 : wr.cell? ⟨nb, 2, none⟩ = some (.int .i64 pg) := cell_blk (HCW.out.heap HB.out nob) 2
      have HCN := hid (has_calls wr _ acc (Rd.ints_of HO.out.1) n _ (hid rfl))
      have HFN := hid hFn
      clear hI g0 g2 hFn
      cases c1 : (n != tx)
      · have HK := hskip (by rw [HFN.out, c1]; rfl)
        clear hskip
        go_wp2_with (go_at_call 42; refine (refMode q tv B L n pg wr HLW.out m hm).mono ?_; rintro e w1 ⟨rfl, rfl⟩)
        go_roundw
        case rel => exact ⟨k + 1, by omega, by go_num, hid ⟨by rw [HSN.out, HK.out]; exact HO.out, HCW.out⟩⟩
        case measure => simp [intOf]; omega
      · have hway : (m == 2) = false ∧ (m == 1) = false ∨ (m == 2) = false ∧ (m == 1) = true ∧ (kd != 2) = false ∨ (m == 2) = false ∧ (m == 1) = true ∧ (kd != 2) = true ∨ (m == 2) = true := by
          cases (m == 2) <;> cases (m == 1) <;> cases (kd != 2) <;> simp
        rcases hway with ⟨c2, c3⟩ | ⟨c2, c3, c5⟩ | ⟨c2, c3, c5⟩ | c2
        · have HK := hskip (by rw [HFN.out, c2, c3]; simp)
          clear hskip
          go_wp2_with (go_at_call 42; refine (refMode q tv B L n pg wr HLW.out m hm).mono ?_; rintro e w1 ⟨rfl, rfl⟩)
          go_roundw
          case rel => exact ⟨k + 1, by omega, by go_num, hid ⟨by rw [HSN.out, HK.out]; exact HO.out, HCW.out⟩⟩
          case measure => simp [intOf]; omega
        · have HK := hskip (by rw [HFN.out, c2, c3, c5]; simp)
          clear hskip
          go_wp2_with (go_at_call 42; refine (refMode q tv B L n pg wr HLW.out m hm).mono ?_; rintro e w1 ⟨rfl, rfl⟩)
          go_roundw
          case rel => exact ⟨k + 1, by omega, by go_num, hid ⟨by rw [HSN.out, HK.out]; exact HO.out, HCW.out⟩⟩
          case measure => simp [intOf]; omega
        all_goals
          have hFt : F n = true := by first | (rw [HFN.out, c1, c2, c3, c5]; rfl) | (rw [HFN.out, c1, c2]; rfl)
          have HFT := hid hFt
          clear hFt hskip
          cases c4 : acc.contains n
        all_goals rw [c4] at HCN
        all_goals first
          | have HK : Hid (bstep F acc n = acc ++ [n]) := hid (by unfold bstep; rw [HFT.out, c4]; rfl)
            go_wp2_with (first
              | (go_at_call 42; refine (refMode q tv B L n pg wr HLW.out m hm).mono ?_; rintro e w1 ⟨rfl, rfl⟩)
              | (go_at_call 31; refine HCN.out.mono ?_; rintro e w1 ⟨rfl, rfl⟩)
              | (at_builtin; refine step_app1 slInt rfl _ _ rfl (World.ownsRow.alloc HO.out.1 _) rfl wr.heap.size [.int .i64 n] rfl (blk_new _ _) rfl rfl (by simp [Value.oneCell']) (by omega) (by unfold maxLen; omega) (by have := HCW.out.size; have := HC.out.size; simp; omega) ?_; intro v5 w5 hv5 hc5 hn5 hnil))
            obtain ⟨a5, n5, rfl⟩ := ownsForm hv5
            have HV5 := hid hv5
            have HC5 := hid ((HCW.out.alloc (.cells #[.int .i64 n] 3)).new hc5 (fun b hb => (OwnB.ge HO.out.1 b hb).1))
            clear hv5 hc5 hn5 hnil
            go_wp2_with fail
            go_roundw
            case rel => exact ⟨k + 1, by omega, by go_num, hid ⟨⟨by rw [HSN.out, HK.out]; simpa using HV5.out, fun h => by rw [HSN.out, HK.out] at h; simp at h⟩, HC5.out⟩⟩
            case measure => simp [intOf]; omega
          | have HK : Hid (bstep F acc n = acc) := hid (by unfold bstep; rw [HFT.out, c4]; rfl)
            go_wp2_with (first
              | (go_at_call 42; refine (refMode q tv B L n pg wr HLW.out m hm).mono ?_; rintro e w1 ⟨rfl, rfl⟩)
              | (go_at_call 31; refine HCN.out.mono ?_; rintro e w1 ⟨rfl, rfl⟩))
            go_roundw
            case rel => exact ⟨k + 1, by omega, by go_num, hid ⟨by rw [HSN.out, HK.out]; exact HO.out, HCW.out⟩⟩
            case measure => simp [intOf]; omega
    · obtain rfl : l.length = k := by omega
      rw [List.take_length] at hI
      rw [List.take_length]
      go_wp2_with fail
      go_ret
      exact ⟨_, rfl, hid (by rw [HSP.out]; exact hI.out.1.le HC.out.size), hid (HC.out.trans' hI.out.2)⟩
end Go.Proofs.Ytlhblkpdfdpiaaa.Wt
