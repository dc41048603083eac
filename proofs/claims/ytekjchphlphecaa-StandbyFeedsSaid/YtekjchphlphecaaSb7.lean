import Derived.Test.YtekjchphlphecaaSb6
namespace Go.Proofs.Ytekjchphlphecaa
open Go.RowKit Go.ChangeMaps Go.MapKept
attribute [local go_sem] Go.Oper.rdK
set_option linter.unusedVariables false
set_option linter.unusedSimpArgs false
set_option maxHeartbeats 8000000

theorem countP_snoc {α : Type} (f : α → Bool) (l : List α) (k : Nat) (h : k < l.length) : (l.take (k + 1)).countP f = (l.take k).countP f + (if f l[k] then 1 else 0) := by
  rw [take_snoc' h, List.countP_append]; simp
set_option maxRecDepth 100000 in
theorem lag_calls (w0 : World) (p g rl : Nat) (lv : Value) (s : SS) (v : Value) (l : List Ent) (w : World) (h : StAt w0 w p g rl lv s) (hl : s.L.length ≤ 1000000) (hv : Ents w v l) (hl2 : l.length ≤ 1000000) (res : Int) (hres : Hid (res = sLag s.L l)) :
    Calls Try.prog 22 #[.pointer (some ⟨p, 0, none⟩), v] w fun e w' => e = .returned (.int .i64 res) ∧ Chg NoB w w' := by
  obtain ⟨a, c, rfl, h1, h2, h3⟩ := hv
  have H3 := hid h3
  have HH := hid h
  obtain ⟨up, hup⟩ := named (sUpto s.L)
  clear h3 h
  go_enter Try.func22, Try.ntmps22
  go_wp2
  go_loopw [4, 11] (fun n i wr => ∃ (k : Nat) (c : Nat), k ≤ l.length ∧ c ≤ k ∧ i = .int .i64 k ∧ n = .int .i64 c ∧ Hid (c = (l.take k).countP (fun x => decide (up < x.at_))) ∧ Hid (Chg NoB w wr)) (fun _ i _ => l.length - (intOf i).toNat)
  case atStart => exact ⟨0, 0, by omega, by omega, rfl, rfl, rfl, Chg.refl _ _⟩
  case round =>
    obtain ⟨k, cn, hk, hck, rfl, rfl, hcn, hc⟩ := hrel
    by_cases hlt : k < l.length
    · obtain ⟨x, b, off, v1, v2, hx, rfl, ht, hok, hE, hbl, hone⟩ := Ents.at H3.out hc.out k hlt
      obtain ⟨⟨a1, n1, rfl, _, _, _⟩, ⟨a2, n2, rfl, _, _, _⟩⟩ := ht
      obtain ⟨c0, q0, q1, q2, q3, q4, q5, q6, q7, q8, q9, q10⟩ := hE.cells
      have hcs := countP_snoc (fun x => decide (up < x.at_)) l k hlt
      rw [hx.out, ← hcn.out] at hcs
      have HC := hid hcs
      clear hE hcs
      go_upto_region 6 with fail
      refine wp_gen (fun W => Chg NoB w W ∧ W.cell? ⟨wr.heap.size, 0, none⟩ = some (.int .i64 x.at_)) ⟨hc.out.alloc _, by rw [cell_blk (blk_new _ _)]; rfl⟩ ?_
      rintro W ⟨hcW, e0⟩
      replace hcW := hid hcW
      obtain ⟨bb, hbb⟩ := named (decide (up < x.at_))
      have hd := hbb.out.symm
      refine wp_region_ord 5 (.rd 0 (.rd 1 (.rd 2 (.one 3 (.rd 4 (.done)))))) (Same W) (by kernel_rfl) (by kernel_rfl) (by kernel_rfl) (by kernel_rfl) (by kernel_rfl) (fun _ _ d _ _ h => by cases d <;> exact h) (Same.of (Chg.refl _ _).drew) (fun hS0 => ?_)
      refine wpOrd_rd rfl rfl (by first | decide | simp) (by assumption) (fun w' hw' K hK => by ((try unfold Same at hw'); (try go_split_ands); go_simp; exact hK)) ?_
      refine wpOrd_rd rfl rfl (by first | decide | simp) (by assumption) (fun w' hw' K hK => by ((try unfold Same at hw'); (try go_split_ands); go_simp; exact hK)) ?_
      refine wpOrd_rd rfl rfl (by first | decide | simp) (by assumption) (fun w' hw' K hK => by ((try unfold Same at hw'); (try go_split_ands); go_simp; exact hK)) ?_
      refine wpOrd_do rfl ?_
      (first | refine wpList_plain rfl (fun K hK => ?_) | refine wpList_step (fun K hK => ?_))
      go_simp
      ((with_reducible refine (upto_calls w0 p g rl lv s _ (HH.out.keep0 hcW.out.drew) (by omega) up hup).mono ?_); rintro e w2 ⟨rfl, hc2⟩)
      refine hK _ _ ?_
      clear hK K
      (try dsimp only [Act.put])
      refine wpOrd_done (Same.of ((Chg.refl NoB W).drew.trans' hc2)) (fun hS1 => ?_)
      refine wpOrd_rd rfl rfl (by first | decide | simp) (by assumption) (fun w' hw' K hK => by ((try unfold Same at hw'); (try go_split_ands); go_simp; exact hK)) ?_
      refine wpOrd_nil ?_
      have hc9 : Hid (Chg NoB w w2) := hid (hcW.out.drew.trans' hc2)
      clear hc2 hS0 e0 c0 q0 q1 q2 q3 q4 q5 q6 q7 q8 q9 q10
      cases bb
      · go_wp2_with fail
        go_roundw
        case rel => exact ⟨k + 1, cn, by omega, by omega, by go_num, rfl, hid (by rw [HC.out, hd]; simp), hc9⟩
        case measure => simp [intOf]; omega
      · go_wp2_with fail
        go_roundw
        case rel => exact ⟨k + 1, cn + 1, by omega, by omega, by go_num, by go_num, hid (by rw [HC.out, hd]; simp), hc9⟩
        case measure => simp [intOf]; omega
    · obtain rfl : k = l.length := by omega
      have hcr : res = (cn : Int) := by rw [hres.out, hcn.out, List.take_length]; unfold sLag; rw [hup.out]
      subst hcr
      go_wp2_with fail
      go_ret
      exact ⟨rfl, hc.out⟩
end Go.Proofs.Ytekjchphlphecaa
