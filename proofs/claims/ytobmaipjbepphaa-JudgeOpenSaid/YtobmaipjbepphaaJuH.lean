import Derived.Test.YtobmaipjbepphaaJuS
namespace Go.Proofs.Ytobmaipjbepphaa
open Go.RowKit Go.ChangeMaps Go.MapKept
attribute [local go_sem] Go.Oper.rdK
set_option linter.unusedVariables false
set_option maxHeartbeats 8000000

set_option maxRecDepth 100000 in
theorem stands_calls (p ro rb : Nat) (E : List JE) (s : JS) (af : Value) (n : Nat) (b o : Nat) (r : Rec) (v1 v2 : Value) (w : World) (hJ : JAt w p ro rb E s af n) (hr : RcAt w b o r v1 v2)
    (hrk : r.ok) (hbs : r.before.size ≤ 2 ^ 62) (res : Bool) (hres : Hid (res = jHas s.pg r)) :
    Calls Try.prog 32 #[.pointer (some ⟨p, 0, none⟩), .pointer (some ⟨b, o, none⟩)] w fun e w' => e = .returned (.bool res) ∧ Chg NoB w w' := by
  obtain ⟨c0, c1, c2, c3, c4, c5, c6, c7, c8⟩ := hr.cells
  clear c0 c1 c4 c5 c6 c8
  by_cases hp : r.page < 0 ∨ (8 : Int) ≤ r.page
  · have HE := hid (show jHas s.pg r = false by unfold jHas; rw [if_pos hp])
    go_enter Try.func32, Try.ntmps32
    by_cases h0 : r.page < 0
    · go_wp2
      go_ret
      exact ⟨ret_bool (by rw [hres.out, HE.out]), Chg.refl _ _⟩
    · have h1 : (8 : Int) ≤ r.page := by omega
      go_wp2
      go_ret
      exact ⟨ret_bool (by rw [hres.out, HE.out]), Chg.refl _ _⟩
  · obtain ⟨k, hk⟩ := Int.eq_ofNat_of_zero_le (show 0 ≤ r.page by omega)
    have hkl : k < s.pg.length := by rw [hJ.pl]; omega
    obtain ⟨d1, d2⟩ := pg_cells (pre := [.int .i64 s.last, .map (some ro)]) (post := [.map (some rb), af]) (by simpa [juC] using hJ.blk) k hkl
    obtain ⟨q, hq⟩ := named s.pg[k]
    have hqs : q.data.size ≤ 2 ^ 62 := by rw [hq.out]; have := hJ.pr _ (List.getElem_mem hkl); omega
    obtain ⟨g, hg⟩ := named (q.get r.off r.before.size)
    have hof := hrk.2.2.2.1
    have hbf : fits (r.before.size : Int) := by unfold fits; omega
    have HJ : Hid (res = (g.2 == 0 && (g.1.toList == r.before.toList))) := hid (by rw [hres.out]; unfold jHas; rw [if_neg hp, hk, Int.toNat_natCast, getD_at s.pg k hkl, hg.out, hq.out])
    rw [← hq.out] at d1 d2
    simp only [List.length_cons, List.length_nil, Nat.zero_add, Nat.reduceAdd] at d1 d2
    rw [hk] at c2
    have hk8 : (k : Int) < 8 := by omega
    have hk0 : (0 : Int) ≤ (k : Int) := by omega
    clear hp hk hrk hres
    have hps : Try.prog.underlying 59 = some (.array 8 58) := by kernel_rfl
    go_enter Try.func32, Try.ntmps32
    go_upto_region 3 with fail
    refine wp_region_ord 24 (.rd 0 (.rd 1 (.rd 2 (.rd 3 (.rd 4 (.rd 5 (.rd 6 (.rd 7 (.rd 8 (.rd 9 (.rd 10 (.rd 11 (.rd 12 (.rd 13 (.rd 14 (.rd 15 (.rd 16 (.rd 17 (.one 18 (.rd 19 (.rd 20 (.rd 21 (.rd 22 (.rd 23 (.done))))))))))))))))))))))))) (Same w) (by kernel_rfl) (by kernel_rfl) (by kernel_rfl) (by kernel_rfl) (by kernel_rfl) (fun _ _ d _ _ h => by cases d <;> exact h) (Same.of (Chg.refl _ _).drew) (fun hS0 => ?_)
    refine wpOrd_rd rfl rfl (by first | decide | simp) (by assumption) (fun w' hw' K hK => by ((try unfold Same at hw'); (try go_split_ands); go_simp; exact hK)) ?_
    refine wpOrd_rd rfl rfl (by first | decide | simp) (by assumption) (fun w' hw' K hK => by ((try unfold Same at hw'); (try go_split_ands); go_simp; exact hK)) ?_
    refine wpOrd_rd rfl rfl (by first | decide | simp) (by assumption) (fun w' hw' K hK => by ((try unfold Same at hw'); (try go_split_ands); go_simp; exact hK)) ?_
    refine wpOrd_rd rfl rfl (by first | decide | simp) (by assumption) (fun w' hw' K hK => by ((try unfold Same at hw'); (try go_split_ands); go_simp; exact hK)) ?_
    refine wpOrd_rd rfl rfl (by first | decide | simp) (by assumption) (fun w' hw' K hK => by ((try unfold Same at hw'); (try go_split_ands); go_simp; exact hK)) ?_
    refine wpOrd_rd rfl rfl (by first | decide | simp) (by assumption) (fun w' hw' K hK => by ((try unfold Same at hw'); (try go_split_ands); go_simp; exact hK)) ?_
    refine wpOrd_rd rfl rfl (by first | decide | simp) (by assumption) (fun w' hw' K hK => by ((try unfold Same at hw'); (try go_split_ands); go_simp; exact hK)) ?_
    refine wpOrd_rd rfl rfl (by first | decide | simp) (by assumption) (fun w' hw' K hK => by ((try unfold Same at hw'); (try go_split_ands); go_simp; exact hK)) ?_
    refine wpOrd_rd rfl rfl (by first | decide | simp) (by assumption) (fun w' hw' K hK => by ((try unfold Same at hw'); (try go_split_ands); go_simp; exact hK)) ?_
    refine wpOrd_rd rfl rfl (by first | decide | simp) (by assumption) (fun w' hw' K hK => by ((try unfold Same at hw'); (try go_split_ands); go_simp; exact hK)) ?_
    refine wpOrd_rd rfl rfl (by first | decide | simp) (by assumption) (fun w' hw' K hK => by ((try unfold Same at hw'); (try go_split_ands); go_simp; exact hK)) ?_
    refine wpOrd_rd rfl rfl (by first | decide | simp) (by assumption) (fun w' hw' K hK => by ((try unfold Same at hw'); (try go_split_ands); go_simp; exact hK)) ?_
    refine wpOrd_rd rfl rfl (by first | decide | simp) (by assumption) (fun w' hw' K hK => by ((try unfold Same at hw'); (try go_split_ands); go_simp; exact hK)) ?_
    refine wpOrd_rd rfl rfl (by first | decide | simp) (by assumption) (fun w' hw' K hK => by ((try unfold Same at hw'); (try go_split_ands); go_simp; exact hK)) ?_
    refine wpOrd_rd rfl rfl (by first | decide | simp) (by assumption) (fun w' hw' K hK => by ((try unfold Same at hw'); (try go_split_ands); go_simp; exact hK)) ?_
    refine wpOrd_rd rfl rfl (by first | decide | simp) (by assumption) (fun w' hw' K hK => by ((try unfold Same at hw'); (try go_split_ands); go_simp; exact hK)) ?_
    refine wpOrd_rd rfl rfl (by first | decide | simp) (by assumption) (fun w' hw' K hK => by ((try unfold Same at hw'); (try go_split_ands); go_simp; exact hK)) ?_
    refine wpOrd_rd rfl rfl (by first | decide | simp) (by assumption) (fun w' hw' K hK => by ((try unfold Same at hw'); (try go_split_ands); go_simp; exact hK)) ?_
    refine wpOrd_do rfl ?_
    refine wpList_plain rfl (fun K hK => ?_)
    go_simp
    ((with_reducible refine (get_lit q r.off r.before.size _ g hg hqs hof hbf).mono ?_); rintro e w2 ⟨rfl, hc2⟩)
    refine hK _ _ ?_
    clear hK K
    (try dsimp only [Act.put])
    (try simp only [List.setIfInBounds_toArray, List.set_cons_zero, List.set_cons_succ])
    refine wpOrd_done (Same.of ((Chg.refl NoB w).drew.trans' hc2)) (fun hS1 => ?_)
    refine wpOrd_rd rfl rfl (by first | decide | simp) (by assumption) (fun w' hw' K hK => by ((try unfold Same at hw'); (try go_split_ands); go_simp; exact hK)) ?_
    refine wpOrd_rd rfl rfl (by first | decide | simp) (by assumption) (fun w' hw' K hK => by ((try unfold Same at hw'); (try go_split_ands); go_simp; exact hK)) ?_
    refine wpOrd_rd rfl rfl (by first | decide | simp) (by assumption) (fun w' hw' K hK => by ((try unfold Same at hw'); (try go_split_ands); go_simp; exact hK)) ?_
    refine wpOrd_rd rfl rfl (by first | decide | simp) (by assumption) (fun w' hw' K hK => by ((try unfold Same at hw'); (try go_split_ands); go_simp; exact hK)) ?_
    refine wpOrd_rd rfl rfl (by first | decide | simp) (by assumption) (fun w' hw' K hK => by ((try unfold Same at hw'); (try go_split_ands); go_simp; exact hK)) ?_
    refine wpOrd_nil ?_
    have hc3 : Chg NoB w w2 := (Chg.refl NoB w).drew.trans' hc2
    have c7' := hc3.cell c7 nob
    clear c7 hS0 hS1
    obtain ⟨g1, g2⟩ := g
    by_cases h0 : g2 = 0
    · subst h0
      obtain ⟨eq, heq⟩ := named (g1.toList == r.before.toList)
      have heq' := heq.out.symm
      go_wp2_with fail
      go_ret
      exact ⟨ret_bool (by rw [HJ.out, heq.out]; simp), hc3⟩
    · go_wp2_with fail
      go_ret
      exact ⟨ret_bool (by rw [HJ.out]; simp [h0]), hc3⟩
end Go.Proofs.Ytobmaipjbepphaa
