import Derived.Test.YtmikbjlgcndmeaaTr4
namespace Go.Proofs.Ytmikbjlgcndmeaa
open Go.RowKit Go.ChangeMaps Go.MapKept
attribute [local go_sem] Go.Oper.rdK
set_option linter.unusedVariables false
set_option linter.unusedSimpArgs false
set_option linter.unnecessarySimpa false
set_option maxHeartbeats 8000000

/-- The marks of a slice cut short. -/
theorem Rd.head {α : Type} {w : World} {size : Nat} {enc : α → List Value} {a : Option Addr} {c : Nat} {l : List α} (h : Rd w size enc (.slice a l.length c) l) (n : Nat) (hn : n ≤ l.length) : Rd w size enc (.slice a n c) (l.take n) := by
  obtain ⟨a', c', e, h1, h2, h3⟩ := h
  cases e
  refine ⟨_, _, by rw [List.length_take, Nat.min_eq_left hn], by rw [List.length_take]; omega, by rw [List.length_take]; omega, fun i x hi => ?_⟩
  rw [List.getElem?_take] at hi
  split at hi
  · exact h3 i x hi
  · cases hi

set_option maxRecDepth 100000 in
theorem rBack_calls (w0 : Rsv) (w : World) (p : Nat) (L : TTab) (n k : Int) (h : RT w0 w p L) (ra rl er : Int) (L' : TTab) (hres : Hid ((ra, rl, er, L') = tBack L n k)) :
    Calls Try.prog 19 #[.pointer (some ⟨p, 0, none⟩), .int .i64 n, .int .i64 k] w fun e w' => e = .returned (.tuple #[.int .i64 ra, .int .i64 rl, .int .i64 er]) ∧ Hid (RT w0 w' p L') := by
  obtain ⟨lv, xs, rfl, h⟩ := h
  obtain ⟨ix, hix⟩ := named (rIdx (xs.map (·.1)) n)
  have HH := hid h
  have hr := hres.out
  unfold tBack at hr
  rcases rIdx_cases (xs.map (·.1)) n with ⟨h1, h2⟩ | ⟨i, s, h1, h2, h3, h4⟩
  · rw [h2] at hr
    cases hr
    have hix2 : ix = -1 := by rw [hix.out, h1]
    clear h h1 h2 hres
    subst hix2
    go_enter Try.func19, Try.ntmps19
    go_wp2_with (go_at_call 30; refine (rFind_calls w0 _ p lv xs n HH.out _ hix).mono ?_; rintro e w1 ⟨rfl, hc1⟩)
    go_ret3
    exact ⟨rfl, hid ⟨lv, xs, rfl, HH.out.keep hc1⟩⟩
  · rw [h4] at hr
    rw [h1] at hix
    have hixe := hix.out
    subst hixe
    rw [List.getElem?_map] at h2
    obtain ⟨⟨s', mv⟩, hx, rfl⟩ := Option.map_eq_some_iff.1 h2
    have HX := hid hx
    obtain ⟨g, cap, rfl, hcap, c0, c1, c2, c3, c4⟩ := h.cells hx
    have hil := (List.getElem?_eq_some_iff.1 hx).1
    have HP := hid h.cell
    have hi0 : (0 : Int) ≤ (i : Int) := by omega
    have hi1 : (i : Int) < (xs.length : Int) := by omega
    have hin : ¬ (i : Int) < 0 := by omega
    have HIX : Hid ((i : Int) = rIdx (xs.map (·.1)) n) := hid h1.symm
    have hmk := hid (h.mks _ (List.mem_of_getElem? hx))
    have hft := hid (h.fit _ (List.mem_of_getElem? hx))
    obtain ⟨am, cm, em, hm1, hm2, hm3⟩ := hmk.out.rd
    simp only at em hm1 hm2 hm3 hr h3
    subst em
    unfold maxLen at hm2
    have HM3 := hid hm3
    clear c0 c1 c2 c3 h h1 h2 h4 hx hres hix hm3
    by_cases hk : k < 0 ∨ (s'.marks.length : Int) ≤ k
    · rw [if_pos hk] at hr
      cases hr
      have hcs : k < 0 ∨ (¬ k < 0 ∧ (s'.marks.length : Int) ≤ k) := by omega
      clear hk
      rcases hcs with q1 | ⟨q1, q2⟩
      all_goals
        go_enter Try.func19, Try.ntmps19
        go_wp2_with (go_at_call 30; refine (rFind_calls w0 _ p _ xs n HH.out _ HIX).mono ?_; rintro e w1 ⟨rfl, hc1⟩; have c4 := hc1.cell c4 nob; have hp1 := hc1.cell HP.out nob)
        go_ret3
        exact ⟨rfl, hid ⟨_, xs, rfl, HH.out.keep hc1⟩⟩
    · rw [if_neg hk] at hr
      obtain ⟨m, rfl⟩ := Int.eq_ofNat_of_zero_le (show 0 ≤ k by omega)
      have hml : m < s'.marks.length := by omega
      rw [Int.toNat_natCast] at hr
      have q1 : ¬ (m : Int) < 0 := by omega
      have q2 : ¬ (s'.marks.length : Int) ≤ (m : Int) := by omega
      have hw : IntKind.i64.wrap ((m : Int) + 1) = ((m + 1 : Nat) : Int) := by rw [IntKind.wrap_i64]; omega
      obtain ⟨mb, mo, rfl, hmc⟩ := HM3.out m _ (List.getElem?_eq_getElem hml)
      obtain ⟨s1, hs1⟩ := named ({ s' with marks := s'.marks.take (m + 1) } : TxS)
      obtain ⟨mx, hmx⟩ := named s'.marks[m]
      have hmd : s'.marks.getD m (0, 0) = mx := by rw [hmx.out, List.getD_eq_getElem?_getD, List.getElem?_eq_getElem hml]; rfl
      rw [hmd] at hr
      have hr2 : ra = mx.1 ∧ rl = mx.2 ∧ er = 0 ∧ L' = (xs.set i (s1, .slice (some ⟨mb, mo, none⟩) (m + 1) cm)).map (·.1) := by
        cases hr
        refine ⟨rfl, rfl, rfl, ?_⟩
        rw [fst_set, ← h3, hs1.out]
        exact tUpd_set HH.out.srt' (by rw [List.getElem?_map, HX.out]; rfl)
      obtain ⟨rfl, rfl, rfl, hL0⟩ := hr2
      have hL := hid hL0
      clear hL0
      have hmc0 := hmc 0 _ rfl
      have hmc1 := hmc 1 _ rfl
      rw [← hmx.out] at hmc0 hmc1
      have MC0 := hid hmc0
      have MC1 := hid hmc1
      have hmb : ¬ OwnB (.slice (some ⟨g, 0, none⟩) xs.length cap) mb := (hmk.out.out mb ⟨mo, _, _, rfl, by omega⟩).2.1
      have hk' : Hid (∀ {w' : World}, MkK w0 p (.slice (some ⟨g, 0, none⟩) xs.length cap) w' (s', .slice (some ⟨mb, mo, none⟩) s'.marks.length cm) → MkK w0 p (.slice (some ⟨g, 0, none⟩) xs.length cap) w' (s1, .slice (some ⟨mb, mo, none⟩) (m + 1) cm)) := hid (fun h => ⟨by rw [hs1.out]; exact h.rd.head (m + 1) (by omega), fun k hk => h.out k (by
        obtain ⟨o1, n1, c1, e1, _⟩ := hk
        cases e1
        exact ⟨_, _, _, rfl, by omega⟩)⟩)
      have hm0 : (0 : Int) ≤ (m : Int) := by omega
      have hm1' : (0 : Int) ≤ (m : Int) + 1 := by omega
      have hc5 : (m : Int) + 1 ≤ (cm : Int) := by omega
      have hc6 : (m : Int) < (m : Int) + 1 := by omega
      clear hr hk hmc hmd hmc0 hmc1
      go_enter Try.func19, Try.ntmps19
      go_upto_region 4 with (go_at_call 30; refine (rFind_calls w0 _ p _ xs n HH.out _ HIX).mono ?_; rintro e w1 ⟨rfl, hc1⟩; have c4 := hc1.cell c4 nob; have hp1 := hc1.cell HP.out nob)
      have H1 := hid (HH.out.keep hc1.drew)
      have hmk1 := hid (hk'.out (hmk.out.keep hc1.drew (fun k e => e.elim)))
      refine wp_region_ord 18 (.rd 0 (.rd 1 (.rd 2 (.rd 3 (.rd 4 (.rd 5 (.rd 6 (.rd 7 (.rd 8 (.rd 9 (.rd 10 (.rd 11 (.rd 12 (.rd 13 (.rd 14 (.rd 15 (.rd 16 (.rd 17 (.one 18 (.done)))))))))))))))))))) (Same w1) (by kernel_rfl) (by kernel_rfl) (by kernel_rfl) (by kernel_rfl) (by kernel_rfl) (fun _ _ d _ _ h => by cases d <;> exact h) (Same.of (Chg.refl _ _).drew) (fun hS0 => ?_)
      refine wpOrd_rd rfl rfl (by first | decide | simp) (by assumption) (fun w' hw' K hK => by ((try unfold Same at hw'); (try go_split_ands); go_simp; exact hK)) ?_
      refine wpOrd_rd rfl rfl (by first | decide | simp) (by assumption) (fun w' hw' K hK => by ((try unfold Same at hw'); (try go_split_ands); go_simp; exact hK)) ?_
      refine wpOrd_rd rfl rfl (by first | decide | simp) (by assumption) (fun w' hw' K hK => by ((try unfold Same at hw'); (try go_split_ands); go_simp; exact hK)) ?_
      refine wpOrd_rd rfl rfl (by first | decide | simp) (by assumption) (fun w' hw' K hK => by ((try unfold Same at hw'); (try go_split_ands); go_simp; exact hK)) ?_
      refine wpOrd_rd rfl rfl (by first | decide | simp) (by assumption) (fun w' hw' K hK => by ((try unfold Same at hw'); (try go_split_ands); go_simp; exact hK)) ?_
      refine wpOrd_rd rfl rfl (by first | decide | simp) (by assumption) (fun w' hw' K hK => by ((try unfold Same at hw'); (try go_split_ands); go_simp; exact hK)) ?_
      refine wpOrd_rd rfl rfl (by first | decide | simp) (by assumption) (fun w' hw' K hK => by ((try unfold Same at hw'); (try go_split_ands); go_simp; exact hK)) ?_
      refine wpOrd_rd rfl rfl (by first | decide | simp) (by assumption) (fun w' hw' K hK => by ((try unfold Same at hw'); (try go_split_ands); go_simp; exact hK)) ?_
      refine wpOrd_rd rfl rfl (by first | decide | simp) (by assumption) (fun w' hw' K hK => by ((try unfold Same at hw'); (try go_split_ands); go_simp; exact hK)) ?_
      refine wpOrd_rd rfl rfl (by first | decide | simp) (by assumption) (fun w' hw' K hK => by ((try unfold Same at hw'); (try go_split_ands); go_simp; exact hK)) ?_
      refine wpOrd_rd rfl rfl (by first | decide | simp) (by assumption) (fun w' hw' K hK => by ((try unfold Same at hw'); (try go_split_ands); go_simp; exact hK)) ?_
      refine wpOrd_rd rfl rfl (by first | decide | simp) (by assumption) (fun w' hw' K hK => by ((try unfold Same at hw'); (try go_split_ands); go_simp; exact hK)) ?_
      refine wpOrd_rd rfl rfl (by first | decide | simp) (by assumption) (fun w' hw' K hK => by ((try unfold Same at hw'); (try go_split_ands); go_simp; exact hK)) ?_
      refine wpOrd_rd rfl rfl (by first | decide | simp) (by assumption) (fun w' hw' K hK => by ((try unfold Same at hw'); (try go_split_ands); go_simp; exact hK)) ?_
      refine wpOrd_rd rfl rfl (by first | decide | simp) (by assumption) (fun w' hw' K hK => by ((try unfold Same at hw'); (try go_split_ands); go_simp; exact hK)) ?_
      refine wpOrd_rd rfl rfl (by first | decide | simp) (by assumption) (fun w' hw' K hK => by ((try unfold Same at hw'); (try go_split_ands); go_simp; exact hK)) ?_
      refine wpOrd_rd rfl rfl (by first | decide | simp) (by assumption) (fun w' hw' K hK => by ((try unfold Same at hw'); (try go_split_ands); go_simp; exact hK)) ?_
      refine wpOrd_rd rfl rfl (by first | decide | simp) (by assumption) (fun w' hw' K hK => by ((try unfold Same at hw'); (try go_split_ands); go_simp; exact hK)) ?_
      refine wpOrd_do rfl ?_
      refine step_setT rfl rfl H1.out i 4 (s1, .slice (some ⟨mb, mo, none⟩) (m + 1) cm) HX.out (by omega) rfl rfl rfl rfl (by rw [hs1.out]; rfl) (by rw [hs1.out]) hmk1.out (by rw [hs1.out]; exact ⟨hft.out.1, hft.out.2.1, by show (s'.marks.take (m + 1)).length ≤ 4; have h9 : s'.marks.length ≤ 4 := hft.out.2.2; rw [List.length_take]; omega⟩) (by kernel_rfl) ?_; intro w2 h2
      (try dsimp only [Act.put])
      refine wpOrd_last ?_
      refine wpOrd_nil ?_
      have hx2 : (xs.set i (s1, .slice (some ⟨mb, mo, none⟩) (m + 1) cm))[i]? = some (s1, .slice (some ⟨mb, mo, none⟩) (m + 1) cm) := by rw [List.getElem?_set, if_pos rfl, if_pos hil]
      have hp2 := h2.cell
      obtain ⟨_, _, ee, _, _, _, _, _, d4⟩ := h2.cells hx2
      simp only [List.length_set] at ee
      cases ee
      obtain ⟨_, _, e9, _, _, h9⟩ := (h2.mks _ (List.mem_of_getElem? hx2)).rd
      have hs1m : s1.marks.length = m + 1 := by rw [hs1.out]; show (s'.marks.take (m + 1)).length = m + 1; rw [List.length_take]; omega
      have hmg : s1.marks[m]? = some mx := by rw [hs1.out]; show (s'.marks.take (m + 1))[m]? = some mx; rw [List.getElem?_take, if_pos (by omega), List.getElem?_eq_getElem hml, hmx.out]
      simp only [hs1m] at e9
      cases e9
      obtain ⟨_, _, e8, h8⟩ := h9 m mx hmg
      cases e8
      have y0 := h8 0 _ rfl
      have y1 := h8 1 _ rfl
      simp only [Nat.add_zero] at y0
      have H2 := hid h2
      clear h2 h8 h9 hmg hs1m hx2 hS0 c4 hp1
      go_upto_region 5 with fail
      refine wp_region_ord 27 (.rd 0 (.rd 1 (.rd 2 (.rd 3 (.rd 4 (.rd 5 (.rd 6 (.rd 7 (.rd 8 (.rd 9 (.rd 10 (.rd 11 (.rd 12 (.rd 13 (.rd 14 (.rd 15 (.rd 16 (.rd 17 (.rd 18 (.rd 19 (.rd 20 (.rd 21 (.rd 22 (.rd 23 (.rd 24 (.rd 25 (.rd 26 (.done)))))))))))))))))))))))))))) (Same w2) (by kernel_rfl) (by kernel_rfl) (by kernel_rfl) (by kernel_rfl) (by kernel_rfl) (fun _ _ d _ _ h => by cases d <;> exact h) (Same.of (Chg.refl _ _).drew) (fun hS0 => ?_)
      refine wpOrd_rd rfl rfl (by first | decide | simp) (by assumption) (fun w' hw' K hK => by ((try unfold Same at hw'); (try go_split_ands); go_simp; exact hK)) ?_
      refine wpOrd_rd rfl rfl (by first | decide | simp) (by assumption) (fun w' hw' K hK => by ((try unfold Same at hw'); (try go_split_ands); go_simp; exact hK)) ?_
      refine wpOrd_rd rfl rfl (by first | decide | simp) (by assumption) (fun w' hw' K hK => by ((try unfold Same at hw'); (try go_split_ands); go_simp; exact hK)) ?_
      refine wpOrd_rd rfl rfl (by first | decide | simp) (by assumption) (fun w' hw' K hK => by ((try unfold Same at hw'); (try go_split_ands); go_simp; exact hK)) ?_
      refine wpOrd_rd rfl rfl (by first | decide | simp) (by assumption) (fun w' hw' K hK => by ((try unfold Same at hw'); (try go_split_ands); go_simp; exact hK)) ?_
      refine wpOrd_rd rfl rfl (by first | decide | simp) (by assumption) (fun w' hw' K hK => by ((try unfold Same at hw'); (try go_split_ands); go_simp; exact hK)) ?_
      refine wpOrd_rd rfl rfl (by first | decide | simp) (by assumption) (fun w' hw' K hK => by ((try unfold Same at hw'); (try go_split_ands); go_simp; exact hK)) ?_
      refine wpOrd_rd rfl rfl (by first | decide | simp) (by assumption) (fun w' hw' K hK => by ((try unfold Same at hw'); (try go_split_ands); go_simp; exact hK)) ?_
      refine wpOrd_rd rfl rfl (by first | decide | simp) (by assumption) (fun w' hw' K hK => by ((try unfold Same at hw'); (try go_split_ands); go_simp; exact hK)) ?_
      refine wpOrd_rd rfl rfl (by first | decide | simp) (by assumption) (fun w' hw' K hK => by ((try unfold Same at hw'); (try go_split_ands); go_simp; exact hK)) ?_
      refine wpOrd_rd rfl rfl (by first | decide | simp) (by assumption) (fun w' hw' K hK => by ((try unfold Same at hw'); (try go_split_ands); go_simp; exact hK)) ?_
      refine wpOrd_rd rfl rfl (by first | decide | simp) (by assumption) (fun w' hw' K hK => by ((try unfold Same at hw'); (try go_split_ands); go_simp; exact hK)) ?_
      refine wpOrd_rd rfl rfl (by first | decide | simp) (by assumption) (fun w' hw' K hK => by ((try unfold Same at hw'); (try go_split_ands); go_simp; exact hK)) ?_
      refine wpOrd_rd rfl rfl (by first | decide | simp) (by assumption) (fun w' hw' K hK => by ((try unfold Same at hw'); (try go_split_ands); go_simp; exact hK)) ?_
      refine wpOrd_rd rfl rfl (by first | decide | simp) (by assumption) (fun w' hw' K hK => by ((try unfold Same at hw'); (try go_split_ands); go_simp; exact hK)) ?_
      refine wpOrd_rd rfl rfl (by first | decide | simp) (by assumption) (fun w' hw' K hK => by ((try unfold Same at hw'); (try go_split_ands); go_simp; exact hK)) ?_
      refine wpOrd_rd rfl rfl (by first | decide | simp) (by assumption) (fun w' hw' K hK => by ((try unfold Same at hw'); (try go_split_ands); go_simp; exact hK)) ?_
      refine wpOrd_rd rfl rfl (by first | decide | simp) (by assumption) (fun w' hw' K hK => by ((try unfold Same at hw'); (try go_split_ands); go_simp; exact hK)) ?_
      refine wpOrd_rd rfl rfl (by first | decide | simp) (by assumption) (fun w' hw' K hK => by ((try unfold Same at hw'); (try go_split_ands); go_simp; exact hK)) ?_
      refine wpOrd_rd rfl rfl (by first | decide | simp) (by assumption) (fun w' hw' K hK => by ((try unfold Same at hw'); (try go_split_ands); go_simp; exact hK)) ?_
      refine wpOrd_rd rfl rfl (by first | decide | simp) (by assumption) (fun w' hw' K hK => by ((try unfold Same at hw'); (try go_split_ands); go_simp; exact hK)) ?_
      refine wpOrd_rd rfl rfl (by first | decide | simp) (by assumption) (fun w' hw' K hK => by ((try unfold Same at hw'); (try go_split_ands); go_simp; exact hK)) ?_
      refine wpOrd_rd rfl rfl (by first | decide | simp) (by assumption) (fun w' hw' K hK => by ((try unfold Same at hw'); (try go_split_ands); go_simp; exact hK)) ?_
      refine wpOrd_rd rfl rfl (by first | decide | simp) (by assumption) (fun w' hw' K hK => by ((try unfold Same at hw'); (try go_split_ands); go_simp; exact hK)) ?_
      refine wpOrd_rd rfl rfl (by first | decide | simp) (by assumption) (fun w' hw' K hK => by ((try unfold Same at hw'); (try go_split_ands); go_simp; exact hK)) ?_
      refine wpOrd_rd rfl rfl (by first | decide | simp) (by assumption) (fun w' hw' K hK => by ((try unfold Same at hw'); (try go_split_ands); go_simp; exact hK)) ?_
      refine wpOrd_rd rfl rfl (by first | decide | simp) (by assumption) (fun w' hw' K hK => by ((try unfold Same at hw'); (try go_split_ands); go_simp; exact hK)) ?_
      refine wpOrd_nil ?_
      go_wp2_with fail
      go_ret3
      exact ⟨rfl, hid ⟨_, _, hL.out.symm, H2.out.keep (Chg.refl _ _).drew⟩⟩
end Go.Proofs.Ytmikbjlgcndmeaa
