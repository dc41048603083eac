import Derived.Test.YtmikbjlgcndmeaaTb3
namespace Go.Proofs.Ytmikbjlgcndmeaa
open Go.RowKit Go.ChangeMaps Go.MapKept
set_option linter.unusedVariables false
set_option linter.unusedSimpArgs false
set_option linter.unnecessarySimpa false

theorem ownsRow_take {w : World} {B : Nat} {e : TypeId} {size g n c : Nat} {xs : List Value} (h : w.ownsRow B e size (.slice (some ⟨g, 0, none⟩) n c) n xs) (k : Nat) (hk : k ≤ n) : w.ownsRow B e size (.slice (some ⟨g, 0, none⟩) k c) k (xs.take (k * size)) := by
  obtain ⟨h1, h2⟩ := h
  have hks : k * size ≤ n * size := Nat.mul_le_mul_right _ hk
  refine ⟨by rw [List.length_take, h1]; omega, ?_⟩
  rcases h2 with ⟨e1, _⟩ | ⟨g', cap, cur, e1, e2, e3, e4, e5, e6, e7⟩
  · cases e1
  · cases e1
    refine .inr ⟨g, c, cur, rfl, e2, e3, by omega, e5, e6, ?_⟩
    rw [← e7, List.take_take, Nat.min_eq_left hks]

theorem take_flat {l : List (Int × Int)} (k : Nat) : (l.flatMap encMk).take (k * 2) = (l.take k).flatMap encMk := by
  induction l generalizing k with
  | nil => simp
  | cons x l ih =>
    cases k with
    | zero => simp
    | succ k =>
      have : (k + 1) * 2 = k * 2 + 2 := by omega
      rw [this]
      simp only [List.flatMap_cons, List.take_succ_cons]
      rw [← ih k]
      simp [encMk]

set_option maxRecDepth 100000 in
theorem tabBack (p r : Nat) (E : List TxE) (n k : Int) (w : World) (h : TabAt w p r E) (ra rl er : Int) (T : TTab) (hres : Hid ((ra, rl, er, T) = tBack (E.map (·.s)) n k)) :
    Calls Try.prog 14 #[.pointer (some ⟨p, 0, none⟩), .int .i64 n, .int .i64 k] w fun e w' => e = .returned (.tuple #[.int .i64 ra, .int .i64 rl, .int .i64 er]) ∧ TabPost w w' p r E T := by
  have HH := hid h
  have hr := hres.out
  unfold tBack at hr
  rcases h.find n with ⟨h1, h2, h3⟩ | ⟨i, e, hi, he, h1, h3⟩
  · rw [h3] at hr
    cases hr
    have H1 := hid h1
    clear h h1 h2 h3 hres
    go_enter Try.func14, Try.ntmps14
    go_wp2_with (go_at_call 29; refine (tabFind_none p r E n w HH.out H1).mono ?_; rintro e w' ⟨rfl, rfl⟩)
    go_ret3
    exact ⟨rfl, TabPost.same HH.out⟩
  · rw [h3] at hr
    dsimp only at hr
    have hm := List.mem_of_getElem? hi
    have HB := hid (h.blk e hm)
    obtain ⟨c0, c1, c2, c3, c4, cf⟩ := TxE.cells HB.out.1
    have cf4 := cf 4
    have H1 := hid h1
    have HI := hid hi
    have HE := hid he
    have hfit := h.fit e hm
    have hown := hid (h.own e hm)
    obtain ⟨hf1, hf2, hf3, hf4, hf5⟩ := hfit
    obtain ⟨am, cm, hmv⟩ := ownsForm' HB.out.2
    rw [hmv] at c4
    clear h h1 h3 cf hm hi he c0 c1 c2 c3 hres
    by_cases hk : k < 0 ∨ (e.s.marks.length : Int) ≤ k
    · rw [if_pos hk] at hr
      cases hr
      go_enter Try.func14, Try.ntmps14
      go_wp2_with (go_at_call 29; refine (tabFind_some p r E n w HH.out e.b H1).mono ?_; rintro e w' ⟨rfl, rfl⟩)
      all_goals first
        | (go_ret3; exact ⟨rfl, TabPost.same HH.out⟩)
        | (exfalso; omega)
    · rw [if_neg hk] at hr
      cases hr
      obtain ⟨q, rfl⟩ : ∃ q : Nat, k = (q : Int) := ⟨k.toNat, by omega⟩
      have hq : q < e.s.marks.length := by omega
      have hk1 : ¬ (q : Int) < 0 := by omega
      have hk2 : ¬ (e.s.marks.length : Int) ≤ (q : Int) := by omega
      simp only [Int.toNat_natCast]
      have hown2 : w.ownsRow 0 70 2 (.slice am e.s.marks.length cm) e.s.marks.length (e.s.marks.flatMap encMk) := by rw [← hmv]; exact HB.out.2
      obtain ⟨_, _, ee, hcm, hml, hrd⟩ := Rd.of_own (enc := encMk) (fun x => rfl) hown2
      cases ee
      obtain ⟨g, off, rfl, hcs⟩ := Rd.cells hrd (Chg.refl _ _) q hq
      obtain rfl : off = 0 := by
        rcases hown2.2 with ⟨e1, _⟩ | ⟨g', cap, cur, e1, _⟩ <;> cases e1 <;> rfl
      obtain ⟨mk, hmk⟩ := named e.s.marks[q]
      rw [← hmk.out] at hcs
      have m0 : w.cell? ⟨g, q * 2, none⟩ = some (.int .i64 mk.1) := by have := hcs 0 _ rfl; simpa using this
      have m1 : w.cell? ⟨g, q * 2 + 1, none⟩ = some (.int .i64 mk.2) := by have := hcs 1 _ rfl; simpa using this
      have hgb : e.b ≠ g := fun x => hown.out.1 (by unfold OwnB; rw [hmv, x]; rfl)
      have hgetD : e.s.marks.getD q (0, 0) = mk := by rw [hmk.out]; simp [hq]
      rw [hgetD]
      have hcap : cm ≤ 9223372036854775807 := by
        rcases hown2.2 with ⟨e1, _⟩ | ⟨g', cap, cur, e1, _, _, _, h5, _⟩
        · cases e1
        · cases e1; unfold maxLen at h5; omega
      have hq2 : (q : Int) + 1 ≤ (cm : Int) := by omega
      have hw1 : IntKind.i64.wrap (q : Int) = (q : Int) := by rw [IntKind.wrap_i64]; omega
      have hlt : e.b < w.heap.size := lt_of_block HB.out.1
      have m40 : (w.setCell ⟨e.b, 4, none⟩ (.slice (some ⟨g, 0, none⟩) (q + 1) cm)).cell? ⟨e.b, 4, none⟩ = some (.slice (some ⟨g, 0, none⟩) (q + 1) cm) := by
        rw [cell_blk (blk_setCell HB.out.1 4 _)]; simp [TxE.cs]
      clear hcs hrd hml hgetD hk
      go_enter Try.func14, Try.ntmps14
      go_wp2_with (go_at_call 29; refine (tabFind_some p r E n w HH.out e.b H1).mono ?_; rintro e w' ⟨rfl, rfl⟩)
      have hc1 : Chg (OneB e.b) w (w.setCell ⟨e.b, 4, none⟩ (.slice (some ⟨g, 0, none⟩) (q + 1) cm)) := (Chg.refl (OneB e.b) w).setCell (p := ⟨e.b, 4, none⟩) (.inl (OneB.self _)) _
      have m0' := hc1.cell m0 (fun x => hgb x.symm)
      have m1' := hc1.cell m1 (fun x => hgb x.symm)
      go_quiet (fail)
      go_wp2
      go_ret3
      refine ⟨rfl, ?_⟩
      rw [← HE.out]
      refine TabPost.set HH.out HI.out (e' := ⟨{ e.s with marks := e.s.marks.take (q + 1) }, e.b, .slice (some ⟨g, 0, none⟩) (q + 1) cm⟩) rfl rfl (((Chg.refl e.fp w).setCell (.inl (.inl rfl)) _).drewN _) ?_ ?_ (fun i hi => .inl (by unfold OwnB; rw [hmv]; exact hi)) ?_
      · have := blk_setCell HB.out.1 4 (.slice (some ⟨g, 0, none⟩) (q + 1) cm)
        exact this
      · have h5 := ownsRow.chg (ownsRow_take hown2 (q + 1) (by omega)) (hc1.drewN nq) (fun i hi x => hown.out.1 (by unfold OwnB; rw [hmv]; rw [show i = e.b from x] at hi; exact hi))
        rw [take_flat] at h5
        have hl : (e.s.marks.take (q + 1)).length = q + 1 := by rw [List.length_take]; omega
        rw [hl]
        exact h5
      · exact ⟨hf3, hf4, by rw [List.length_take]; omega⟩
end Go.Proofs.Ytmikbjlgcndmeaa
