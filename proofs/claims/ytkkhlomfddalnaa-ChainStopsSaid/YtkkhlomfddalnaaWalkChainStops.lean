import Derived.Test.YtkkhlomfddalnaaWalkChainWalks
namespace Go.Proofs.Ytkkhlomfddalnaa
open Go.RowKit Go.ChangeMaps
set_option linter.unusedVariables false

theorem Recs.take {w : World} {a : Option Addr} {n c : Nat} {l : List Rec} (h : Recs w (.slice a n c) l) (k : Nat) (hk : k ≤ l.length) : Recs w (.slice a k c) (l.take k) := by
  obtain ⟨a', c', h1, h2, h3, h4⟩ := h
  cases h1
  have hlen : (l.take k).length = k := by simp; omega
  refine ⟨a, c, by rw [hlen], by omega, by omega, fun i x hi => ?_⟩
  refine h4 i x ?_
  have hik : i < k := by have := (List.getElem?_eq_some_iff.1 hi).1; omega
  rw [List.getElem?_take_of_lt hik] at hi
  exact hi

theorem Recs.drop {w : World} {b off n c : Nat} {l : List Rec} (h : Recs w (.slice (some ⟨b, off, none⟩) n c) l) (k : Nat) (hk : k ≤ l.length) : Recs w (.slice (some ⟨b, off + k * 11, none⟩) (n - k) (c - k)) (l.drop k) := by
  obtain ⟨a', c', h1, h2, h3, h4⟩ := h
  cases h1
  have hlen : (l.drop k).length = l.length - k := by simp
  refine ⟨_, _, by rw [hlen], by omega, by omega, fun i x hi => ?_⟩
  rw [List.getElem?_drop] at hi
  obtain ⟨cs, b', o', h5, h6, h7, h8⟩ := h4 _ x hi
  cases h7
  refine ⟨cs, b, _, h5, h6, rfl, fun j u hu => ?_⟩
  have := h8 j u hu
  have e : off + (k + i) * 11 + j = off + k * 11 + i * 11 + j := by omega
  rw [e] at this
  exact this

set_option maxRecDepth 100000 in
set_option maxHeartbeats 8000000 in
theorem chainStops_walk (w : World) (v : Value) (l : List Ent) (hv : Ents w v l) (txn : Int) (_h1 : (Lit.int .i64 txn).wf = true) (last : Int) (_h2 : (Lit.int .i64 last).wf = true) (stop : Int) (_h3 : (Lit.int .i64 stop).wf = true) :
    Calls Try.prog 5 #[v, .int .i64 txn, .int .i64 last, .int .i64 stop] w fun e w' => e = .returned (.bool true) ∧ Chg NoB w w' := by
  obtain ⟨f, hf⟩ := named (entsFew l)
  have HV := hid hv
  have hform : ∃ a n c, v = .slice a n c := by obtain ⟨a, c, rfl, _⟩ := hv; exact ⟨_, _, _, rfl⟩
  obtain ⟨a, n, c, rfl⟩ := hform
  clear hv _h1 _h2 _h3
  cases f
  · go_enter Try.func5, Try.ntmps5
    go_wp2_with (first
      | (go_at_call 8; refine (awake w).mono ?_; rintro e w1 ⟨rfl, c1⟩)
      | (go_at_call 9; refine (entsFew_calls _ l _ (HV.out.mono c1) _ hf).mono ?_; rintro e w2 ⟨rfl, c2⟩))
    refine (awake w2).mono ?_
    rintro e w3 ⟨rfl, c3⟩
    go_wp2
    go_ret
    exact ⟨rfl, c1.trans' (c2.trans' c3)⟩
  · have hl := few_len hf.out
    go_enter Try.func5, Try.ntmps5
    go_wp2_with (first
      | (go_at_call 8; refine (awake w).mono ?_; rintro e w1 ⟨rfl, c1⟩)
      | (go_at_call 9; refine (entsFew_calls _ l _ (HV.out.mono c1) _ hf).mono ?_; rintro e w2 ⟨rfl, c2⟩))
    have C2 := c1.trans' c2
    clear c1 c2
    obtain ⟨⟨us, eu⟩, hu⟩ := named (undoOf l txn last 0)
    obtain ⟨⟨ss, es⟩, hs⟩ := named (undoOf l txn last stop)
    have hut := hid (undoOf_tabs (l := l) (txn := txn) (last := last) (stop := 0))
    have hst := hid (undoOf_tabs (l := l) (txn := txn) (last := last) (stop := stop))
    rw [← hu.out] at hut
    rw [← hs.out] at hst
    refine (undo_calls _ l txn last 0 _ (HV.out.mono C2) hl).mono ?_
    rintro e w3 ⟨v3, rfl, ho3, c3⟩
    rw [← hu.out] at ho3 ⊢
    have C3 := C2.trans' c3
    have R3 := hid (Recs.of_own ho3 hut.out)
    obtain ⟨a3, k3, rfl⟩ := ownsForm ho3
    clear c3 C2
    go_wp2_with fail
    refine (undo_calls _ l txn last stop _ (HV.out.mono C3) hl).mono ?_
    rintro e w4 ⟨v4, rfl, ho4, c4⟩
    rw [← hs.out] at ho4 ⊢
    have C4 := C3.trans' c4
    replace R3 := hid (R3.out.mono c4)
    have R4 := hid (Recs.of_own ho4 hst.out)
    obtain ⟨a4, k4, rfl⟩ := ownsForm ho4
    have hE : Ents w4 (.slice a n c) l := HV.out.mono C4
    clear c4 C3
    have q3 : us.length ≤ k3 ∧ us.length ≤ maxLen := by obtain ⟨_, _, h1, h2, h3, _⟩ := R3.out; cases h1; exact ⟨h2, h3⟩
    have q4 : ss.length ≤ k4 ∧ ss.length ≤ maxLen := by obtain ⟨_, _, h1, h2, h3, _⟩ := R4.out; cases h1; exact ⟨h2, h3⟩
    unfold maxLen at q3 q4
    obtain ⟨q31, q32⟩ := q3
    obtain ⟨q41, q42⟩ := q4
    cases e1 : (eu != 0)
    · cases e2 : (decide (stop < 0))
      · simp at e2
        obtain rfl : eu = 0 := by simpa using e1
        obtain ⟨some_, p1, p2, p3, p4⟩ := stops_plain e2 hu.out.symm
        rw [← hs.out] at p1
        cases p1
        have P3 := hid p3
        have P4 := hid p4
        clear p3 p4
        have p5 : ¬ (us.length : Int) < (ss.length : Int) := by omega
        have RT := R3.out.take ss.length p2
        rw [← P3.out] at RT
        rcases List.eq_nil_or_concat ss with hn | ⟨s', r, hr⟩
        · subst hn
          go_wp2_with fail
          refine (ref11Same _ _ [] [] _ R4.out RT true (hid (by simp))).mono ?_
          rintro e w5 ⟨rfl, c5⟩
          go_wp2
          go_ret
          exact ⟨rfl, C4.trans' c5⟩
        · rw [List.concat_eq_append] at hr
          have HR := hid hr
          have hpos : 0 < ss.length := by rw [hr]; simp
          clear hr
          have kk1 : ss.length - 1 < ss.length := by omega
          have kk0 : 0 < us.length := by omega
          have hz : ((ss.length : Int) == 0) = false := by rw [beq_eq_false_iff_ne]; omega
          go_wp2_with fail
          refine (ref11Same _ _ ss ss _ R4.out RT true (hid (by simp))).mono ?_
          rintro e w5 ⟨rfl, c5⟩
          have C5 := C4.trans' c5
          have hE5 := hE.mono c5
          have R3' := hid (R3.out.mono c5)
          have R4' := R4.out.mono c5
          clear c5 C4 hE R3 R4 ho3 ho4 RT
          obtain ⟨_, _, e4, _, _, hr4⟩ := R4'
          cases e4
          obtain ⟨x, b4, o4, u1, u2, hx, rfl, htx, g0, g1, g2, g3, g4, g5, g6, g7, g8, g9, g10⟩ := Recs.cells hr4 (Chg.refl _ _) (ss.length - 1) kk1
          have hxr : x = r := by
            rw [← hx.out]
            have h9 := HR.out
            simp [h9]
          subst hxr
          clear g0 g1 g2 g3 g4 g6 g7 g8 g9 g10 hr4 htx hx
          have G5 : Hid (undoOf l txn x.next 0 = (us.drop ss.length, 0)) := P4.out s' x HR.out
          obtain ⟨_, _, e3, _, _, hr3⟩ := R3'.out
          cases e3
          obtain ⟨y, b3, o3, _, _, _, rfl, _⟩ := Recs.cells hr3 (Chg.refl _ _) 0 kk0
          clear hr3
          go_wp2_with fail
          refine (undo_calls _ l txn x.next 0 _ hE5 hl).mono ?_
          rintro e w6 ⟨v6, rfl, ho6, c6⟩
          rw [G5.out] at ho6 ⊢
          have hd : ∀ r ∈ us.drop ss.length, r.txns = [] ∧ r.pages = [] := fun r hr => hut.out r (List.mem_of_mem_drop hr)
          have R6 := Recs.of_own ho6 hd
          obtain ⟨a6, k6, rfl⟩ := ownsForm ho6
          have RD := (R3'.out.mono c6).drop ss.length p2
          have C6 := C5.trans' c6
          clear ho6 hd c6 C5 hE5
          obtain ⟨ds, hds⟩ := named (us.drop ss.length)
          rw [← hds.out] at R6 RD ⊢
          have hdl : ds.length = us.length - ss.length := by rw [hds.out]; simp
          have kk2 : us.length ≤ k3 := q31
          by_cases hk3 : k3 = ss.length
          · subst hk3
            have hd0 : ds = [] := List.eq_nil_of_length_eq_zero (by omega)
            have hd1 : us.length = ss.length := by omega
            subst hd0
            have RZ : Recs w6 (.slice (some ⟨b3, o3, none⟩) 0 0) [] := ⟨some ⟨b3, o3, none⟩, 0, rfl, by simp, by simp, fun i x hi => by simp at hi⟩
            have R6' : Recs w6 (.slice a6 0 k6) [] := R6
            clear hd1 RD R6 hdl hds
            go_wp2_with fail
            refine (ref11Same _ _ [] [] _ R6' RZ true (hid (by simp))).mono ?_
            rintro e w7 ⟨rfl, c7⟩
            go_wp2
            go_ret
            exact ⟨rfl, C6.trans' c7⟩
          · have R6' : Recs w6 (.slice a6 (us.length - ss.length) k6) ds := by rw [← hdl]; exact R6
            clear R6
            go_wp2_with fail
            refine (ref11Same _ _ ds ds _ R6' RD true (hid (by simp))).mono ?_
            rintro e w7 ⟨rfl, c7⟩
            go_wp2
            go_ret
            exact ⟨rfl, C6.trans' c7⟩
      · simp at e2
        go_wp2
        go_ret
        exact ⟨rfl, C4⟩
    · go_wp2
      go_ret
      exact ⟨rfl, C4⟩
end Go.Proofs.Ytkkhlomfddalnaa
