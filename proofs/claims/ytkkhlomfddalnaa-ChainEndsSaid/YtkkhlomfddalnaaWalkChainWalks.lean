import Derived.Test.YtkkhlomfddalnaaAw11
import Derived.Test.YtkkhlomfddalnaaChainLaw
namespace Go.Proofs.Ytkkhlomfddalnaa
open Go.RowKit Go.ChangeMaps
set_option linter.unusedVariables false

theorem leftOf_eq (l : List Ent) (txn last : Int) : leftOf l txn last = ((((standOf l txn last).1.length : Nat) : Int), (standOf l txn last).2) := by
  unfold leftOf
  split
  · rename_i h; rw [h]
  · rename_i h
    have : (standOf l txn last).1 = [] := orErr_nil h
    rw [this]; rfl

theorem undoOf_tabs {l : List Ent} {txn last stop : Int} : ∀ r ∈ (undoOf l txn last stop).1, r.txns = [] ∧ r.pages = [] := by
  intro r hr
  unfold undoOf orErr at hr
  split at hr
  · split at hr
    · simp only [List.mem_map] at hr
      obtain ⟨y, _, rfl⟩ := hr
      exact ⟨rfl, rfl⟩
    · simp at hr
  · simp at hr

theorem few_len {l : List Ent} (h : true = entsFew l) : l.length ≤ 1000000 := by
  simp [entsFew] at h
  omega

set_option maxRecDepth 100000 in
set_option maxHeartbeats 8000000 in
theorem chainWalks_walk (w : World) (v : Value) (l : List Ent) (hv : Ents w v l) (txn : Int) (_h1 : (Lit.int .i64 txn).wf = true) (last : Int) (_h2 : (Lit.int .i64 last).wf = true) (stop : Int) (_h3 : (Lit.int .i64 stop).wf = true) :
    Calls Try.prog 3 #[v, .int .i64 txn, .int .i64 last, .int .i64 stop] w fun e w' => e = .returned (.bool true) ∧ Chg NoB w w' := by
  obtain ⟨f, hf⟩ := named (entsFew l)
  have HV := hid hv
  have hform : ∃ a n c, v = .slice a n c := by obtain ⟨a, c, rfl, _⟩ := hv; exact ⟨_, _, _, rfl⟩
  obtain ⟨a, n, c, rfl⟩ := hform
  clear hv _h1 _h2 _h3
  cases f
  · go_enter Try.func3, Try.ntmps3
    go_wp2_with (first
      | (go_at_call 8; refine (awake w).mono ?_; rintro e w1 ⟨rfl, c1⟩)
      | (go_at_call 9; refine (entsFew_calls _ l _ (HV.out.mono c1) _ hf).mono ?_; rintro e w2 ⟨rfl, c2⟩))
    refine (awake w2).mono ?_
    rintro e w3 ⟨rfl, c3⟩
    go_wp2
    go_ret
    exact ⟨rfl, c1.trans' (c2.trans' c3)⟩
  · have hl := few_len hf.out
    go_enter Try.func3, Try.ntmps3
    go_wp2_with (first
      | (go_at_call 8; refine (awake w).mono ?_; rintro e w1 ⟨rfl, c1⟩)
      | (go_at_call 9; refine (entsFew_calls _ l _ (HV.out.mono c1) _ hf).mono ?_; rintro e w2 ⟨rfl, c2⟩))
    have C2 := c1.trans' c2
    clear c1 c2
    obtain ⟨⟨xs, ex⟩, hx⟩ := named (chainOf l txn last)
    obtain ⟨⟨ms, em⟩, hm⟩ := named (standOf l txn last)
    obtain ⟨⟨us, eu⟩, hu⟩ := named (undoOf l txn last stop)
    refine (chain_calls _ l txn last _ (HV.out.mono C2) hl).mono ?_
    rintro e w3 ⟨v3, rfl, ho3, c3⟩
    rw [← hx.out] at ho3 ⊢
    have C3 := C2.trans' c3
    have r3 := Rd.ints_of ho3
    clear ho3 c3 C2
    obtain ⟨a3, k3, rfl, q3, q3', R3⟩ := r3
    replace R3 : Hid (Rd w3 1 encI (.slice a3 xs.length k3) xs) := ⟨_, _, rfl, q3, q3', R3⟩
    go_wp2_with fail
    refine (ref11Chain _ l txn last _ (HV.out.mono C3) hl).mono ?_
    rintro e w4 ⟨v4, rfl, ho4, c4⟩
    rw [← hx.out] at ho4 ⊢
    have C4 := C3.trans' c4
    have r4 := Rd.ints_of ho4
    replace R3 := hid (R3.out.mono c4)
    clear ho4 c4 C3
    obtain ⟨a4, k4, rfl, q4, q4', R4⟩ := r4
    replace R4 : Hid (Rd w4 1 encI (.slice a4 xs.length k4) xs) := ⟨_, _, rfl, q4, q4', R4⟩
    go_wp2_with fail
    refine (left_calls _ l txn last _ (HV.out.mono C4) hl).mono ?_
    rintro e w5 ⟨rfl, c5⟩
    rw [leftOf_eq, ← hm.out]
    have C5 := C4.trans' c5
    replace R3 := hid (R3.out.mono c5)
    replace R4 := hid (R4.out.mono c5)
    clear c5 C4
    go_wp2_with fail
    refine (ref11Stand _ l txn last _ (HV.out.mono C5) hl).mono ?_
    rintro e w6 ⟨v6, rfl, ho6, c6⟩
    rw [← hm.out] at ho6 ⊢
    have C6 := C5.trans' c6
    replace R3 := hid (R3.out.mono c6)
    replace R4 := hid (R4.out.mono c6)
    obtain ⟨a6, k6, rfl⟩ := ownsForm ho6
    clear c6 C5 ho6
    go_wp2_with fail
    refine (undo_calls _ l txn last stop _ (HV.out.mono C6) hl).mono ?_
    rintro e w7 ⟨v7, rfl, ho7, c7⟩
    rw [← hu.out] at ho7 ⊢
    have ht : ∀ r ∈ us, r.txns = [] ∧ r.pages = [] := by have := undoOf_tabs (l := l) (txn := txn) (last := last) (stop := stop); rw [← hu.out] at this; exact this
    have C7 := C6.trans' c7
    replace R3 := hid (R3.out.mono c7)
    replace R4 := hid (R4.out.mono c7)
    have R7 := hid (Recs.of_own ho7 ht)
    obtain ⟨a7, k7, rfl⟩ := ownsForm ho7
    clear c7 C6 ho7
    go_wp2_with fail
    refine (ref11Undo _ l txn last stop _ (HV.out.mono C7) hl).mono ?_
    rintro e w8 ⟨v8, rfl, ho8, c8⟩
    rw [← hu.out] at ho8 ⊢
    have C8 := C7.trans' c8
    replace R3 := hid (R3.out.mono c8)
    replace R4 := hid (R4.out.mono c8)
    replace R7 := hid (R7.out.mono c8)
    have R8 := hid (Recs.of_own ho8 ht)
    obtain ⟨a8, k8, rfl⟩ := ownsForm ho8
    clear c8 C7 ho8 ht
    go_wp2_with fail
    refine (refSame _ _ xs xs _ R3.out R4.out true (hid (by simp))).mono ?_
    rintro e w9 ⟨rfl, n9, rfl⟩
    go_wp2_with fail
    refine (ref11Same _ _ us us _ (R7.out.mono ((Chg.refl NoB _).drewN n9)) (R8.out.mono ((Chg.refl NoB _).drewN n9)) true (hid (by simp))).mono ?_
    rintro e w10 ⟨rfl, c10⟩
    go_wp2
    go_ret
    exact ⟨rfl, (C8.drewN n9).trans' c10⟩
end Go.Proofs.Ytkkhlomfddalnaa
