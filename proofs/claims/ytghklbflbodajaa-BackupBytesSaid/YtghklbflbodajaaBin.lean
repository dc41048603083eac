import Derived.Test.YtghklbflbodajaaWk
namespace Go.Proofs.Ytghklbflbodajaa
open Go.RowKit Go.ChangeMaps
set_option linter.unusedVariables false
set_option linter.unusedSimpArgs false
set_option linter.unnecessarySimpa false

theorem rises_le {l : List Ent} (h : risesB l = true) {i j : Nat} (hj : j < l.length) (hij : i < j) : (l[i]'(by omega)).at_ < l[j].at_ := by
  induction j with
  | zero => omega
  | succ j ih =>
    have h1 := risesB_iff.1 h j hj
    by_cases e : i = j
    · subst e; exact h1
    · have := ih (by omega) (by omega); omega

/-- What the search knows. -/
structure Srch (l : List Ent) (p : Int) (i j : Nat) : Prop where
  ij : i ≤ j
  jn : j ≤ l.length
  lo : ∀ k (h : k < l.length), k < i → l[k].at_ < p
  hi : ∀ k (h : k < l.length), j ≤ k → p ≤ l[k].at_

theorem Srch.start (l : List Ent) (p : Int) : Srch l p 0 l.length := ⟨by omega, by omega, fun k _ h => by omega, fun k h h2 => by omega⟩
theorem Srch.up {l : List Ent} {p : Int} {i j h : Nat} (s : Srch l p i j) (hr : risesB l = true) (h1 : i ≤ h) (h2 : h < j) (hn : h < l.length) (hl : l[h].at_ < p) : Srch l p (h + 1) j :=
  ⟨by omega, s.jn, fun k hk h3 => by
    by_cases e : k = h
    · subst e; exact hl
    · have := rises_le hr hn (i := k) (by omega); omega, s.hi⟩
theorem Srch.down {l : List Ent} {p : Int} {i j h : Nat} (s : Srch l p i j) (hr : risesB l = true) (h1 : i ≤ h) (h2 : h < j) (hn : h < l.length) (hl : p ≤ l[h].at_) : Srch l p i h :=
  ⟨h1, by omega, s.lo, fun k hk h3 => by
    by_cases e : k = h
    · subst e; exact hl
    · have := rises_le hr hk (i := h) (by omega); omega⟩

theorem entAt_of {l : List Ent} {p : Int} (hr : risesB l = true) {i : Nat} (hi : i < l.length) (he : l[i].at_ = p) : entAt l p = some l[i].r := by
  refine entAt_found (k := i) hi ?_ rfl he
  rw [List.find?_eq_none]
  intro x hx
  obtain ⟨k, hk, rfl⟩ := List.getElem_of_mem hx
  simp at hk
  rw [List.getElem_take]
  have := rises_le hr hi (i := k) (by omega)
  simp
  omega
theorem Srch.none {l : List Ent} {p : Int} {i : Nat} (s : Srch l p i i) (h : ∀ hi : i < l.length, l[i].at_ ≠ p) (hr : risesB l = true) : entAt l p = none := by
  unfold entAt
  rw [Option.map_eq_none_iff, List.find?_eq_none]
  intro x hx
  obtain ⟨k, hk, rfl⟩ := List.getElem_of_mem hx
  rcases Nat.lt_trichotomy k i with h1 | h1 | h1
  · have := s.lo k hk h1; simp; omega
  · subst h1; simpa using h hk
  · have h2 := rises_le hr hk h1
    have h3 := s.hi i (by omega) (Nat.le_refl _)
    simp; omega

theorem cmpI_ne {a b : Int} (h : ¬ a = b) : (cmpI a b == 0) = false := by
  unfold cmpI
  split
  · rfl
  · split
    · rfl
    · omega

set_option maxRecDepth 100000 in
set_option maxHeartbeats 8000000 in
theorem bin_calls (v : Value) (l : List Ent) (p : Int) (w : World) (hv : Ents w v l) (hr : risesB l = true) (hl : l.length ≤ 1000000) :
    Calls Try.prog 82 #[v, .int .i64 p, .func (.func 83) #[] #[]] w fun e w' =>
      ((entAt l p = none ∧ ∃ i, e = .returned (.tuple #[.int .i64 i, .bool false])) ∨ (∃ (i : Nat) (h : i < l.length), l[i].at_ = p ∧ entAt l p = some l[i].r ∧ e = .returned (.tuple #[.int .i64 i, .bool true]))) ∧ Chg NoB w w' := by
  obtain ⟨a, c, rfl, h1, h2, h3⟩ := hv
  have H3 := hid h3
  clear h3
  have HR := hid hr
  clear hr h2
  go_enter Try.func82, Try.ntmps82
  go_wp2
  go_loopw [9, 10] (fun i j wr => ∃ (m n : Nat), i = .int .i64 m ∧ j = .int .i64 n ∧ m ≤ n ∧ n ≤ l.length ∧ Hid (Srch l p m n) ∧ Hid (Chg NoB w wr)) (fun i j _ => (intOf j).toNat - (intOf i).toNat)
  case atStart => exact ⟨0, l.length, rfl, rfl, by omega, by omega, Srch.start l p, Chg.refl _ _⟩
  case round =>
    obtain ⟨m, n, rfl, rfl, hmn, hn, HS, hc⟩ := hrel
    by_cases hlt : m < n
    · obtain ⟨x, b, off, v1, v2, hx, rfl, ht, _, g0, g1, g2, g3, g4, g5, g6, g7, g8, g9, g10, g11⟩ := Ents.cells H3.out hc.out ((m + n) / 2) (by omega)
      obtain ⟨r, hr⟩ := named (cmpI x.at_ p)
      by_cases hlo : x.at_ < p
      · have hr0 : r < 0 := by rw [hr.out]; simp [cmpI, hlo]
        have HS2 := hid (HS.out.up HR.out (h := (m + n) / 2) (by omega) (by omega) (by omega) (by rw [hx.out]; exact hlo))
        go_wp2_with (go_at_call 83; refine (at1_calls x v1 v2 p _ r hr).mono ?_; rintro e w' ⟨rfl, hc'⟩)
        go_roundw
        case rel => exact ⟨(m + n) / 2 + 1, n, by go_num, rfl, by omega, hn, HS2, hc.out.trans' hc'⟩
        case measure => simp [intOf]; omega
      · have hr0 : 0 ≤ r := by rw [hr.out]; unfold cmpI; rw [if_neg hlo]; split <;> omega
        have HS2 := hid (HS.out.down HR.out (h := (m + n) / 2) (by omega) (by omega) (by omega) (by rw [hx.out]; omega))
        go_wp2_with (go_at_call 83; refine (at1_calls x v1 v2 p _ r hr).mono ?_; rintro e w' ⟨rfl, hc'⟩)
        go_roundw
        case rel => exact ⟨m, (m + n) / 2, rfl, by go_num, by omega, by omega, HS2, hc.out.trans' hc'⟩
        case measure => simp [intOf]; omega
    · obtain rfl : m = n := by omega
      by_cases hml : m < l.length
      · obtain ⟨x, b, off, v1, v2, hx, rfl, ht, _, g0, g1, g2, g3, g4, g5, g6, g7, g8, g9, g10, g11⟩ := Ents.cells H3.out hc.out m hml
        obtain ⟨r, hr⟩ := named (cmpI x.at_ p)
        by_cases hp : x.at_ = p
        · have hr0 : r = 0 := by rw [hr.out]; simp [cmpI, hp]
          have HF := hid (entAt_of (p := p) HR.out hml (by rw [hx.out]; exact hp))
          have HP := hid hp
          clear hp
          subst hr0
          go_wp2_with (go_at_call 83; refine (at1_calls x v1 v2 p _ 0 hr).mono ?_; rintro e w' ⟨rfl, hc'⟩)
          go_ret2
          exact ⟨.inr ⟨m, hml, by rw [hx.out]; exact HP.out, HF.out, rfl⟩, hc.out.trans' hc'⟩
        · have hr0 : (r == 0) = false := by rw [hr.out]; exact cmpI_ne hp
          have HF := hid (HS.out.none (fun hi => by rw [hx.out]; exact hp) HR.out)
          have HP := hid hp
          clear hp
          go_wp2_with (go_at_call 83; refine (at1_calls x v1 v2 p _ r hr).mono ?_; rintro e w' ⟨rfl, hc'⟩)
          go_ret2
          exact ⟨.inl ⟨HF.out, _, rfl⟩, hc.out.trans' hc'⟩
      · have HF := hid (HS.out.none (fun hi => absurd hi hml) HR.out)
        go_wp2
        go_ret2
        exact ⟨.inl ⟨HF.out, _, rfl⟩, hc.out⟩
end Go.Proofs.Ytghklbflbodajaa
