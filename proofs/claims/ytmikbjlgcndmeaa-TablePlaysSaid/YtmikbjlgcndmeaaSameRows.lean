import Derived.Test.YtmikbjlgcndmeaaTb6
namespace Go.Proofs.Ytmikbjlgcndmeaa
open Go.RowKit Go.ChangeMaps
set_option linter.unusedVariables false
set_option linter.unusedSimpArgs false
set_option linter.unnecessarySimpa false

abbrev Row3 := Int × Int × Int
theorem rows_len {a b : List Row3} (h : ¬ a.length = b.length) : decide (a = b) = false := by
  rw [decide_eq_false_iff_not]; intro e; exact h (by rw [e])
theorem rows_at {a b : List Row3} {k : Nat} (ha : k < a.length) (hb : k < b.length) (h : ¬ a[k] = b[k]) : decide (a = b) = false := by
  rw [decide_eq_false_iff_not]; intro e; subst e; exact h rfl
theorem rows_all {a b : List Row3} (hl : a.length = b.length) (h : ∀ j (ha : j < a.length) (hb : j < b.length), a[j] = b[j]) : decide (a = b) = true := by
  rw [decide_eq_true_iff]
  exact List.ext_getElem hl fun i h1 h2 => h i h1 h2

theorem row_at {w wr : World} {a : Option Addr} {l : List Row3} (h : ∀ i x, l[i]? = some x → ∃ b off, a = some ⟨b, off, none⟩ ∧ ∀ j u, (encRow x)[j]? = some u → w.cell? ⟨b, off + i * 3 + j, none⟩ = some u) (hc : Chg NoB w wr) (k : Nat) (hk : k < l.length) :
    ∃ x y z b off, Hid (l[k] = (x, y, z)) ∧ a = some ⟨b, off, none⟩ ∧ wr.cell? ⟨b, off + k * 3, none⟩ = some (.int .i64 x) ∧ wr.cell? ⟨b, off + k * 3 + 1, none⟩ = some (.int .i64 y) ∧ wr.cell? ⟨b, off + k * 3 + 2, none⟩ = some (.int .i64 z) := by
  obtain ⟨b, off, ha, h2⟩ := Rd.cells h hc k hk
  exact ⟨_, _, _, b, off, rfl, ha, h2 0 _ rfl, h2 1 _ rfl, h2 2 _ rfl⟩

set_option maxRecDepth 100000 in
set_option maxHeartbeats 8000000 in
theorem sameRows (va vb : Value) (a b : List Row3) (w : World) (ha : Rd w 3 encRow va a) (hb : Rd w 3 encRow vb b) (r : Bool) (hr : Hid (r = decide (a = b))) :
    Calls Try.prog 24 #[va, vb] w fun e w' => e = .returned (.bool r) ∧ ∃ n, w' = w.drewN n := by
  obtain ⟨aa, ca, rfl, ha1, ha2, ha3⟩ := ha
  obtain ⟨ab, cb, rfl, hb1, hb2, hb3⟩ := hb
  unfold maxLen at ha2 hb2
  by_cases hl : a.length = b.length
  · rw [← hl] at hb1 hb2 ⊢
    have HL := hid hl
    clear hl
    have HA := hid ha3
    have HB := hid hb3
    clear ha3 hb3
    go_enter Try.func24, Try.ntmps24
    go_wp2
    go_loopw [5] (fun i wr => ∃ k : Nat, k ≤ a.length ∧ i = .int .i64 k ∧ Hid (∀ j (h1 : j < k) (h2 : j < a.length) (h3 : j < b.length), a[j] = b[j]) ∧ ∃ n, wr = w.drewN n) (fun i _ => a.length - toN i)
    case atStart => exact ⟨0, by omega, rfl, hid (fun j h => by omega), 0, rfl⟩
    case round =>
      obtain ⟨k, hk, rfl, HE, n, rfl⟩ := hrel
      by_cases hlt : k < a.length
      · have hlb : k < b.length := by rw [← HL.out]; exact hlt
        obtain ⟨x1, y1, t1, ba, oa, hx, rfl, f1, f2, f3⟩ := row_at HA.out (Chg.refl NoB w) k hlt
        obtain ⟨x2, y2, t2, bb, ob, hy, rfl, g1, g2, g3⟩ := row_at HB.out (Chg.refl NoB w) k hlb
        by_cases he : x1 = x2 ∧ y1 = y2 ∧ t1 = t2
        · obtain ⟨rfl, rfl, rfl⟩ := he
          go_wp2
          go_quiet (fail)
          go_wp2
          go_roundw
          case rel =>
            refine ⟨k + 1, by omega, by go_num, hid (fun j h1 h2 h3 => ?_), _, rfl⟩
            by_cases hjk : j < k
            · exact HE.out j hjk h2 h3
            · obtain rfl : j = k := by omega
              rw [hx.out, hy.out]
          case measure => simp [toN]; omega
        · have hne : decide (a = b) = false := rows_at hlt hlb (by rw [hx.out, hy.out]; simpa using he)
          have HF := hid (hr.out.trans hne)
          clear hne
          by_cases e1 : x1 = x2
          · by_cases e2 : y1 = y2
            · have e3 : ¬ t1 = t2 := fun e3 => he ⟨e1, e2, e3⟩
              clear he
              go_wp2
              go_quiet (fail)
              go_wp2
              go_ret
              exact ⟨ret_bool HF.out.symm, _, World.drewN_drewN _ _ _⟩
            · clear he
              go_wp2
              go_quiet (fail)
              go_wp2
              go_ret
              exact ⟨ret_bool HF.out.symm, _, World.drewN_drewN _ _ _⟩
          · clear he
            go_wp2
            go_quiet (fail)
            go_wp2
            go_ret
            exact ⟨ret_bool HF.out.symm, _, World.drewN_drewN _ _ _⟩
      · obtain rfl : k = a.length := by omega
        go_wp2
        go_ret
        exact ⟨ret_bool (by rw [hr.out]; symm; exact rows_all HL.out (fun j h1 h2 => HE.out j h1 h1 h2)), _, rfl⟩
  · have HR := hid (hr.out.trans (rows_len hl))
    have hl2 : (a.length == b.length) = false := by simpa using hl
    clear hl
    go_enter Try.func24, Try.ntmps24
    go_wp2
    go_ret
    exact ⟨ret_bool HR.out.symm, 0, rfl⟩
end Go.Proofs.Ytmikbjlgcndmeaa
