import Derived.Test.YtipmchdogdemjaaAnE2
namespace Go.Proofs.Ytipmchdogdemjaa
open Go.RowKit Go.ChangeMaps Go.MapKept
set_option linter.unusedVariables false

set_option maxRecDepth 100000 in
theorem may1_calls (x : Ent) (v1 v2 : Value) (cb : Nat) (c : Int) (w : World) (h : w.cell? ⟨cb, 0, none⟩ = some (.int .i64 c)) (r : Bool) (hr : Hid (r = isBegin c x)) :
    Calls Try.prog 21 #[.agg (entC x v1 v2), .pointer (some ⟨cb, 0, none⟩)] w fun e w' => e = .returned (.bool r) ∧ Chg NoB w w' := by
  have hn : cb < w.heap.size := World.block_lt_of_cell? w _ h
  have h2 := ((Chg.refl NoB w).alloc (.cells (entC x v1 v2) 30)).cell h nob
  unfold entC at h2 ⊢
  cases ha : (x.at_ == c)
  · have hr2 : r = false := by rw [hr.out]; unfold isBegin; rw [ha]; rfl
    subst hr2
    clear hr
    go_enter Try.func21, Try.ntmps21
    go_wp2
    go_ret
    exact ⟨rfl, (Chg.refl NoB w).alloc _⟩
  · have hr2 : r = (x.r.kind == 5) := by rw [hr.out]; unfold isBegin; rw [ha]; rfl
    subst hr2
    clear hr
    go_enter Try.func21, Try.ntmps21
    go_wp2
    go_ret
    exact ⟨rfl, (Chg.refl NoB w).alloc _⟩

set_option maxRecDepth 100000 in
set_option maxHeartbeats 4000000 in
theorem idx_calls (v : Value) (l : List Ent) (cb : Nat) (c : Int) (w : World) (hv : Ents w v l) (h : w.cell? ⟨cb, 0, none⟩ = some (.int .i64 c)) :
    Calls Try.prog 28 #[v, .func (.func 21) #[] #[.pointer (some ⟨cb, 0, none⟩)]] w fun e w' => ∃ i : Int, e = .returned (.int .i64 i) ∧ decide (0 ≤ i) = l.any (isBegin c) ∧ Chg NoB w w' := by
  obtain ⟨a, n, rfl, h1, h2, h3⟩ := hv
  unfold maxLen at h2
  have HR := hid h3
  clear h3
  go_enter Try.func28, Try.ntmps28
  go_wp2
  go_loopw [8] (fun i wr => ∃ k : Nat, k ≤ l.length ∧ i = .int .i64 k ∧ Hid (∀ j (hj : j < k) (h : j < l.length), isBegin c l[j] = false) ∧ Chg NoB w wr) (fun i _ => l.length - (intOf i).toNat)
  case atStart => exact ⟨0, by omega, rfl, hid (fun j h => by omega), Chg.refl _ _⟩
  case round =>
    obtain ⟨k, hk, rfl, HE, hc⟩ := hrel
    by_cases hlt : k < l.length
    · obtain ⟨x, b, off, v1, v2, hx, rfl, ht, _, g0, g1, g2, g3, g4, g5, g6, g7, g8, g9, g10, g11⟩ := Ents.cells HR.out hc k hlt
      obtain ⟨r, hr⟩ := named (isBegin c x)
      have HC := hid (hc.cell h nob)
      cases r
      · go_wp2_with (go_at_call 21; refine (may1_calls x v1 v2 cb c _ HC.out false hr).mono ?_; rintro e w' ⟨rfl, hc'⟩)
        go_roundw
        case rel =>
          refine ⟨k + 1, by omega, by go_num, hid (fun j hj h => ?_), hc.trans' hc'⟩
          by_cases hjk : j < k
          · exact HE.out j hjk h
          · obtain rfl : j = k := by omega
            rw [hx.out, ← hr.out]
        case measure => simp [intOf]; omega
      · have hany : l.any (isBegin c) = true := List.any_eq_true.2 ⟨l[k], List.getElem_mem hlt, by rw [hx.out, ← hr.out]⟩
        have HA := hid hany
        clear hany
        go_wp2_with (go_at_call 21; refine (may1_calls x v1 v2 cb c _ HC.out true hr).mono ?_; rintro e w' ⟨rfl, hc'⟩)
        go_ret
        exact ⟨_, rfl, by rw [HA.out]; simp, hc.trans' hc'⟩
    · obtain rfl : k = l.length := by omega
      have hany : l.any (isBegin c) = false := by
        rw [List.any_eq_false]
        intro x hx
        obtain ⟨i, hi, rfl⟩ := List.getElem_of_mem hx
        rw [HE.out i hi hi]; simp
      have HA := hid hany
      clear hany
      go_wp2
      go_ret
      exact ⟨_, rfl, by rw [HA.out]; rfl, hc⟩

set_option maxRecDepth 100000 in
theorem contains_calls (v : Value) (l : List Ent) (cb : Nat) (c : Int) (w : World) (hv : Ents w v l) (h : w.cell? ⟨cb, 0, none⟩ = some (.int .i64 c)) (r : Bool) (hr : Hid (r = l.any (isBegin c))) :
    Calls Try.prog 20 #[v, .func (.func 21) #[] #[.pointer (some ⟨cb, 0, none⟩)]] w fun e w' => e = .returned (.bool r) ∧ Chg NoB w w' := by
  have HV := hid hv
  have HC := hid h
  clear hv h
  go_enter Try.func20, Try.ntmps20
  go_wp2_with (go_at_call 28; refine (idx_calls v l cb c w HV.out HC.out).mono ?_; rintro e w1 ⟨i, rfl, hi, hc⟩; replace hi := hid hi)
  go_ret
  exact ⟨ret_bool (by rw [hr.out, ← hi.out]), hc⟩

set_option maxRecDepth 100000 in
set_option maxHeartbeats 4000000 in
theorem may_calls (v : Value) (l : List Ent) (c : Int) (w : World) (hv : Ents w v l) (er : Int) (her : Hid (er = aErr l c)) :
    Calls Try.prog 15 #[v, .int .i64 c] w fun e w' => e = .returned (.int .i64 er) ∧ Chg NoB w w' := by
  have HV := hid hv
  obtain ⟨a, n, rfl, h1, h2, h3⟩ := hv
  unfold maxLen at h2
  have HR := hid h3
  clear h3
  go_enter Try.func15, Try.ntmps15
  go_wp2
  go_loopw [8] (fun i wr => ∃ k : Nat, k ≤ l.length ∧ i = .int .i64 k ∧ Hid (∀ j (hj : j + 1 < k) (h : j + 1 < l.length), l[j].at_ < l[j + 1].at_) ∧ Hid (Chg NoB (w.alloc (.cells #[.int .i64 c] 3)) wr)) (fun i _ => l.length - (intOf i).toNat)
  case atStart => exact ⟨0, by omega, rfl, hid (fun j h => by omega), Chg.refl _ _⟩
  case round =>
    obtain ⟨k, hk, rfl, HE, hc⟩ := hrel
    have hcw := ((Chg.refl NoB w).alloc (.cells #[.int .i64 c] 3)).trans' hc.out
    by_cases hlt : k < l.length
    · obtain ⟨y, b, off, v1, v2, hy, ey, _, _, g0, _⟩ := Ents.cells HR.out hcw k hlt
      by_cases hk0 : k = 0
      · subst hk0
        have hd : decide ((0 : Int) < ((0 : Nat) : Int)) = false := by decide
        clear hcw g0
        go_wp2
        go_quiet (fail)
        go_wp2
        go_roundw
        case rel => exact ⟨1, by omega, by go_num, hid (fun j h => by omega), hc.out.drewN _⟩
        case measure => simp [intOf]; omega
      · obtain ⟨j, rfl⟩ : ∃ j, k = j + 1 := ⟨k - 1, by omega⟩
        obtain ⟨x, b', off', v1', v2', hx, ex, _, _, g0', _⟩ := Ents.cells HR.out hcw j (by omega)
        rw [ey] at ex
        cases ex
        subst ey
        clear hcw
        have hd : decide ((0 : Int) < ((j + 1 : Nat) : Int)) = true := decide_eq_true (by omega)
        have hw : IntKind.i64.wrap (j : Int) = (j : Int) := by rw [IntKind.wrap_i64]; omega
        by_cases hxy : y.at_ ≤ x.at_
        · have hr3 : aErr l c = 3 := by
            unfold aErr
            rw [if_neg]
            intro hri
            have := risesB_iff.1 hri j hlt
            rw [hx.out, hy.out] at this
            omega
          have HER := hid (her.out.trans hr3)
          clear hr3
          go_wp2
          go_quiet (fail)
          go_wp2
          go_ret
          exact ⟨ret_int HER.out.symm, (((Chg.refl NoB w).alloc _).trans' hc.out).drewN _⟩
        · go_wp2
          go_quiet (fail)
          go_wp2
          go_roundw
          case rel =>
            refine ⟨j + 2, by omega, by go_num, hid (fun i hi h => ?_), hc.out.drewN _⟩
            by_cases hij : i < j
            · exact HE.out i (by omega) h
            · obtain rfl : i = j := by omega
              rw [hx.out, hy.out]; omega
          case measure => simp [intOf]; omega
    · obtain rfl : l.length = k := by omega
      have hri : risesB l = true := risesB_iff.2 (fun i hi => HE.out i hi hi)
      have hcb : wr.cell? ⟨w.heap.size, 0, none⟩ = some (.int .i64 c) := hc.out.cell (by rw [cell_blk (blk_new _ _)]; rfl) nob
      have hE : Hid (er = if c ≠ 0 ∧ l.any (isBegin c) = false then 7 else 0) := hid (by rw [her.out]; unfold aErr; rw [if_pos hri])
      obtain ⟨r, hr⟩ := named (l.any (isBegin c))
      have HVR := hid (HV.out.mono hcw)
      have HCW := hid hcw
      clear hri hcw
      cases hc0 : (c != 0)
      · have h0 : c = 0 := by simpa using hc0
        have HER : Hid (er = 0) := hid (by rw [hE.out, if_neg (by simp [h0])])
        clear h0
        go_wp2
        go_ret
        exact ⟨ret_int HER.out.symm, HCW.out⟩
      · have h0 : c ≠ 0 := by simpa using hc0
        have HCB := hid hcb
        cases r
        · have HER : Hid (er = 7) := hid (by rw [hE.out, if_pos ⟨h0, hr.out.symm⟩])
          clear h0
          go_wp2_with (go_at_call 20; refine (contains_calls _ l _ c _ HVR.out HCB.out false hr).mono ?_; rintro e w2 ⟨rfl, hc2⟩)
          go_ret
          exact ⟨ret_int HER.out.symm, HCW.out.trans' hc2⟩
        · have HER : Hid (er = 0) := hid (by rw [hE.out, if_neg (by rw [← hr.out]; simp)])
          clear h0
          go_wp2_with (go_at_call 20; refine (contains_calls _ l _ c _ HVR.out HCB.out true hr).mono ?_; rintro e w2 ⟨rfl, hc2⟩)
          go_ret
          exact ⟨ret_int HER.out.symm, HCW.out.trans' hc2⟩
end Go.Proofs.Ytipmchdogdemjaa
