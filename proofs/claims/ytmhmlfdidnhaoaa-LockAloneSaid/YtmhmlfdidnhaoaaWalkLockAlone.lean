import Derived.Test.YtmhmlfdidnhaoaaLockOp
namespace Go.Proofs.Ytmhmlfdidnhaoaa
open Go.RowKit Go.ChangeMaps

/-! ### the plain law -/
def cnt (t : LTab) (page : Int) (v : Int) (k : Nat) : Int := (((List.range k).filter (fun i : Nat => decide (lkMode t (i + 1) page = v))).length : Int)
theorem cnt_succ (t : LTab) (page v : Int) (k : Nat) : cnt t page v (k + 1) = cnt t page v k + if lkMode t (k + 1) page = v then 1 else 0 := by
  unfold cnt
  rw [List.range_succ, List.filter_append]
  by_cases h : lkMode t (k + 1) page = v <;> simp [h]
theorem cnt_bd (t : LTab) (page v : Int) (k : Nat) : 0 ≤ cnt t page v k ∧ cnt t page v k ≤ k := by
  unfold cnt
  have := List.length_filter_le (fun i : Nat => decide (lkMode t (i + 1) page = v)) (List.range k)
  simp at this
  omega
theorem mode_two {t : LTab} (h : lkOk t) {a b page : Int} (ha : lkMode t a page = 2) (hb : lkMode t b page = 1 ∨ lkMode t b page = 2) : b = a := by
  unfold lkMode at ha hb
  by_cases hp : 0 ≤ page ∧ page < 8
  · rw [if_pos hp] at ha hb
    have ho : mapOk (t.getD page.toNat []) := by
      by_cases hl : page.toNat < t.length
      · exact h _ (by simp [hl])
      · have : t.getD page.toNat [] = [] := by simp [List.getD, show t[page.toNat]? = none by simp; omega]
        rw [this]
        exact mapOk_nil
    generalize t.getD page.toNat [] = m at *
    cases hga : mget m a with
    | none => rw [hga] at ha; simp at ha
    | some x =>
      rw [hga] at ha
      simp at ha
      subst ha
      cases hgb : mget m b with
      | none => rw [hgb] at hb; simp at hb
      | some y => exact ho.2.2 _ (mget_mem hga) rfl _ (mget_mem hgb)
  · rw [if_neg hp] at ha
    omega
theorem cnt_zero {t : LTab} {page v : Int} {k : Nat} (h : ∀ i : Nat, i < k → ¬ lkMode t (i + 1) page = v) : cnt t page v k = 0 := by
  unfold cnt
  rw [List.filter_eq_nil_iff.2]
  · rfl
  · intro i hi
    have := h i (by simpa using hi)
    simpa using this
theorem cnt_one {t : LTab} {page v : Int} {k : Nat} {a : Int} (h : ∀ i : Nat, i < k → lkMode t (i + 1) page = v → ((i : Int) + 1) = a) : cnt t page v k ≤ 1 := by
  induction k with
  | zero => simp [cnt]
  | succ k ih =>
    rw [cnt_succ]
    by_cases hk : lkMode t (k + 1) page = v
    · have := cnt_zero (t := t) (page := page) (v := v) (k := k) (fun i hi hm => by have h1 := h i (by omega) hm; have h2 := h k (by omega) hk; omega)
      rw [this, if_pos hk]
      omega
    · rw [if_neg hk]
      have := ih (fun i hi => h i (by omega))
      omega
/-- Who has a page alone has it alone of all. -/
theorem alone_plain {t : LTab} (h : lkOk t) (page : Int) : ¬ (1 < cnt t page 2 5) ∧ ¬ (cnt t page 2 5 = 1 ∧ 0 < cnt t page 1 5) := by
  by_cases hex : ∃ i : Nat, i < 5 ∧ lkMode t (i + 1) page = 2
  · obtain ⟨i, hi, hm⟩ := hex
    have h1 := cnt_one (t := t) (page := page) (v := 2) (k := 5) (a := (i : Int) + 1) (fun j hj hmj => mode_two h hm (.inr hmj))
    have h2 : cnt t page 1 5 = 0 := cnt_zero fun j hj hmj => by
      have h3 := mode_two h hm (.inl hmj)
      rw [h3] at hmj
      omega
    omega
  · have h1 : cnt t page 2 5 = 0 := cnt_zero fun i hi hm => hex ⟨i, hi, hm⟩
    omega

/-! ### the walk -/
structure ARel (w : World) (p : Nat) (rs : List Nat) (wr : World) : Prop where
  st : ∃ t, LockAt wr p rs t ∧ lkOk t
  chg : Chg NoB w wr
  new : ∀ r ∈ p :: rs, w.heap.size ≤ r

set_option maxRecDepth 100000 in
theorem lockAlone_walk (w : World) (v : Value) (l : List LOp) (hv : RdR w 4 (fun (x : LOp) cs => cs = encLOp x) v l) :
    Calls Try.prog 3 #[v] w fun e w' => e = .returned (.bool true) ∧ Chg NoB w w' := by
  obtain ⟨a, c, rfl, h1, h2, h3⟩ := hv.rd
  unfold maxLen at h2
  by_cases hlen : 300 < l.length
  · have hl : (300 : Int) < (l.length : Int) := by omega
    go_enter Try.func3, Try.ntmps3
    go_wp2_with (go_at_call 8; refine (awake w).mono ?_; rintro e w1 ⟨rfl, c1⟩)
    refine (awake w1).mono ?_
    rintro e w2 ⟨rfl, c2⟩
    go_wp2
    go_ret
    exact ⟨rfl, c1.trans' c2⟩
  · have hl : ¬ (300 : Int) < (l.length : Int) := by omega
    go_enter Try.func3, Try.ntmps3
    go_wp2_with (first | (go_at_call 8; refine (awake w).mono ?_; rintro e w1 ⟨rfl, c1⟩) | (go_at_call 9; refine (lockNew' w1).mono ?_; rintro e w2 ⟨⟨p, rs, rfl, hL, hn⟩, c2⟩))
    have hA0 : ARel w p rs w2 := ⟨⟨_, hL, lkOk_empty⟩, c1.trans' c2, fun r hr => Nat.le_trans c1.size (hn r hr)⟩
    clear hL hn c2 hv
    have H3 := hid h3
    clear h3
    go_loopw [21] (fun i wr => ∃ k : Nat, k ≤ l.length ∧ i = .int .i64 k ∧ ARel w p rs wr) (fun i _ => l.length - (intOf i).toNat)
    case atStart => exact ⟨0, by omega, rfl, hA0⟩
    case round =>
      obtain ⟨k, hk, rfl, hA⟩ := hrel
      clear hA0
      by_cases hlt : k < l.length
      · obtain ⟨b, off, rfl, hcs⟩ := Rd.cells H3.out hA.chg k hlt
        obtain ⟨x, hx⟩ := named l[k]
        rw [← hx.out] at hcs
        have g0 : wr.cell? ⟨b, off + k * 4, none⟩ = some (.int .i64 x.kind) := hcs 0 _ rfl
        have g1 : wr.cell? ⟨b, off + k * 4 + 1, none⟩ = some (.int .i64 x.txn) := hcs 1 _ rfl
        have g2 : wr.cell? ⟨b, off + k * 4 + 2, none⟩ = some (.int .i64 x.page) := hcs 2 _ rfl
        have g3 : wr.cell? ⟨b, off + k * 4 + 3, none⟩ = some (.int .i64 x.mode) := hcs 3 _ rfl
        clear hcs
        obtain ⟨t, hL, hO⟩ := hA.st
        have hC := hA.chg
        have hN := hA.new
        have hlt2 : (k : Int) < (l.length : Int) := by omega
        clear hA
        obtain ⟨T, hT⟩ : ∃ T : Int, Hid (T = wrap64 (1 + wrap64 ((IntKind.u64.wrap x.txn).tmod 5))) := named _
        obtain ⟨O, hO'⟩ : ∃ O : Obj, Hid (O = (Obj.cells #[Value.int IntKind.i64 x.kind, Value.int IntKind.i64 T, Value.int IntKind.i64 x.page, Value.int IntKind.i64 x.mode] 27)) := named _
        have hL3 : LockAt (wr.alloc O) p rs t := hL.keep ((Chg.refl NoB _).alloc _) (fun e => e) (fun _ _ e => e)
        have hC3 : Chg NoB w (wr.alloc O) := hC.alloc _
        rw [hO'.out, hT.out] at hL3 hC3
        by_cases hk2 : x.kind = 2
        · have hkb : (x.kind == 2) = true := by simp [hk2]
          have HK := hid hk2
          clear hk2
          go_wp2_with fail
          refine (lockFree p rs t _ _ hL3).mono ?_
          rintro e w4 ⟨rfl, hL4, hC4⟩
          have hO4 := lkOk_free hO (wrap64 (1 + wrap64 ((IntKind.u64.wrap x.txn).tmod 5)))
          generalize lkFree t _ = tt at *
          have hC5 : Chg NoB w w4 := hC3.new hC4 fun i hi => hN i (List.mem_cons_of_mem _ hi)
          clear hC4 hL3 hC3 hC hL g0 g1 g2 g3
          go_wp2_with fail
          go_loop [47] (fun i => ∃ q : Nat, q ≤ 8 ∧ i = .int .i64 q) (fun i => 8 - (intOf i).toNat)
          case atStart => exact ⟨0, by omega, rfl⟩
          case round =>
            obtain ⟨q, hq, rfl⟩ := hrel
            by_cases hq8 : q < 8
            · go_wp2_with fail
              go_loop [7, 8, 9] (fun n al tx => ∃ j : Nat, j ≤ 5 ∧ tx = .int .i64 ((j : Int) + 1) ∧ n = .int .i64 (cnt tt q 1 j) ∧ al = .int .i64 (cnt tt q 2 j)) (fun _ _ tx => 6 - (intOf tx).toNat)
              case atStart => exact ⟨0, by omega, rfl, rfl, rfl⟩
              case round =>
                obtain ⟨j, hj, rfl, rfl, rfl⟩ := hrel
                have b1 := cnt_bd tt q 1 j
                have b2 := cnt_bd tt q 2 j
                by_cases hj5 : j < 5
                · have S1 := hid (cnt_succ tt q 1 j)
                  have S2 := hid (cnt_succ tt q 2 j)
                  obtain ⟨res, hres⟩ := named (lkMode tt ((j : Int) + 1) (q : Int))
                  rw [← hres.out] at S1 S2
                  cases e1 : (res == 1)
                  all_goals cases e2 : (res == 2)
                  all_goals
                    go_wp2_with (go_at_call 12; refine (lockMode p rs tt _ _ w4 hL4 res hres).mono ?_; rintro e w5 ⟨rfl, rfl⟩)
                    all_goals
                      go_round
                      case rel =>
                        simp at e1 e2
                        first
                          | (exfalso; omega)
                          | (refine ⟨j + 1, by omega, by go_num, ?_, ?_⟩
                             · rw [S1.out]
                               first | rw [if_pos e1] | (rw [if_neg e1]; go_num) | (rw [if_neg (by omega)]; go_num)
                             · rw [S2.out]
                               first | rw [if_pos e2] | (rw [if_neg e2]; go_num) | (rw [if_neg (by omega)]; go_num))
                      case measure => simp [intOf]; omega
                · obtain rfl : j = 5 := by omega
                  have hfin := alone_plain hO4 q
                  obtain ⟨f1, f2⟩ := hfin
                  by_cases f3 : cnt tt q 2 5 = 1
                  · have f4 : ¬ 0 < cnt tt q 1 5 := fun h => f2 ⟨f3, h⟩
                    have f5 : (cnt tt q 2 5 == 1) = true := by simp [f3]
                    clear f2 f3
                    go_wp2_with fail
                    go_round
                    case rel => exact ⟨q + 1, by omega, by go_num⟩
                    case measure => simp [intOf]; omega
                  · have f5 : (cnt tt q 2 5 == 1) = false := by simp [f3]
                    clear f2 f3
                    go_wp2_with fail
                    go_round
                    case rel => exact ⟨q + 1, by omega, by go_num⟩
                    case measure => simp [intOf]; omega
            · obtain rfl : q = 8 := by omega
              go_wp2_with fail
              go_roundw
              case rel => exact ⟨k + 1, by omega, by go_num, ⟨⟨tt, hL4, hO4⟩, hC5, hN⟩⟩
              case measure => simp [intOf]; omega
        · have hkb : (x.kind == 2) = false := by simp [hk2]
          clear hk2
          go_wp2_with fail
          obtain ⟨res, hres⟩ := named (lkMay t (wrap64 (1 + wrap64 ((IntKind.u64.wrap x.txn).tmod 5))) x.page x.mode)
          refine (lockTake p rs t _ _ _ _ hL3 res hres _ (hid rfl)).mono ?_
          rintro e w4 ⟨rfl, hL4, hC4⟩
          have hO4 := lkOk_take hO (wrap64 (1 + wrap64 ((IntKind.u64.wrap x.txn).tmod 5))) x.page x.mode
          generalize lkTake t _ _ _ = tt at *
          have hC5 : Chg NoB w w4 := hC3.new hC4 fun i hi => hN i (List.mem_cons_of_mem _ hi)
          clear hC4 hL3 hC3 hC hL g0 g1 g2 g3
          go_wp2_with fail
          go_loop [47] (fun i => ∃ q : Nat, q ≤ 8 ∧ i = .int .i64 q) (fun i => 8 - (intOf i).toNat)
          case atStart => exact ⟨0, by omega, rfl⟩
          case round =>
            obtain ⟨q, hq, rfl⟩ := hrel
            by_cases hq8 : q < 8
            · go_wp2_with fail
              go_loop [7, 8, 9] (fun n al tx => ∃ j : Nat, j ≤ 5 ∧ tx = .int .i64 ((j : Int) + 1) ∧ n = .int .i64 (cnt tt q 1 j) ∧ al = .int .i64 (cnt tt q 2 j)) (fun _ _ tx => 6 - (intOf tx).toNat)
              case atStart => exact ⟨0, by omega, rfl, rfl, rfl⟩
              case round =>
                obtain ⟨j, hj, rfl, rfl, rfl⟩ := hrel
                have b1 := cnt_bd tt q 1 j
                have b2 := cnt_bd tt q 2 j
                by_cases hj5 : j < 5
                · have S1 := hid (cnt_succ tt q 1 j)
                  have S2 := hid (cnt_succ tt q 2 j)
                  obtain ⟨res, hres⟩ := named (lkMode tt ((j : Int) + 1) (q : Int))
                  rw [← hres.out] at S1 S2
                  cases e1 : (res == 1)
                  all_goals cases e2 : (res == 2)
                  all_goals
                    go_wp2_with (go_at_call 12; refine (lockMode p rs tt _ _ w4 hL4 res hres).mono ?_; rintro e w5 ⟨rfl, rfl⟩)
                    all_goals
                      go_round
                      case rel =>
                        simp at e1 e2
                        first
                          | (exfalso; omega)
                          | (refine ⟨j + 1, by omega, by go_num, ?_, ?_⟩
                             · rw [S1.out]
                               first | rw [if_pos e1] | (rw [if_neg e1]; go_num) | (rw [if_neg (by omega)]; go_num)
                             · rw [S2.out]
                               first | rw [if_pos e2] | (rw [if_neg e2]; go_num) | (rw [if_neg (by omega)]; go_num))
                      case measure => simp [intOf]; omega
                · obtain rfl : j = 5 := by omega
                  have hfin := alone_plain hO4 q
                  obtain ⟨f1, f2⟩ := hfin
                  by_cases f3 : cnt tt q 2 5 = 1
                  · have f4 : ¬ 0 < cnt tt q 1 5 := fun h => f2 ⟨f3, h⟩
                    have f5 : (cnt tt q 2 5 == 1) = true := by simp [f3]
                    clear f2 f3
                    go_wp2_with fail
                    go_round
                    case rel => exact ⟨q + 1, by omega, by go_num⟩
                    case measure => simp [intOf]; omega
                  · have f5 : (cnt tt q 2 5 == 1) = false := by simp [f3]
                    clear f2 f3
                    go_wp2_with fail
                    go_round
                    case rel => exact ⟨q + 1, by omega, by go_num⟩
                    case measure => simp [intOf]; omega
            · obtain rfl : q = 8 := by omega
              go_wp2_with fail
              go_roundw
              case rel => exact ⟨k + 1, by omega, by go_num, ⟨⟨tt, hL4, hO4⟩, hC5, hN⟩⟩
              case measure => simp [intOf]; omega
      · obtain rfl : k = l.length := by omega
        go_wp2
        go_ret
        exact ⟨rfl, hA.chg⟩
end Go.Proofs.Ytmhmlfdidnhaoaa
