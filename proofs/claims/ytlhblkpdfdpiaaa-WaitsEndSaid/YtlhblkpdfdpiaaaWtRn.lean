import Derived.Test.YtlhblkpdfdpiaaaWtOr2
import Derived.Test.YtlhblkpdfdpiaaaInsI
import Derived.ChangeKeysEq
namespace Go.Proofs.Ytlhblkpdfdpiaaa.Wt
open Go.RowKit Go.ChangeMaps Go.MapKept
set_option linter.unusedVariables false
set_option linter.unusedSimpArgs false
set_option linter.unnecessarySimpa false
set_option maxHeartbeats 8000000

theorem insU_at : ∀ (l : List Int) (x : Int), insU l x = if l[insAt l x]? = some x then l else l.take (insAt l x) ++ [x] ++ l.drop (insAt l x)
  | [], x => by simp [insU, insAt]
  | y :: l, x => by
    by_cases hy : y < x
    · have e : insAt (y :: l) x = insAt l x + 1 := by simp [insAt, hy]
      have h1 := insU_at l x
      rw [e]
      unfold insU
      rw [if_pos hy, h1, List.getElem?_cons_succ, List.take_succ_cons, List.drop_succ_cons]
      split <;> simp
    · have e : insAt (y :: l) x = 0 := by simp [insAt, hy]
      rw [e]
      unfold insU
      rw [if_neg hy]
      by_cases hx : y = x
      · simp [hx]
      · simp [hx]
theorem insU_len (l : List Int) (x : Int) : (insU l x).length ≤ l.length + 1 := by
  rw [insU_at]
  have := insAt_le l x
  split
  · omega
  · simp; omega

theorem run_eq2 (d : Nat) (a b c e : Int) (w : World) : (Op.equalIn (d + 2) 50 (.agg #[.int .i64 a, .int .i64 b]) (.agg #[.int .i64 c, .int .i64 e])).run Try.prog w = .ok ((a == c) && (b == e)) w := by
  obtain ⟨i, hi⟩ : ∃ i, Try.prog.info? 3 = some i := by
    have h : (Try.prog.info? 3).isSome = true := by kernel_rfl
    exact Option.isSome_iff_exists.1 h
  have hc : Try.prog.cellsOf 3 = 1 := by kernel_rfl
  rw [run_equalIn_array w (d + 1) _ _ Try.underlying50 hi, hc]
  have p0 : ∀ (x y : Int) (w : World), (part 3 #[.int .i64 x, .int .i64 y] 0).run Try.prog w = .ok (.int .i64 x) w := fun x y w => by
    simp [part, isAgg, run_underlying Try.underlying3]
  have p1 : ∀ (x y : Int) (w : World), (part 3 #[.int .i64 x, .int .i64 y] 1).run Try.prog w = .ok (.int .i64 y) w := fun x y w => by
    simp [part, isAgg, run_underlying Try.underlying3]
  have pe : ∀ (x y : Int) (w : World), (Op.equalIn (d + 1) 3 (.int .i64 x) (.int .i64 y)).run Try.prog w = .ok (x == y) w := fun x y w => run_equalIn_int w d 3 .i64 .i64 _ _ Try.underlying3
  show (Op.eqItems (d + 1) 3 1 _ _ [0, 1]).run Try.prog w = _
  simp only [Op.eqItems, Sem.run_bind, Nat.zero_mul, Nat.one_mul, p0, p1, pe, Result.andThen_ok]
  cases h1 : a == c <;> cases h2 : b == e <;> simp [p1, pe, h2, Result.andThen]

/-! has, edge -/
set_option maxRecDepth 100000 in
theorem has_calls (w : World) (v : Value) (l : List Int) (hv : Rd w 1 encI v l) (n : Int) (res : Bool) (hres : Hid (res = l.contains n)) :
    Calls Try.prog 31 #[v, .int .i64 n] w fun e w' => e = .returned (.bool res) ∧ w = w' := by
  obtain ⟨a, c, rfl, q1, q2, hr⟩ := hv
  unfold maxLen at q2
  have HR := hid hr
  clear hr
  go_enter Try.func31, Try.ntmps31
  go_wp2_with fail
  go_loopw [5] (fun i wr => ∃ k : Nat, k ≤ l.length ∧ i = .int .i64 k ∧ w = wr ∧ Hid ((l.take k).contains n = false)) (fun i _ => l.length - (intOf i).toNat)
  case atStart => exact ⟨0, by omega, rfl, rfl, hid (by simp)⟩
  case round =>
    obtain ⟨k, hk, rfl, rfl, hI⟩ := hrel
    by_cases hlt : k < l.length
    · obtain ⟨y, hy⟩ := named l[k]
      obtain ⟨b, off, hab, h2⟩ := HR.out k _ (List.getElem?_eq_getElem hlt)
      have h2 := h2 0 _ rfl
      rw [← hy.out] at h2
      subst hab
      simp only [Nat.add_zero, Nat.mul_one] at h2
      cases he : y == n
      · have HN : Hid ((l.take (k + 1)).contains n = false) := hid (by
          have h9 := hI.out
          rw [List.take_succ_eq_append_getElem hlt, ← hy.out]
          simp only [List.contains_eq_any_beq, List.any_append, List.any_cons, List.any_nil] at h9 ⊢
          rw [h9]
          have : (n == y) = false := by rw [beq_eq_false_iff_ne] at he ⊢; exact fun e => he e.symm
          simp [this])
        go_wp2_with fail
        go_roundw
        case rel => exact ⟨k + 1, by omega, by go_num, by trivial, HN⟩
        case measure => simp [intOf]; omega
      · have hrt : res = true := by
          rw [hres.out]
          have : y = n := by simpa using he
          subst this
          rw [hy.out, List.contains_iff_mem]
          exact List.getElem_mem hlt
        subst hrt
        go_wp2_with fail
        go_ret
        exact ⟨rfl, rfl⟩
    · obtain rfl : l.length = k := by omega
      have hrt : res = false := by rw [hres.out]; have := hI.out; rwa [List.take_length] at this
      subst hrt
      go_wp2_with fail
      go_ret
      exact ⟨rfl, rfl⟩
set_option maxRecDepth 100000 in
theorem edge_calls (w : World) (v : Value) (l : Edges) (hv : Rd w 2 encE v l) (x y : Int) (res : Bool) (hres : Hid (res = l.contains (x, y))) :
    Calls Try.prog 34 #[v, .int .i64 x, .int .i64 y] w fun e w' => e = .returned (.bool res) ∧ Hid (Chg NoB w w') := by
  obtain ⟨a, c, rfl, q1, q2, hr⟩ := hv
  unfold maxLen at q2
  have HR := hid hr
  clear hr
  go_enter Try.func34, Try.ntmps34
  go_wp2_with fail
  go_loopw [7] (fun i wr => ∃ k : Nat, k ≤ l.length ∧ i = .int .i64 k ∧ Hid (Chg NoB w wr ∧ (l.take k).contains (x, y) = false)) (fun i _ => l.length - (intOf i).toNat)
  case atStart => exact ⟨0, by omega, rfl, hid ⟨Chg.refl _ _, by simp⟩⟩
  case round =>
    obtain ⟨k, hk, rfl, hI⟩ := hrel
    by_cases hlt : k < l.length
    · obtain ⟨⟨x1, y1⟩, hy⟩ := named l[k]
      obtain ⟨b, off, hab, h2⟩ := Rd.cells HR.out hI.out.1 k hlt
      rw [← hy.out] at h2
      subst hab
      have g0 := h2 0 _ rfl
      have g1 := h2 1 _ rfl
      simp only [Nat.add_zero] at g0
      clear h2
      have hsn : ∀ b, ((x, y) == (x1, y1)) = b → (l.take (k + 1)).contains (x, y) = b := fun b hb => by
        have h9 := hI.out.2
        rw [List.take_succ_eq_append_getElem hlt, ← hy.out]
        simp only [List.contains_eq_any_beq, List.any_append, List.any_cons, List.any_nil] at h9 ⊢
        rw [h9, hb]; simp
      have hyes : x1 = x → y1 = y → res = true := fun e1 e2 => by
        subst e1 e2
        rw [hres.out, hy.out, List.contains_iff_mem]
        exact List.getElem_mem hlt
      have hno : ¬ (x1 = x ∧ y1 = y) → Hid ((l.take (k + 1)).contains (x, y) = false) := fun hn => hid (hsn false (by
        rw [beq_eq_false_iff_ne]; intro e; cases e; exact hn ⟨rfl, rfl⟩))
      have HYES := hid hyes
      have HNO := hid hno
      clear hsn hyes hno
      by_cases e1 : x1 = x
      · by_cases e2 : y1 = y
        · have hrt := HYES.out e1 e2
          have b1 : (x1 == x) = true := by simpa using e1
          have b2 : (y1 == y) = true := by simpa using e2
          clear e1 e2
          subst hrt
          have HE : ∀ w, (Op.equalIn 10000 50 (.agg #[.int .i64 x1, .int .i64 y1]) (.agg #[.int .i64 x, .int .i64 y])).run Try.prog w = .ok true w := fun w => by rw [run_eq2 9998, b1, b2]; rfl
          go_wp2_with fail
          go_ret
          exact ⟨rfl, hid hI.out.1⟩
        · have HN := HNO.out (fun h => e2 h.2)
          have b1 : (x1 == x) = true := by simpa using e1
          have b2 : (y1 == y) = false := by simpa using e2
          have HE : ∀ w, (Op.equalIn 10000 50 (.agg #[.int .i64 x1, .int .i64 y1]) (.agg #[.int .i64 x, .int .i64 y])).run Try.prog w = .ok false w := fun w => by rw [run_eq2 9998, b1, b2]; rfl
          clear e1 e2
          go_wp2_with fail
          go_roundw
          case rel => exact ⟨k + 1, by omega, by go_num, hid ⟨hI.out.1, HN.out⟩⟩
          case measure => simp [intOf]; omega
      · have HN := HNO.out (fun h => e1 h.1)
        have b1 : (x1 == x) = false := by simpa using e1
        have HE : ∀ w, (Op.equalIn 10000 50 (.agg #[.int .i64 x1, .int .i64 y1]) (.agg #[.int .i64 x, .int .i64 y])).run Try.prog w = .ok false w := fun w => by rw [run_eq2 9998, b1]; rfl
        clear e1
        go_wp2_with fail
        go_roundw
        case rel => exact ⟨k + 1, by omega, by go_num, hid ⟨hI.out.1, HN.out⟩⟩
        case measure => simp [intOf]; omega
    · obtain rfl : l.length = k := by omega
      have hrt : res = false := by rw [hres.out]; have := hI.out.2; rwa [List.take_length] at this
      subst hrt
      go_wp2_with fail
      go_ret
      exact ⟨rfl, hid hI.out.1⟩
end Go.Proofs.Ytlhblkpdfdpiaaa.Wt
