import Derived.Test.YtmhmlfdidnhaoaaLock3
namespace Go.Proofs.Ytmhmlfdidnhaoaa
open Go.RowKit Go.ChangeMaps

theorem slInt : SlT Try.prog 35 3 (.int .i64 0) 1 8 := ⟨Try.underlying35, by kernel_rfl, rfl, by omega⟩

/-! ### Pages -/
def lkPagesK (t : LTab) (txn : Int) (k : Nat) : List Int := ((List.range k).filter (fun i : Nat => decide (0 < lkMode t txn (i : Int)))).map (fun i => ((i : Nat) : Int))
def lkPages (t : LTab) (txn : Int) : List Int := lkPagesK t txn 8
theorem lkPagesK_succ (t : LTab) (txn : Int) (k : Nat) : lkPagesK t txn (k + 1) = lkPagesK t txn k ++ if 0 < lkMode t txn (k : Int) then [(k : Int)] else [] := by
  unfold lkPagesK
  rw [List.range_succ, List.filter_append, List.map_append]
  by_cases h : 0 < lkMode t txn (k : Int) <;> simp [h]
theorem lkPagesK_len (t : LTab) (txn : Int) (k : Nat) : (lkPagesK t txn k).length ≤ k := by
  unfold lkPagesK
  rw [List.length_map]
  have := List.length_filter_le (fun i => decide (0 < lkMode t txn ((i : Nat) : Int))) (List.range k)
  simpa using this

/-- v is a slice of the ints l, in memory from block B on. -/
def IntsAt (w : World) (B : Nat) (v : Value) (l : List Int) : Prop := w.ownsRow B 3 1 v l.length (l.map (Value.int .i64))

theorem IntsAt.snoc {w : World} {B : Nat} {v : Value} {l : List Int} {x : Int} (h : w.ownsRow B 3 1 v (l.length + 1) (l.map (Value.int .i64) ++ [.int .i64 x])) : IntsAt w B v (l ++ [x]) := by
  unfold IntsAt
  simpa using h

set_option maxRecDepth 100000 in
theorem lockPages (p : Nat) (rs : List Nat) (t : LTab) (txn : Int) (w : World) (h : LockAt w p rs t) :
    Calls Try.prog 14 #[.pointer (some ⟨p, 0, none⟩), .int .i64 txn] w fun e w' => (∃ v, e = .returned v ∧ IntsAt w' w.heap.size v (lkPages t txn)) ∧ Chg NoB w w' := by
  go_enter Try.func14, Try.ntmps14
  go_wp2
  go_loopw [4, 6] (fun v i wr => ∃ k : Nat, k ≤ 8 ∧ i = .int .i64 k ∧ IntsAt wr w.heap.size v (lkPagesK t txn k) ∧ Chg NoB w wr) (fun _ i _ => 8 - (intOf i).toNat)
  case atStart => exact ⟨0, by omega, rfl, by simpa [IntsAt, lkPagesK] using World.ownsRow_nil _ _ _ _, Chg.refl _ _⟩
  case round =>
    obtain ⟨k, hk, rfl, hv, hc⟩ := hrel
    by_cases hlt : k < 8
    · have hL : LockAt wr p rs t := h.keep hc (fun e => e) (fun _ _ e => e)
      have hlen := lkPagesK_len t txn k
      have HS := hid (lkPagesK_succ t txn k)
      by_cases hpos : 0 < lkMode t txn (k : Int)
      · have HP := hid hpos
        obtain ⟨res, hres⟩ : ∃ res, Hid (res = lkMode t txn (k : Int)) := ⟨_, rfl⟩
        have hr0 : 0 < res := by rw [hres.out]; exact hpos
        clear hpos
        go_wp2_with (first | (go_at_call 12; refine (lockMode p rs t txn k wr hL res hres).mono ?_; rintro e w1 ⟨rfl, rfl⟩) | (at_builtin; refine step_append1 slInt rfl _ _ rfl (World.ownsRow.alloc hv _) rfl wr.heap.size [.int .i64 (k : Int)] rfl (blk_new _ _) rfl rfl (by simp [Value.oneCell']) ?_ ?_ ?_ ?_))
        case _ => omega
        case _ => unfold maxLen; omega
        case _ => have := hc.size; simp; omega
        intro v' w2 hv2 hc2 hnil
        have hv3 := IntsAt.snoc hv2
        have hc3 : Chg NoB w w2 := (hc.alloc _).trans hc2 fun i hi => .inr (OwnB.ge hv i hi).1
        clear hv2 hc2 hv hc hL
        go_wp2
        go_roundw
        case rel => exact ⟨k + 1, by omega, by go_num, by rw [HS.out, if_pos HP.out]; exact hv3, hc3⟩
        case measure => simp [intOf]; omega
      · have HP := hid hpos
        obtain ⟨res, hres⟩ : ∃ res, Hid (res = lkMode t txn (k : Int)) := ⟨_, rfl⟩
        have hr0 : ¬ 0 < res := by rw [hres.out]; exact hpos
        clear hpos
        go_wp2_with (go_at_call 12; refine (lockMode p rs t txn k wr hL res hres).mono ?_; rintro e w1 ⟨rfl, rfl⟩)
        go_roundw
        case rel => exact ⟨k + 1, by omega, by go_num, by rw [HS.out, if_neg (by have := HP.out; omega), List.append_nil]; exact hv, hc⟩
        case measure => simp [intOf]; omega
    · obtain rfl : k = 8 := by omega
      clear h
      go_wp2
      go_ret
      exact ⟨⟨_, rfl, hv⟩, hc⟩
end Go.Proofs.Ytmhmlfdidnhaoaa
