import Derived.Test.YtlhblkpdfdpiaaaProg
import Derived.Test.YtlhblkpdfdpiaaaBase
namespace Go.Proofs.Ytlhblkpdfdpiaaa
open Go.RowKit Go.ChangeMaps

abbrev LTab := List (List (Int × Int))
def lkBad (txn page mode : Int) : Bool := decide (txn < 1) || decide (2147483647 < txn) || decide (page < 0) || decide (8 ≤ page) || (mode != 1 && mode != 2)
def lkHit (txn mode : Int) (p : Int × Int) : Bool := p.1 != txn && max p.2 mode == 2
def lkMay (t : LTab) (txn page mode : Int) : Int :=
  if lkBad txn page mode then 1 else if (t.getD page.toNat []).any (lkHit txn mode) then 6 else 0

/-- Block p is a lock table; rs: its maps. -/
structure LockAt (w : World) (p : Nat) (rs : List Nat) (t : LTab) : Prop where
  lr : rs.length = 8
  lt : t.length = 8
  nd : (p :: rs).Nodup
  blk : ∃ ty, w.heap[p]? = some (.cells (rs.map (fun r => Value.map (some r))).toArray ty (0, 0))
  maps : ∀ (i r : Nat) (m : List (Int × Int)), rs[i]? = some r → t[i]? = some m → MapI w r (Value.int .i64) m

theorem LockAt.at {w : World} {p : Nat} {rs : List Nat} {t : LTab} (h : LockAt w p rs t) (i : Nat) (hi : i < 8) : ∃ r, rs[i]? = some r ∧ w.cell? ⟨p, i, none⟩ = some (.map (some r)) ∧ MapI w r (Value.int .i64) (t.getD i []) := by
  have h1 := h.lr
  have h2 := h.lt
  obtain ⟨ty, hb⟩ := h.blk
  refine ⟨rs[i], by simp [h1, hi], ?_, h.maps i _ _ (by simp [h1, hi]) (by simp [h2, hi])⟩
  rw [cell_blk hb]
  simp [h1, hi]

def AnyTodo (m todo : List (Int × Int)) (txn mode : Int) : Prop := ∀ p ∈ m, p ∈ todo ∨ lkHit txn mode p = false
theorem AnyTodo.step {m todo todo' : List (Int × Int)} {txn mode k v : Int} (h : AnyTodo m todo txn mode) (hp : todo.Perm ((k, v) :: todo')) (hh : lkHit txn mode (k, v) = false) : AnyTodo m todo' txn mode := by
  intro p hm
  rcases h p hm with h1 | h1
  · have := hp.subset h1
    rcases List.mem_cons.1 this with rfl | h2
    · exact .inr hh
    · exact .inl h2
  · exact .inr h1
theorem AnyTodo.none {m : List (Int × Int)} {txn mode : Int} (h : AnyTodo m [] txn mode) : m.any (lkHit txn mode) = false := by
  rw [List.any_eq_false]
  intro p hp
  rcases h p hp with h1 | h1
  · simp at h1
  · simp [h1]

theorem zero_int (w : World) : (zeroValue 3).run Try.prog w = .ok (.int .i64 0) w := by kernel_rfl

set_option maxRecDepth 100000 in
theorem lockMay_bad (p : Nat) (txn page mode : Int) (w : World) (hb : lkBad txn page mode = true) :
    Calls Try.prog 21 #[.pointer (some ⟨p, 0, none⟩), .int .i64 txn, .int .i64 page, .int .i64 mode] w fun e w' => e = .returned (.int .i64 1) ∧ w = w' := by
  simp only [lkBad, Bool.or_eq_true, Bool.and_eq_true, decide_eq_true_eq, bne_iff_ne, ne_eq] at hb
  by_cases h1 : txn < 1
  · clear hb
    go_enter Try.func21, Try.ntmps21
    go_wp2
    go_ret
    exact ⟨rfl, rfl⟩
  by_cases h2 : 2147483647 < txn
  · clear hb
    go_enter Try.func21, Try.ntmps21
    go_wp2
    go_ret
    exact ⟨rfl, rfl⟩
  by_cases h3 : page < 0
  · clear hb
    go_enter Try.func21, Try.ntmps21
    go_wp2
    go_ret
    exact ⟨rfl, rfl⟩
  by_cases h4 : 8 ≤ page
  · clear hb
    go_enter Try.func21, Try.ntmps21
    go_wp2
    go_ret
    exact ⟨rfl, rfl⟩
  have h5 : (mode != 1) = true := by simp; omega
  have h6 : (mode != 2) = true := by simp; omega
  clear hb
  go_enter Try.func21, Try.ntmps21
  go_wp2
  go_ret
  exact ⟨rfl, rfl⟩

theorem hit_some {m : List (Int × Int)} {txn mode k v : Int} (hm : (k, v) ∈ m) (h : lkHit txn mode (k, v) = true) : m.any (lkHit txn mode) = true := List.any_eq_true.2 ⟨_, hm, h⟩
theorem hit_no1 {txn mode k v : Int} (h : k = txn) : lkHit txn mode (k, v) = false := by simp [lkHit, h]

set_option maxRecDepth 100000 in
theorem lockMay_ok (p r : Nat) (m : List (Int × Int)) (txn page mode : Int) (w : World) (hb : lkBad txn page mode = false) (hc : w.cell? ⟨p, page.toNat, none⟩ = some (.map (some r))) (hm : MapI w r (Value.int .i64) m)
    (res : Int) (hres : Hid (res = if m.any (lkHit txn mode) then 6 else 0)) :
    Calls Try.prog 21 #[.pointer (some ⟨p, 0, none⟩), .int .i64 txn, .int .i64 page, .int .i64 mode] w fun e w' => e = .returned (.int .i64 res) ∧ Chg NoB w w' := by
  simp only [lkBad, Bool.or_eq_false_iff, decide_eq_false_iff_not, Int.not_lt, Int.not_le] at hb
  obtain ⟨⟨⟨⟨h1, h2⟩, h3⟩, h4⟩, h5⟩ := hb
  have h6 : mode = 1 ∨ mode = 2 := by simp at h5; omega
  clear h5
  obtain ⟨M, hM⟩ : ∃ M : Int, Hid (M = mode) := ⟨_, rfl⟩
  obtain rfl | rfl := h6
  all_goals
    go_enter Try.func21, Try.ntmps21
    go_wp2_with (at_range; refine step_range hm rfl _ 51 3 3 rfl Try.underlying51 rfl ?_; intro w1 hr hg hs)
    go_frame
    clear hc
    go_loopg [9] m.length (fun k _ wr => ∃ todo, todo.length ≤ k ∧ RangeI wr w.heap.size r (Value.int .i64) m todo ∧ Chg NoB w wr ∧ AnyTodo m todo txn M)
    case atStart => exact ⟨m, Nat.le_refl _, hr, hg, fun p hp => .inl hp⟩
    case round =>
      clear hr hg hs
      obtain ⟨todo, hk, hr, hg, ha⟩ := hrel
      go_wp2_with (at_next; refine step_next hr rfl _ rfl rfl ?_ ?_)
      · intro h0
        go_wp2
        go_ret
        have := hM.out
        subst this
        subst h0
        exact ⟨ret_int (by rw [hres.out, ha.none]; rfl), hg⟩
      · intro x v todo' w2 hmem hp hsub hr2 hg2 hs2 hen
        have hl2 : todo'.length < gk := by have := hp.length_eq; simp at this; omega
        have hg3 : Chg NoB w w2 := hg.trans hg2 fun i hi => .inr (by cases hi; exact Nat.le_refl _)
        clear hr hg hg2
        by_cases hx : x = txn
        · go_wp2
          go_roundg todo'.length
          case measure => exact hl2
          case rel => exact ⟨todo', Nat.le_refl _, hr2, hg3, ha.step hp (hit_no1 hx)⟩
        · by_cases hv : v < M
          all_goals cases hv2 : (v == 2)
          all_goals
            have hM2 := hM.out
            subst hM2
            go_wp2
            all_goals first
              | (go_ret
                 exact ⟨ret_int (x := 6) (by rw [hres.out, hit_some hmem (by simp [lkHit, hx]; (try simp at hv2); try omega)]; rfl), hg3⟩)
              | (go_roundg todo'.length
                 case measure => exact hl2
                 case rel => exact ⟨todo', Nat.le_refl _, hr2, hg3, ha.step hp (by simp [lkHit]; (try simp at hv2); try omega)⟩)
end Go.Proofs.Ytlhblkpdfdpiaaa
