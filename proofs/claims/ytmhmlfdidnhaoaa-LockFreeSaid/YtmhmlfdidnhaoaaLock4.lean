import Derived.Test.YtmhmlfdidnhaoaaLock3
namespace Go.Proofs.Ytmhmlfdidnhaoaa
open Go.RowKit Go.ChangeMaps

/-! ### Free -/
def lkHas (txn : Int) (m : List (Int × Int)) : Bool := decide (0 < (mget m txn).getD 0)
def lkFreeM (txn : Int) (m : List (Int × Int)) : List (Int × Int) := if lkHas txn m then mdel m txn else m
def lkFree (t : LTab) (txn : Int) : LTab := t.map (lkFreeM txn)
def lkCount (t : LTab) (txn : Int) : Int := ((t.filter (lkHas txn)).length : Int)

def lkFreeK (t : LTab) (txn : Int) (k : Nat) : LTab := (t.take k).map (lkFreeM txn) ++ t.drop k
theorem lkFreeK_zero (t : LTab) (txn : Int) : lkFreeK t txn 0 = t := by simp [lkFreeK]
theorem lkFreeK_all (t : LTab) (txn : Int) (h : t.length = 8) : lkFreeK t txn 8 = lkFree t txn := by simp [lkFreeK, lkFree, ← h]
theorem lkFreeK_at (t : LTab) (txn : Int) (k : Nat) (h : k < t.length) : (lkFreeK t txn k).getD k [] = t.getD k [] := by
  simp [lkFreeK, List.getElem?_append, h, Nat.min_eq_left (Nat.le_of_lt h)]
theorem lkFreeK_succ (t : LTab) (txn : Int) (k : Nat) (h : k < t.length) : (lkFreeK t txn k).set k (lkFreeM txn (t.getD k [])) = lkFreeK t txn (k + 1) := by
  have h1 : t = t.take k ++ t[k] :: t.drop (k + 1) := by rw [List.getElem_cons_drop, List.take_append_drop]
  have h2 : t.getD k [] = t[k] := by simp [h]
  have h3 : t.drop k = t[k] :: t.drop (k + 1) := by rw [List.getElem_cons_drop]
  have h4 : t.take (k + 1) = t.take k ++ [t[k]] := by rw [List.take_succ_eq_append_getElem h]
  unfold lkFreeK
  rw [h2, h3, h4, List.set_append_right _ _ (by simp; omega), List.length_map, List.length_take, Nat.min_eq_left (Nat.le_of_lt h), Nat.sub_self, List.set_cons_zero, List.map_append, List.append_assoc]
  rfl
theorem lkFreeK_same (t : LTab) (txn : Int) (k : Nat) (h : k < t.length) (hh : lkHas txn (t.getD k []) = false) : lkFreeK t txn k = lkFreeK t txn (k + 1) := by
  rw [← lkFreeK_succ t txn k h]
  apply List.ext_getElem?
  intro i
  by_cases hi : k = i
  · subst hi
    have h0 := lkFreeK_at t txn k h
    have hl : k < (lkFreeK t txn k).length := by simp [lkFreeK]; omega
    rw [List.getElem?_set_self hl]
    simp only [lkFreeM, hh]
    simp at h0 ⊢
    rw [List.getElem?_eq_getElem hl] at h0 ⊢
    simpa using h0
  · rw [List.getElem?_set_ne hi]
def lkCountK (t : LTab) (txn : Int) (k : Nat) : Int := (((t.take k).filter (lkHas txn)).length : Int)
theorem lkCountK_succ (t : LTab) (txn : Int) (k : Nat) (h : k < t.length) : lkCountK t txn (k + 1) = lkCountK t txn k + if lkHas txn (t.getD k []) then 1 else 0 := by
  unfold lkCountK
  rw [List.take_succ_eq_append_getElem h, List.filter_append]
  have : t.getD k [] = t[k] := by simp [h]
  rw [this]
  cases hh : lkHas txn t[k] <;> simp [hh]
theorem lkCountK_bd (t : LTab) (txn : Int) (k : Nat) : 0 ≤ lkCountK t txn k ∧ lkCountK t txn k ≤ k := by
  unfold lkCountK
  have := List.length_filter_le (lkHas txn) (t.take k)
  have h2 := List.length_take_le k t
  omega

structure FreeRel (p : Nat) (rs : List Nat) (t : LTab) (txn : Int) (w : World) (k : Nat) (wr : World) : Prop where
  at_ : LockAt wr p rs (lkFreeK t txn k)
  chg : Chg (InB rs) w wr

set_option maxRecDepth 100000 in
theorem lockFree (p : Nat) (rs : List Nat) (t : LTab) (txn : Int) (w : World) (h : LockAt w p rs t) :
    Calls Try.prog 10 #[.pointer (some ⟨p, 0, none⟩), .int .i64 txn] w fun e w' => e = .returned (.int .i64 (lkCount t txn)) ∧ LockAt w' p rs (lkFree t txn) ∧ Chg (InB rs) w w' := by
  have HL : Hid (t.length = 8) := h.lt
  go_enter Try.func10, Try.ntmps10
  go_wp2
  go_loopw [4, 8] (fun n i wr => ∃ k : Nat, k ≤ 8 ∧ i = .int .i64 k ∧ n = .int .i64 (lkCountK t txn k) ∧ FreeRel p rs t txn w k wr) (fun _ i _ => 8 - (intOf i).toNat)
  case atStart => exact ⟨0, by omega, rfl, rfl, ⟨by rw [lkFreeK_zero]; exact h, Chg.refl _ _⟩⟩
  case round =>
    obtain ⟨k, hk, rfl, rfl, hN⟩ := hrel
    have hbd := lkCountK_bd t txn k
    by_cases hlt : k < 8
    · obtain ⟨r, h1, h2, h3⟩ := hN.at_.at k hlt
      rw [lkFreeK_at _ _ _ (by rw [HL.out]; exact hlt)] at h3
      have HC := hid (lkCountK_succ t txn k (by rw [HL.out]; exact hlt))
      have hfr : ∀ (w' : World) (hh : lkHas txn (t.getD k []) = true), MapI w' r (Value.int .i64) (mdel (t.getD k []) txn) → Chg (OneB r) wr w' → FreeRel p rs t txn w (k + 1) w' := fun w' hh hm hc =>
        ⟨by rw [← lkFreeK_succ _ _ _ (by rw [HL.out]; exact hlt)]; simp only [lkFreeM, hh, if_true]; exact hN.at_.set h1 hc hm, hN.chg.trans hc fun i hi => .inl (by cases hi; exact List.mem_of_getElem? h1)⟩
      have HF := hid hfr
      clear hfr
      generalize hg : t.getD k [] = m at h3 ⊢
      have HG := hid hg
      clear hg
      cases hh : lkHas txn m
      all_goals have HH := hid hh
      · clear hh
        have hle : ¬ 0 < (mget m txn).getD 0 := by simpa [lkHas] using HH.out
        go_wp2_with (at_lookup; refine step_lookup_int h3 rfl _ _ 44 3 3 rfl Try.underlying44 Try.underlying3 (zero_int _) txn rfl rfl ?_)
        go_roundw
        case rel =>
          refine ⟨k + 1, by omega, by go_num, ?_, ⟨by rw [← lkFreeK_same _ _ _ (by rw [HL.out]; exact hlt) (by rw [HG.out]; exact HH.out)]; exact hN.at_, hN.chg⟩⟩
          rw [HC.out, HG.out, HH.out]
          simp
        case measure => simp [intOf]; omega
      · clear hh
        have hle : 0 < (mget m txn).getD 0 := by simpa [lkHas] using HH.out
        go_wp2_with (first | (at_lookup; refine step_lookup_int h3 rfl _ _ 44 3 3 rfl Try.underlying44 Try.underlying3 (zero_int _) txn rfl rfl ?_) | (at_delete; refine step_delete h3 rfl _ _ 44 3 3 rfl Try.underlying44 Try.underlying3 txn rfl rfl ?_; intro w2 hm2 hc2 hs2))
        go_roundw
        case rel =>
          refine ⟨k + 1, by omega, by go_num, ?_, HF.out _ (by rw [HG.out]; exact HH.out) (by rw [HG.out]; exact hm2) hc2⟩
          rw [HC.out, HG.out, HH.out]
          simp
        case measure => simp [intOf]; omega
    · obtain rfl : k = 8 := by omega
      have HN := hid hN
      clear hN
      go_wp2
      go_ret
      exact ⟨ret_int (by simp [lkCountK, lkCount, ← HL.out]), by rw [← lkFreeK_all _ _ HL.out]; exact HN.out.at_, HN.out.chg⟩
end Go.Proofs.Ytmhmlfdidnhaoaa
