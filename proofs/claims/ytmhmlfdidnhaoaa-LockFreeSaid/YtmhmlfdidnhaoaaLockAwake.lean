import Derived.Test.YtmhmlfdidnhaoaaLock4
import Derived.Test.YtmhmlfdidnhaoaaLock5
import Derived.Test.YtmhmlfdidnhaoaaLock6
import Derived.Test.YtmhmlfdidnhaoaaRefSame
namespace Go.Proofs.Ytmhmlfdidnhaoaa
open Go.RowKit Go.ChangeMaps

/-- Take, whatever it answers. -/
theorem lockTake (p : Nat) (rs : List Nat) (t : LTab) (txn page mode : Int) (w : World) (h : LockAt w p rs t) (res : Int) (hres : Hid (res = lkMay t txn page mode)) (T : LTab) (hT : Hid (T = lkTake t txn page mode)) :
    Calls Try.prog 11 #[.pointer (some ⟨p, 0, none⟩), .int .i64 txn, .int .i64 page, .int .i64 mode] w fun e w' => e = .returned (.int .i64 res) ∧ LockAt w' p rs T ∧ Chg (InB rs) w w' := by
  by_cases h0 : lkMay t txn page mode = 0
  · refine (lockTake_yes p rs t txn page mode w h h0 T hT).mono ?_
    rintro e w' ⟨rfl, h1, h2⟩
    exact ⟨ret_int (by rw [hres.out, h0]), h1, h2⟩
  · refine (lockTake_no p rs t txn page mode w h res hres (by rw [hres.out]; simpa using h0)).mono ?_
    rintro e w' ⟨rfl, h1⟩
    have : T = t := by rw [hT.out]; simp [lkTake, h0]
    subst this
    exact ⟨rfl, h.keep h1 (fun e => e) (fun _ _ e => e), h1.mono fun i hi => .inl hi.elim⟩

theorem lockMay (p : Nat) (rs : List Nat) (t : LTab) (txn page mode : Int) (w : World) (h : LockAt w p rs t) (res : Int) (hres : Hid (res = lkMay t txn page mode)) :
    Calls Try.prog 13 #[.pointer (some ⟨p, 0, none⟩), .int .i64 txn, .int .i64 page, .int .i64 mode] w fun e w' => e = .returned (.int .i64 res) ∧ Chg NoB w w' := by
  cases hb : lkBad txn page mode
  · have h8 : 0 ≤ page ∧ page < 8 := by simp [lkBad] at hb; omega
    obtain ⟨r, h1, h2, h3⟩ := h.at page.toNat (by omega)
    exact lockMay_ok p r _ txn page mode w hb h2 h3 res (by rw [hres.out]; simp [lkMay, hb, Hid])
  · refine (lockMay_bad p txn page mode w hb).mono ?_
    rintro e w' ⟨rfl, rfl⟩
    exact ⟨ret_int (by rw [hres.out]; simp [lkMay, hb]), Chg.refl _ _⟩

/-- A new one, as an object of its own. -/
theorem lockNew' (w : World) : Calls Try.prog 9 #[] w fun e w' => (∃ p rs, e = .returned (.pointer (some ⟨p, 0, none⟩)) ∧ LockAt w' p rs lkEmpty ∧ (∀ r ∈ p :: rs, w.heap.size ≤ r)) ∧ Chg NoB w w' := by
  refine (lockNew w).mono ?_
  rintro e w' ⟨rfl, h⟩
  refine ⟨⟨_, _, rfl, h.lock, ?_⟩, h.chg⟩
  intro r hr
  rcases List.mem_cons.1 hr with rfl | hr
  · exact Nat.le_refl _
  · simp only [newRs, List.mem_map] at hr
    obtain ⟨i, _, rfl⟩ := hr
    omega

def aw1 : LTab := lkTake lkEmpty 1 0 1
def aw2 : LTab := lkTake aw1 2 0 1
def aw3 : LTab := lkFree aw2 2
def aw4 : LTab := lkTake aw3 1 0 2

set_option maxRecDepth 100000 in
theorem awake (w : World) : Calls Try.prog 8 #[] w fun e w' => e = .returned (.bool true) ∧ Chg NoB w w' := by
  go_enter Try.func8, Try.ntmps8
  go_wp2_with (go_at_call 9; refine (lockNew' w).mono ?_; rintro e w1 ⟨⟨p, rs, rfl, h1, hn⟩, c1⟩)
  refine (lockTake p rs lkEmpty 1 0 1 w1 h1 0 (hid (by kernel_rfl)) aw1 rfl).mono ?_
  rintro e w2 ⟨rfl, h2, c2⟩
  clear h1
  go_wp2_with fail
  refine (lockTake p rs aw1 2 0 1 w2 h2 0 (hid (by kernel_rfl)) aw2 rfl).mono ?_
  rintro e w3 ⟨rfl, h3, c3⟩
  clear h2
  go_wp2_with fail
  refine (lockTake p rs aw2 1 0 2 w3 h3 6 (hid (by kernel_rfl)) aw2 (hid (by kernel_rfl))).mono ?_
  rintro e w4 ⟨rfl, h4, c4⟩
  clear h3
  go_wp2_with fail
  refine (lockFree p rs aw2 2 w4 h4).mono ?_
  rintro e w5 ⟨rfl, h5, c5⟩
  clear h4
  have e5 : lkCount aw2 2 = 1 := by kernel_rfl
  rw [e5]
  clear e5
  go_wp2_with fail
  refine (lockTake p rs aw3 1 0 2 w5 h5 0 (hid (by kernel_rfl)) aw4 rfl).mono ?_
  rintro e w6 ⟨rfl, h6, c6⟩
  clear h5
  go_wp2_with fail
  refine (lockMode p rs aw4 1 0 w6 h6 2 (hid (by kernel_rfl))).mono ?_
  rintro e w7 ⟨rfl, rfl⟩
  go_wp2_with fail
  refine (lockPages p rs aw4 1 w6 h6).mono ?_
  rintro e w7 ⟨⟨v, rfl, hv⟩, c7⟩
  have h7 := h6.keep c7 (fun e => e) (fun _ _ e => e)
  have hv' : IntsAt w7 w6.heap.size v [0] := by have e : lkPages aw4 1 = [0] := by kernel_rfl
                                                rw [e] at hv; exact hv
  clear h6 hv
  go_wp2_with fail
  have hvd := Rd.ints_of hv'
  refine (refSame v _ [0] [0] _ (Rd.keep hvd ((Chg.refl NoB _).alloc _) (fun _ _ _ e => e)) ⟨_, 1, rfl, by decide, by decide, fun i x hi => ⟨_, 0, rfl, fun j u hu => ?_⟩⟩ true (hid (by kernel_rfl))).mono ?_
  · obtain rfl : i = 0 := by have := (List.getElem?_eq_some_iff.1 hi).1; simp at this; omega
    obtain rfl : j = 0 := by have := (List.getElem?_eq_some_iff.1 hu).1; simp [encI] at this; omega
    simp [encI] at hu hi
    subst hi
    rw [← hu, cell_blk (blk_new _ _)]
    rfl
  rintro e w8 ⟨rfl, n8, rfl⟩
  have h8 : LockAt (World.drewN (w7.alloc _) n8) p rs aw4 := (h7.keep ((Chg.refl NoB w7).alloc (.cells #[.int .i64 0] 3)) (fun e => e) (fun _ _ e => e)).keep ((Chg.refl NoB _).drewN n8) (fun e => e) (fun _ _ e => e)
  go_wp2_with fail
  refine (lockMay p rs aw4 0 0 1 _ h8 1 (hid (by kernel_rfl))).mono ?_
  rintro e w9 ⟨rfl, c9⟩
  clear h7 h8 hv' hvd
  go_wp2
  go_ret
  have hr : ∀ i, InB rs i → w.heap.size ≤ i := fun i hi => hn i (List.mem_cons_of_mem _ hi)
  exact ⟨rfl, (((((((c1.new c2 hr).new c3 hr).new c4 hr).new c5 hr).new c6 hr).trans' c7).alloc _ |>.drewN n8).trans' c9⟩
end Go.Proofs.Ytmhmlfdidnhaoaa
