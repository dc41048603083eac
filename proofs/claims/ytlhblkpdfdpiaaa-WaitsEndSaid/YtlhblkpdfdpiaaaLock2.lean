import Derived.Test.YtlhblkpdfdpiaaaLock
namespace Go.Proofs.Ytlhblkpdfdpiaaa
open Go.RowKit Go.ChangeMaps

def lkTake (t : LTab) (txn page mode : Int) : LTab :=
  if lkMay t txn page mode = 0 then t.set page.toNat (mput (t.getD page.toNat []) txn (max ((mget (t.getD page.toNat []) txn).getD 0) mode)) else t

theorem MapI.drew' {ν : Type} {w : World} {r : Nat} {V : ν → Value} {m : List (Int × ν)} (h : MapI w r V m) : MapI w.drew r V m := h

theorem LockAt.keep {w w' : World} {p : Nat} {rs : List Nat} {t : LTab} (h : LockAt w p rs t) {S : Nat → Prop} (hc : Chg S w w') (hp : ¬ S p) (hr : ∀ r ∈ rs, ¬ S r) : LockAt w' p rs t := by
  obtain ⟨ty, hb⟩ := h.blk
  exact ⟨h.lr, h.lt, h.nd, ⟨ty, hc.heap hb hp⟩, fun i r m h1 h2 => (h.maps i r m h1 h2).chg hc (hr r (List.mem_of_getElem? h1))⟩

theorem LockAt.drew {w : World} {p : Nat} {rs : List Nat} {t : LTab} (h : LockAt w p rs t) : LockAt w.drew p rs t := ⟨h.lr, h.lt, h.nd, h.blk, h.maps⟩
theorem LockAt.plt {w : World} {p : Nat} {rs : List Nat} {t : LTab} (h : LockAt w p rs t) : p < w.heap.size := by
  obtain ⟨ty, hb⟩ := h.blk
  exact lt_of_block hb
theorem LockAt.rlt {w : World} {p : Nat} {rs : List Nat} {t : LTab} (h : LockAt w p rs t) : ∀ r ∈ rs, r < w.heap.size := by
  intro r hr
  obtain ⟨i, hi⟩ := List.getElem?_of_mem hr
  have hl := (List.getElem?_eq_some_iff.1 hi).1
  have h1 := h.lr
  have h2 := h.lt
  exact (h.maps i r (t[i]'(by omega)) hi (by simp [h2, ← h1, hl])).lt

theorem LockAt.set {w w' : World} {p : Nat} {rs : List Nat} {t : LTab} (h : LockAt w p rs t) {i r : Nat} {m : List (Int × Int)} (hi : rs[i]? = some r) (hc : Chg (OneB r) w w') (hm : MapI w' r (Value.int .i64) m) : LockAt w' p rs (t.set i m) := by
  obtain ⟨ty, hb⟩ := h.blk
  have hnd := List.nodup_cons.1 h.nd
  have hrm : r ∈ rs := List.mem_of_getElem? hi
  refine ⟨h.lr, by simp [h.lt], h.nd, ⟨ty, hc.heap hb (fun e => hnd.1 ((show p = r from e) ▸ hrm))⟩, fun j r' m' h1 h2 => ?_⟩
  by_cases hij : i = j
  · subst hij
    have : r' = r := by rw [hi] at h1; exact (Option.some.inj h1).symm
    subst this
    have hl : i < t.length := by have := (List.getElem?_eq_some_iff.1 hi).1; have h1 := h.lr; have h2 := h.lt; omega
    simp [hl] at h2
    subst h2
    exact hm
  · rw [List.getElem?_set_ne hij] at h2
    refine (h.maps j r' m' h1 h2).chg hc (fun e => hij ?_)
    have e' : r' = r := e
    subst e'
    exact (List.getElem?_inj (List.getElem?_eq_some_iff.1 hi).1 hnd.2).1 (hi.trans h1.symm)

set_option maxRecDepth 100000 in
theorem lockTake_no (p : Nat) (rs : List Nat) (t : LTab) (txn page mode : Int) (w : World) (h : LockAt w p rs t) (res : Int) (hres : Hid (res = lkMay t txn page mode)) (hne : (res == 0) = false) :
    Calls Try.prog 17 #[.pointer (some ⟨p, 0, none⟩), .int .i64 txn, .int .i64 page, .int .i64 mode] w fun e w' => e = .returned (.int .i64 res) ∧ Chg NoB w w' := by
  have hcall : Calls Try.prog 21 #[.pointer (some ⟨p, 0, none⟩), .int .i64 txn, .int .i64 page, .int .i64 mode] w fun e w' => e = .returned (.int .i64 res) ∧ Chg NoB w w' := by
    cases hb : lkBad txn page mode
    · have h8 : 0 ≤ page ∧ page < 8 := by simp [lkBad] at hb; omega
      obtain ⟨r, h1, h2, h3⟩ := h.at page.toNat (by omega)
      exact lockMay_ok p r _ txn page mode w hb h2 h3 res (by rw [hres.out]; simp [lkMay, hb, Hid])
    · refine (lockMay_bad p txn page mode w hb).mono ?_
      rintro e w' ⟨rfl, rfl⟩
      exact ⟨ret_int (by rw [hres.out]; simp [lkMay, hb]), Chg.refl _ _⟩
  go_enter Try.func17, Try.ntmps17
  go_wp2_with (go_at_call 21; refine hcall.mono ?_; rintro e w' ⟨rfl, hc⟩)
  go_ret
  exact ⟨rfl, hc⟩

set_option maxRecDepth 100000 in
theorem lockTake_yes (p : Nat) (rs : List Nat) (t : LTab) (txn page mode : Int) (w : World) (h : LockAt w p rs t) (hm0 : lkMay t txn page mode = 0) (T : LTab) (hT : Hid (T = lkTake t txn page mode)) :
    Calls Try.prog 17 #[.pointer (some ⟨p, 0, none⟩), .int .i64 txn, .int .i64 page, .int .i64 mode] w fun e w' => e = .returned (.int .i64 0) ∧ LockAt w' p rs T ∧ Chg (InB rs) w w' := by
  have hb : lkBad txn page mode = false := by
    cases hb : lkBad txn page mode
    · rfl
    · simp [lkMay, hb] at hm0
  have h8 : 0 ≤ page ∧ page < 8 := by simp [lkBad] at hb; omega
  obtain ⟨r, h1, h2, h3⟩ := h.at page.toNat (by omega)
  have hcall := lockMay_ok p r _ txn page mode w hb h2 h3 0 (by have := hm0; simp only [lkMay, hb, Bool.false_eq_true, if_false] at this; exact this.symm)
  have hTT : Hid (T = t.set page.toNat (mput (t.getD page.toNat []) txn (max ((mget (t.getD page.toNat []) txn).getD 0) mode))) := by
    have := hT.out
    simp only [lkTake, hm0, if_true] at this
    exact this
  have HM := hid hm0
  have HB := hid hb
  clear hm0 hb hT
  obtain ⟨p1, p2⟩ := h8
  generalize hmm : t.getD page.toNat [] = m at *
  have HMM := hid hmm
  clear hmm
  go_enter Try.func17, Try.ntmps17
  go_wp2_with (go_at_call 21; refine hcall.mono ?_; rintro e w1 ⟨rfl, hc⟩)
  have hb1 : LockAt w1 p rs t := h.keep hc (fun e => e) (fun _ _ e => e)
  have hm1 : MapI w1.drew r (Value.int .i64) m := (h3.chg hc (fun e => e) : MapI w1 r _ _)
  have hl1 := hm1.lookup (P := Try.prog) Try.underlying51 Try.underlying3 (zero_int _) txn false
  have hc1 : w1.cell? ⟨p, page.toNat, none⟩ = some (.map (some r)) := hc.cell h2 (fun e => e)
  simp only [Bool.false_eq_true, if_false, map_getD0] at hl1
  go_still_tail 17, (by kernel_rfl)
  refine step_mapUpdate hm1 rfl _ _ _ 51 3 3 rfl Try.underlying51 Try.underlying3 txn _ rfl rfl rfl ?_
  intro w2 hm2 hc2 hs2
  have hcc : Chg (InB rs) w w2 := (hc.drew.mono fun i hi => .inl (show InB rs i from hi.elim)).trans hc2 fun i hi => .inl (by cases hi; exact List.mem_of_getElem? h1)
  have hLL : LockAt w2 p rs T := by
    rw [hTT.out]
    have e1 : max ((mget m txn).getD 0) mode = (if (mget m txn).getD 0 < mode then mode else (mget m txn).getD 0) := by split <;> omega
    rw [e1]
    exact LockAt.set hb1.drew h1 hc2 hm2
  clear hm2 hc2 hl1 hTT
  go_wp2
  all_goals go_ret
  all_goals exact ⟨rfl, hLL, hcc⟩
end Go.Proofs.Ytlhblkpdfdpiaaa
