import Derived.Test.YtghklbflbodajaaA4
import Derived.Test.YtghklbflbodajaaRef11At
namespace Go.Proofs.Ytghklbflbodajaa
open Go.RowKit Go.ChangeMaps
set_option linter.unusedVariables false
set_option linter.unusedSimpArgs false
set_option linter.unnecessarySimpa false

/-- Where a walker stops, and the test. -/
def StopAt (w : World) (stop : Option Addr) (g : Int → Bool) : Prop :=
  (stop = none ∧ g = goAll) ∨ ∃ sb s, stop = some ⟨sb, 0, none⟩ ∧ w.cell? ⟨sb, 0, none⟩ = some (.int .i64 s) ∧ g = goTo s

set_option maxRecDepth 100000 in
theorem on_calls (q : Nat) (v : Value) (txn : Int) (stop : Option Addr) (er cur : Int) (g : Int → Bool) (w : World) (h : WkAt w q v txn stop er) (hs : StopAt w stop g) (res : Bool) (hres : Hid (res = (er == 0 && g cur))) :
    Calls Try.prog 75 #[.pointer (some ⟨q, 0, none⟩), .int .i64 cur] w fun e w' => e = .returned (.bool res) ∧ w' = w := by
  obtain ⟨c0, c1, c2, c3, c4⟩ := h.cells
  clear c4 h
  rcases hs with ⟨rfl, rfl⟩ | ⟨sb, s, rfl, hc, rfl⟩
  · go_enter Try.func75, Try.ntmps75
    go_wp2
    all_goals go_ret
    all_goals exact ⟨ret_bool (by rw [hres.out]; simp only [goAll]; rw [Bool.eq_iff_iff]; simp; omega), rfl⟩
  · go_enter Try.func75, Try.ntmps75
    go_wp2
    all_goals go_ret
    all_goals exact ⟨ret_bool (by rw [hres.out]; simp only [goTo]; rw [Bool.eq_iff_iff]; simp; omega), rfl⟩

def cmpI (a b : Int) : Int := if a < b then -1 else if b < a then 1 else 0

set_option maxRecDepth 100000 in
theorem nan_calls (a : Int) (w : World) : Calls Try.prog 52 #[.int .i64 a] w fun e w' => e = .returned (.bool false) ∧ w' = w := by
  go_enter Try.func52, Try.ntmps52
  go_wp2
  go_ret
  exact ⟨rfl, rfl⟩

set_option maxRecDepth 100000 in
theorem cmp_calls (a b : Int) (w : World) (r : Int) (hr : Hid (r = cmpI a b)) : Calls Try.prog 40 #[.int .i64 a, .int .i64 b] w fun e w' => e = .returned (.int .i64 r) ∧ w' = w := by
  go_enter Try.func40, Try.ntmps40
  rcases Int.lt_trichotomy a b with h | h | h
  · go_wp2_with (go_at_call 52; refine (nan_calls _ _).mono ?_; rintro e w' ⟨rfl, rfl⟩)
    go_ret
    exact ⟨ret_int (by rw [hr.out]; simp [cmpI, h]), rfl⟩
  · subst h
    go_wp2_with (go_at_call 52; refine (nan_calls _ _).mono ?_; rintro e w' ⟨rfl, rfl⟩)
    go_ret
    exact ⟨ret_int (by rw [hr.out]; simp [cmpI]), rfl⟩
  · go_wp2_with (go_at_call 52; refine (nan_calls _ _).mono ?_; rintro e w' ⟨rfl, rfl⟩)
    go_ret
    exact ⟨ret_int (by have h2 : ¬ a < b := (by omega); rw [hr.out]; simp [cmpI, h, h2]), rfl⟩

/-- The value of an entry. -/
def Ent.val (x : Ent) (v1 v2 : Value) : Value := .agg #[.int .i64 x.at_, .int .i64 x.r.kind, .int .i64 x.r.txn, .int .i64 x.r.page, .int .i64 x.r.off, .int .i64 x.r.prev, .int .i64 x.r.next, .int .i64 x.r.beg, .string x.r.before, .string x.r.after, v1, v2]

set_option maxRecDepth 100000 in
theorem at1_calls (x : Ent) (v1 v2 : Value) (p : Int) (w : World) (r : Int) (hr : Hid (r = cmpI x.at_ p)) : Calls Try.prog 83 #[x.val v1 v2, .int .i64 p] w fun e w' => e = .returned (.int .i64 r) ∧ Chg NoB w w' := by
  unfold Ent.val
  go_enter Try.func83, Try.ntmps83
  go_wp2_with (go_at_call 40; refine (cmp_calls _ _ _ _ hr).mono ?_; rintro e w' ⟨rfl, rfl⟩)
  go_ret
  exact ⟨rfl, (Chg.refl _ _).alloc _⟩
end Go.Proofs.Ytghklbflbodajaa
