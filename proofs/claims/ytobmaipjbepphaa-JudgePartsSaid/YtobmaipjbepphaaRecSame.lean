import Derived.Test.YtobmaipjbepphaaRecSame2
namespace Go.Proofs.Ytobmaipjbepphaa
open Go.RowKit Go.ChangeMaps
set_option linter.unusedVariables false

/-- All but the tables' rows is alike. -/
def RecHead (a b : Rec) : Prop := a.kind = b.kind ∧ a.txn = b.txn ∧ a.page = b.page ∧ a.off = b.off ∧ a.prev = b.prev ∧ a.next = b.next ∧ a.beg = b.beg ∧ a.before.toList = b.before.toList ∧ a.after.toList = b.after.toList ∧ a.txns.length = b.txns.length ∧ a.pages.length = b.pages.length

set_option maxRecDepth 100000 in
set_option maxHeartbeats 8000000 in
theorem recSame_head (a b : Rec) (va1 va2 vb1 vb2 : Value) (w : World) (hta : Tabs w a va1 va2) (htb : Tabs w b vb1 vb2) (hh : ¬ RecHead a b) :
    Calls Try.prog 18 #[a.val va1 va2, b.val vb1 vb2] w fun e w' => e = .returned (.bool false) ∧ Chg NoB w w' := by
  obtain ⟨⟨p1, c1, rfl, hp1, hp2, hp3⟩, ⟨p2, c2, rfl, hp4, hp5, hp6⟩⟩ := hta
  obtain ⟨⟨q1, d1, rfl, hq1, hq2, hq3⟩, ⟨q2, d2, rfl, hq4, hq5, hq6⟩⟩ := htb
  unfold maxLen at hp2 hp5 hq2 hq5
  have HH := hid hh
  clear hh
  have P3 := hid hp3
  have P6 := hid hp6
  have Q3 := hid hq3
  have Q6 := hid hq6
  clear hp3 hp6 hq3 hq6
  unfold Rec.val
  obtain ⟨ta, hta⟩ := named a.txns.length
  obtain ⟨tb, htb⟩ := named b.txns.length
  obtain ⟨ga, hga⟩ := named a.pages.length
  obtain ⟨gb, hgb⟩ := named b.pages.length
  rw [← hta.out] at hp1 hp2 ⊢
  rw [← htb.out] at hq1 hq2 ⊢
  rw [← hga.out] at hp4 hp5 ⊢
  rw [← hgb.out] at hq4 hq5 ⊢
  go_enter Try.func18, Try.ntmps18
  go_wp2
  all_goals first
    | (go_ret; exact ⟨rfl, ((Chg.refl _ _).alloc _).alloc _⟩)
    | (exfalso
       refine HH.out ⟨?_, ?_, ?_, ?_, ?_, ?_, ?_, ?_, ?_, ?_, ?_⟩
       all_goals try rw [← hta.out, ← htb.out]
       all_goals try rw [← hga.out, ← hgb.out]
       all_goals first
         | assumption
         | omega
         | (simp at *; omega))
end Go.Proofs.Ytobmaipjbepphaa
