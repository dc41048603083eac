import Derived.Test.YtmikbjlgcndmeaaTbOp
namespace Go.Proofs.Ytmikbjlgcndmeaa
set_option linter.unusedVariables false

/-- k marks, each behind one more record and one more change. -/
def mkM (k : Nat) : List (Int × Int) := (List.range k).map fun j : Nat => (128 * ((j : Int) + 1), (j : Int) + 1)
def stM (k : Nat) : TTab := [⟨7, if k = 0 then 0 else 128, 128 * (k : Int), (k : Int), mkM k⟩]
def stL (k : Nat) : TTab := [⟨7, 128, 128 * ((k : Int) + 1), (k : Int), mkM k⟩]
def stA (k : Nat) : TTab := [⟨7, 128, 128 * ((k : Int) + 1), (k : Int) + 1, mkM k⟩]
theorem m_log {k : Nat} (h : k < 4) : tLog (stM k) 7 (128 * ((k : Int) + 1)) = (0, stL k) := by
  obtain rfl | rfl | rfl | rfl : k = 0 ∨ k = 1 ∨ k = 2 ∨ k = 3 := by omega
  all_goals rfl
theorem m_left {k : Nat} (h : k < 4) : tLeft (stL k) 7 1 = (0, stA k) := by
  obtain rfl | rfl | rfl | rfl : k = 0 ∨ k = 1 ∨ k = 2 ∨ k = 3 := by omega
  all_goals rfl
theorem m_mark {k : Nat} (h : k < 4) : tMark (stA k) 7 ((k : Int) + 1) = ((k : Int), 0, stM (k + 1)) := by
  obtain rfl | rfl | rfl | rfl : k = 0 ∨ k = 1 ∨ k = 2 ∨ k = 3 := by omega
  all_goals rfl
def mlM (M : Nat) : List (Int × Int) := if M < 4 then mkM M ++ [(128 * (M : Int), (M : Int))] else mkM 4
/-- h marks are left. -/
def stB (M h : Nat) : TTab := [⟨7, 128, 128 * (M : Int), (M : Int), (mlM M).take h⟩]
theorem m_more {M : Nat} (h : 1 ≤ M ∧ M ≤ 4) : ∃ n, tMark (stM M) 7 (M : Int) = (n, (if M = 4 then 5 else 0), stB M (min (M + 1) 4)) := by
  obtain rfl | rfl | rfl | rfl : M = 1 ∨ M = 2 ∨ M = 3 ∨ M = 4 := by omega
  all_goals exact ⟨_, rfl⟩
theorem m_back {M h b : Nat} (hM : 1 ≤ M ∧ M ≤ 4) (hh : 1 ≤ h ∧ h ≤ min (M + 1) 4) (hb : b < h) : tBack (stB M h) 7 (b : Int) = (128 * (min ((b : Int) + 1) (M : Int)), min ((b : Int) + 1) (M : Int), 0, stB M (b + 1)) := by
  obtain rfl | rfl | rfl | rfl : M = 1 ∨ M = 2 ∨ M = 3 ∨ M = 4 := by omega
  all_goals
    obtain rfl | rfl | rfl | rfl : h = 1 ∨ h = 2 ∨ h = 3 ∨ h = 4 := by omega
    all_goals
      obtain rfl | rfl | rfl | rfl : b = 0 ∨ b = 1 ∨ b = 2 ∨ b = 3 := by omega
      all_goals first | rfl | (exfalso; omega)
theorem m_none {M h b : Nat} (hM : 1 ≤ M ∧ M ≤ 4) (hh : 1 ≤ h ∧ h ≤ min (M + 1) 4) (hb : h ≤ b) : tBack (stB M h) 7 (b : Int) = (0, 0, 7, stB M h) := by
  have hl : (mlM M).take h = (mlM M).take h := rfl
  have hlen : (((mlM M).take h).length : Int) ≤ (b : Int) := by
    have := List.length_take_le h (mlM M)
    omega
  unfold tBack stB
  have hf : tFind [⟨7, 128, 128 * (M : Int), (M : Int), (mlM M).take h⟩] 7 = some ⟨7, 128, 128 * (M : Int), (M : Int), (mlM M).take h⟩ := rfl
  rw [hf]
  dsimp only
  rw [if_pos (.inr hlen)]
end Go.Proofs.Ytmikbjlgcndmeaa
