import Derived.Test.YtobmaipjbepphaaRecSame
import Derived.Laws.Strings
namespace Go.Proofs.Ytobmaipjbepphaa
open Go.RowKit Go.ChangeMaps
set_option linter.unusedVariables false

theorem toList_inj {a b : ByteArray} (h : a.toList = b.toList) : a = b := by
  rw [ByteArray.toList_eq, ByteArray.toList_eq] at h
  cases a; cases b
  simp at h
  rw [h]

theorem recSame (a b : Rec) (va1 va2 vb1 vb2 : Value) (w : World) (hta : Tabs w a va1 va2) (htb : Tabs w b vb1 vb2) (res : Bool) (hres : Hid (res = decide (a = b))) :
    Calls Try.prog 18 #[a.val va1 va2, b.val vb1 vb2] w fun e w' => e = .returned (.bool res) ∧ Chg NoB w w' := by
  by_cases hh : RecHead a b
  · obtain ⟨h1, h2, h3, h4, h5, h6, h7, h8, h9, h10, h11⟩ := hh
    have h8' := toList_inj h8
    have h9' := toList_inj h9
    have hb : b = { a with txns := b.txns, pages := b.pages } := by
      cases a; cases b; simp_all
    refine recSame_tabs a b hb h10.symm h11.symm va1 va2 vb1 vb2 w hta htb res (hid ?_)
    rw [hres.out]
    congr 1
    apply propext
    constructor
    · rintro rfl; exact ⟨rfl, rfl⟩
    · rintro ⟨e1, e2⟩
      cases a; cases b; simp_all
  · refine (recSame_head a b va1 va2 vb1 vb2 w hta htb hh).mono ?_
    rintro e w' ⟨rfl, hc⟩
    refine ⟨ret_bool ?_, hc⟩
    rw [hres.out]
    symm
    rw [decide_eq_false_iff_not]
    rintro rfl
    exact hh ⟨rfl, rfl, rfl, rfl, rfl, rfl, rfl, rfl, rfl, rfl, rfl⟩
end Go.Proofs.Ytobmaipjbepphaa
