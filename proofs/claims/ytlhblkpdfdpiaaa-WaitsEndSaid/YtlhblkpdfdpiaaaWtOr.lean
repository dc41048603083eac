import Derived.Test.YtlhblkpdfdpiaaaWtVi
import Derived.Test.YtlhblkpdfdpiaaaStC
namespace Go.Proofs.Ytlhblkpdfdpiaaa.Wt
open Go.RowKit Go.ChangeMaps Go.MapKept Go.Shelf
set_option linter.unusedVariables false
set_option linter.unusedSimpArgs false
set_option linter.unnecessarySimpa false
set_option maxHeartbeats 8000000

theorem erase_at {l : List Int} (h : l.Nodup) {i : Nat} (hi : i < l.length) : l.erase l[i] = l.take i ++ l.drop (i + 1) := by
  induction l generalizing i with
  | nil => simp at hi
  | cons x l ih =>
    cases i with
    | zero => simp
    | succ i =>
      rw [List.nodup_cons] at h
      have hi2 : i < l.length := by simpa using hi
      have hne : ¬ (x == l[i]) = true := by
        intro e
        have e : x = l[i] := by simpa using e
        exact h.1 (e ▸ List.getElem_mem hi2)
      simp only [List.getElem_cons_succ, List.erase_cons, hne, if_false, List.take_succ_cons, List.drop_succ_cons, List.cons_append]
      rw [ih h.2 hi2]
      simp
theorem fre_suc {e : Edges} {left : List Int} {n : Int} : fre e left n = !((suc e n).any fun k => left.contains k) := by
  unfold fre
  congr 1
  rw [Bool.eq_iff_iff, List.any_eq_true, List.any_eq_true]
  constructor
  · rintro ⟨⟨a, b⟩, h1, h2⟩
    simp only [Bool.and_eq_true, beq_iff_eq] at h2
    obtain ⟨rfl, h2⟩ := h2
    exact ⟨b, suc_mem.2 h1, h2⟩
  · rintro ⟨k, h1, h2⟩
    exact ⟨(n, k), suc_mem.1 h1, by simpa using h2⟩

/-- What the closures of Order read: the list of those that are left. -/
structure LfAt (w : World) (lb g c : Nat) (left : List Int) : Prop where
  cell : w.cell? ⟨lb, 0, none⟩ = some (.slice (some ⟨g, 0, none⟩) left.length c)
  rd : ∀ j, j < left.length → w.cell? ⟨g, 0 + j, none⟩ = some (.int .i64 (left.getD j 0))
  big : left.length ≤ 9223372036854775807
theorem LfAt.keep {w w' : World} {lb g c : Nat} {left : List Int} (h : LfAt w lb g c left) (hc : Chg NoB w w') : LfAt w' lb g c left :=
  ⟨hc.cell h.cell nob, fun j hj => hc.cell (h.rd j hj) nob, h.big⟩
set_option maxRecDepth 100000 in
theorem ord11_calls (w : World) (lb g c : Nat) (left : List Int) (h : LfAt w lb g c left) (k : Int) (res : Bool) (hres : Hid (res = left.contains k)) :
    Calls Try.prog 27 #[.int .i64 k, .pointer (some ⟨lb, 0, none⟩)] w fun e w' => e = .returned (.bool res) ∧ w = w' := by
  have HH := hid h
  have x0 := h.cell
  clear h
  go_enter Try.func27, Try.ntmps27
  go_wp2_with (go_at_call 28; refine (AnyG.slices_Contains_int Try.containsA g 0 left.length c left k w (Nat.le_refl _) HH.out.big HH.out.rd).mono ?_; rintro e w1 ⟨rfl, rfl⟩; rw [List.take_length, ← hres.out])
  go_ret
  exact ⟨rfl, rfl⟩
theorem pred11 (w : World) (lb g c : Nat) (left : List Int) (h : LfAt w lb g c left) : PredAt Try.prog 27 #[.pointer (some ⟨lb, 0, none⟩)] (Value.int .i64) (fun k => left.contains k) w := fun W x hb => by
  show Calls Try.prog 27 #[.int .i64 x, .pointer (some ⟨lb, 0, none⟩)] W _
  exact (ord11_calls W lb g c left (h.keep (Chg.of_below hb NoB)) x _ (hid rfl)).mono fun e w' ⟨he, hw⟩ => ⟨he, 0, by rw [← hw]; rfl⟩
set_option maxRecDepth 100000 in
theorem ord1_calls (w : World) (gb lb g c r : Nat) (m : List (Int × Value)) (e : Edges) (left : List Int) (h : LfAt w lb g c left) (hG : Gr w r m e) (hg : w.cell? ⟨gb, 0, none⟩ = some (.map (some r))) (n : Int) (res : Bool) (hres : Hid (res = fre e left n)) :
    Calls Try.prog 25 #[.int .i64 n, .pointer (some ⟨gb, 0, none⟩), .pointer (some ⟨lb, 0, none⟩)] w fun ee w' => ee = .returned (.bool res) ∧ ∃ q, w' = w.drewN q := by
  have HH := hid h
  have HG := hid hG
  obtain ⟨sa, sc, HV, s1, s2, HS⟩ := hG.look n
  have eg : ∀ args w, (callFunc 27 args).run Try.prog w = .ok (.enter 27 args) w := enters_of Try.func27 (by kernel_rfl) rfl
  have hcall : Calls Try.prog 26 #[.slice sa (suc e n).length sc, .func (.func 27) #[] #[.pointer (some ⟨lb, 0, none⟩)]] w fun ee w' => ee = .returned (.bool (!res)) ∧ ∃ q, w' = w.drewN q := by
    have hr2 : (!res) = (suc e n).any fun k => left.contains k := by rw [hres.out, fre_suc, Bool.not_not]
    rw [hr2]
    rcases Nat.eq_zero_or_pos (suc e n).length with h0 | h0
    · rw [h0, List.eq_nil_of_length_eq_zero h0]
      refine (AnyE.slices_ContainsFunc_empty Try.containsFA sa sc _ w).mono ?_
      rintro ee w' ⟨rfl, rfl⟩
      exact ⟨rfl, 0, rfl⟩
    · obtain ⟨b, off, hab, _⟩ := HS.out 0 _ (List.getElem?_eq_getElem h0)
      subst hab
      have := AnyE.slices_ContainsFunc Try.containsFA (Value.int .i64) (fun k => left.contains k) 27 #[.pointer (some ⟨lb, 0, none⟩)] eg b off (suc e n).length sc (suc e n) w (pred11 w lb g c left h) (Nat.le_refl _) (by unfold maxLen at s2; omega) (fun j hj => by
        obtain ⟨b', off', hab, h2⟩ := HS.out j _ (List.getElem?_eq_getElem hj)
        cases hab
        have := h2 0 _ rfl
        rw [getElem!_pos (suc e n) j hj]
        simpa using this)
      rw [List.take_length] at this
      exact this
  have HCL := hid hcall
  clear h hG eg hcall s1 s2
  go_enter Try.func25, Try.ntmps25
  go_wp2_with (first
    | (at_lookup; refine step_lookup HG.out.map rfl _ _ 55 3 24 false rfl Try.underlying55 Try.underlying3 (zero_ints _) n rfl rfl ?_; simp only [Bool.false_eq_true, if_false]; rw [HV.out])
    | (go_at_call 26; refine HCL.out.mono ?_; rintro ee w1 ⟨rfl, q, rfl⟩))
  go_ret
  exact ⟨by simp, q, rfl⟩
theorem pred1 (w : World) (gb lb g c r : Nat) (m : List (Int × Value)) (e : Edges) (left : List Int) (h : LfAt w lb g c left) (hG : Gr w r m e) (hg : w.cell? ⟨gb, 0, none⟩ = some (.map (some r))) : PredAt Try.prog 25 #[.pointer (some ⟨gb, 0, none⟩), .pointer (some ⟨lb, 0, none⟩)] (Value.int .i64) (fre e left) w := fun W x hb => by
  show Calls Try.prog 25 #[.int .i64 x, .pointer (some ⟨gb, 0, none⟩), .pointer (some ⟨lb, 0, none⟩)] W _
  exact ord1_calls W gb lb g c r m e left (h.keep (Chg.of_below hb NoB)) (hG.keep (Chg.of_below hb NoB)) ((Chg.of_below hb NoB).cell hg nob) x _ (hid rfl)
end Go.Proofs.Ytlhblkpdfdpiaaa.Wt
