import Derived.Test.YtlhblkpdfdpiaaaWtRd
namespace Go.Proofs.Ytlhblkpdfdpiaaa.Wt
open Go.RowKit Go.ChangeMaps Go.MapKept
set_option linter.unusedVariables false
set_option linter.unusedSimpArgs false
set_option linter.unnecessarySimpa false
set_option maxHeartbeats 8000000

theorem cyc_rnd {e : Edges} {j : Nat} {n : Int} (hj : (nm e)[j]? = some n) (hd : dst e n n ≠ 0) (hno : ∀ i, i < j → ∀ k, (nm e)[i]? = some k → dst e k k = 0) : cyc e = rnd e n := by
  have hf : (nm e).find? (fun n => dst e n n != 0) = some n := by
    rw [List.find?_eq_some_iff_getElem]
    obtain ⟨hjl, hje⟩ := List.getElem?_eq_some_iff.1 hj
    refine ⟨by simpa using hd, j, hjl, hje, fun i hi => ?_⟩
    have := hno i hi _ (List.getElem?_eq_getElem (by omega))
    simp [this]
  unfold cyc rnd
  rw [hf, if_neg hd]
theorem cyc_none {e : Edges} (hno : ∀ i, i < (nm e).length → ∀ k, (nm e)[i]? = some k → dst e k k = 0) : cyc e = [] := by
  have hf : (nm e).find? (fun n => dst e n n != 0) = none := by
    rw [List.find?_eq_none]
    intro x hx
    obtain ⟨i, hi, rfl⟩ := List.getElem_of_mem hx
    have := hno i hi _ (List.getElem?_eq_getElem hi)
    simp [this]
  unfold cyc
  rw [hf]
theorem rnd_nil {e : Edges} {n : Int} : rnd e n = [] ↔ dst e n n = 0 := by
  unfold rnd
  split
  · rename_i h; simp [h]
  · rename_i h; simp [h]
theorem nsl_ne {w : World} {B : Nat} {e : TypeId} {v : Value} {l : List Int} (h : w.ownsRow B e 1 v l.length (l.map (Value.int .i64))) (hl : l ≠ []) : ∃ g c, v = .slice (some ⟨g, 0, none⟩) l.length c := by
  rcases h.2 with ⟨_, h0⟩ | ⟨g, c, _, e1, _⟩
  · exact absurd (List.eq_nil_of_length_eq_zero h0) hl
  · exact ⟨g, c, e1⟩
/-- A list of numbers of the call's own; none: nil. -/
def OwnL (w0 w' : World) (v : Value) (l : List Int) : Prop := w'.ownsRow w0.heap.size 3 1 v l.length (l.map (Value.int .i64)) ∧ (l = [] → v = .slice none 0 0)

set_option maxRecDepth 100000 in
theorem cycle_calls (w : World) (v : Value) (l : Edges) (hv : Rd w 2 encE v l) (hl : l.length ≤ 1000) (hw : EdW l) :
    Calls Try.prog 12 #[v] w fun ee w' => ∃ v', ee = .returned v' ∧ Hid (OwnL w w' v' (cyc l)) ∧ Hid (Chg NoB w w') := by
  have HV := hid hv
  have HW := hid hw
  clear hv hw
  go_enter Try.func12, Try.ntmps12
  go_wp2_with (first
    | (go_at_call 22; refine (graphOf_calls w v l HV.out hl).mono ?_; rintro ee w1 ⟨r, m, rfl, hG⟩; have HG := hid (hG.out.1.gr hG.out.2); have HC1 := hid hG.out.1.chg; clear hG)
    | (go_at_call 23; refine (names_calls w1 r m l HG.out hl HW.out).mono ?_; rintro ee w2 ⟨na, nc, rfl, hN, hC2⟩))
  have HC2 := hid (HC1.out.trans' hC2.out)
  have HG2 := hid (HG.out.keep hC2.out)
  obtain ⟨_, _, e1, n1, n2, n3⟩ := Rd.ints_of hN.out
  cases e1
  have HN3 := hid n3
  have hN2 := nm_len l
  unfold maxLen at n2
  clear HG hC2 hN n3
  go_loopw [12] (fun i wr => ∃ j : Nat, j ≤ (nm l).length ∧ i = .int .i64 j ∧ Hid (Chg NoB w2 wr ∧ ∀ i, i < j → ∀ k, (nm l)[i]? = some k → dst l k k = 0)) (fun i _ => (nm l).length - (intOf i).toNat)
  case atStart => exact ⟨0, by omega, rfl, hid ⟨Chg.refl _ _, fun i hi => by omega⟩⟩
  case round =>
    obtain ⟨j, hj, rfl, hI⟩ := hrel
    by_cases hlt : j < (nm l).length
    · obtain ⟨n, hn⟩ := named (nm l)[j]
      obtain ⟨b, off, hab, h2⟩ := Rd.cells HN3.out hI.out.1 j hlt
      have h2 := h2 0 _ rfl
      rw [← hn.out] at h2
      subst hab
      simp only [Nat.add_zero, Nat.mul_one] at h2
      have HNJ : Hid ((nm l)[j]? = some n) := hid (by rw [List.getElem?_eq_getElem hlt, hn.out])
      have HNM : Hid (n ∈ nm l) := hid (List.mem_of_getElem? HNJ.out)
      by_cases hd : dst l n n = 0
      · have HD := hid (rnd_nil.2 hd)
        have HNX : Hid (∀ i, i < j + 1 → ∀ k, (nm l)[i]? = some k → dst l k k = 0) := hid (fun i hi k hk => by
          rcases Nat.lt_or_ge i j with h3 | h3
          · exact hI.out.2 i h3 k hk
          · obtain rfl : i = j := by omega
            rw [HNJ.out] at hk; cases hk; exact hd)
        clear hd
        go_wp2_with (go_at_call 32; refine (round_calls wr r m l (HG2.out.keep hI.out.1) hl n HNM.out).mono ?_; rintro ee w3 ⟨v3, rfl, h3, hc3⟩; obtain rfl := h3.out.2 HD.out)
        go_roundw
        case rel => exact ⟨j + 1, by omega, by go_num, hid ⟨hI.out.1.trans' hc3.out, HNX.out⟩⟩
        case measure => simp [intOf]; omega
      · have HCY := hid (cyc_rnd HNJ.out hd hI.out.2)
        have HNE : Hid (rnd l n ≠ []) := hid (fun e => hd (rnd_nil.1 e))
        clear hd
        go_wp2_with (go_at_call 32; refine (round_calls wr r m l (HG2.out.keep hI.out.1) hl n HNM.out).mono ?_; rintro ee w3 ⟨v3, rfl, h3, hc3⟩; obtain ⟨g3, c3, e3⟩ := nsl_ne h3.out.1 HNE.out; subst e3)
        go_ret
        refine ⟨_, rfl, hid ⟨?_, fun h => absurd (HCY.out.symm.trans h) HNE.out⟩, hid ((HC2.out.trans' hI.out.1).trans' hc3.out)⟩
        rw [HCY.out]
        obtain ⟨q1, q2⟩ := h3.out.1
        refine ⟨q1, q2.imp id ?_⟩
        rintro ⟨g, cap, cur, e4, h5, h6⟩
        exact ⟨g, cap, cur, e4, Nat.le_trans (HC2.out.trans' hI.out.1).size h5, h6⟩
    · obtain rfl : (nm l).length = j := by omega
      have HCY := hid (cyc_none hI.out.2)
      go_wp2_with fail
      go_ret
      refine ⟨_, rfl, hid ⟨?_, fun _ => rfl⟩, hid (HC2.out.trans' hI.out.1)⟩
      rw [HCY.out]
      exact World.ownsRow_nil _ _ _ _
end Go.Proofs.Ytlhblkpdfdpiaaa.Wt
