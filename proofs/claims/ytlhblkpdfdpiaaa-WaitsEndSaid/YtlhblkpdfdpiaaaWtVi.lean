import Derived.Test.YtlhblkpdfdpiaaaWtDl2
import Derived.Test.YtlhblkpdfdpiaaaAppO
namespace Go.Proofs.Ytlhblkpdfdpiaaa.Wt
open Go.RowKit Go.ChangeMaps Go.MapKept
set_option linter.unusedVariables false
set_option linter.unusedSimpArgs false
set_option linter.unnecessarySimpa false
set_option maxHeartbeats 8000000

theorem clone_calls (w : World) (v : Value) (l : Edges) (hv : Rd w 2 encE v l) (hl : l.length ≤ 1000) :
    Calls Try.prog 35 #[v] w fun ee w' => ∃ v', ee = .returned v' ∧ Hid (w'.ownsRow w.heap.size 50 2 v' l.length (l.flatMap encE)) ∧ Hid (Chg NoB w w') := by
  have HV := hid hv
  obtain ⟨a, c, rfl, q1, q2, hr⟩ := hv
  unfold maxLen at q2
  cases a with
  | none =>
    have h0 : l = [] := by
      cases l with
      | nil => rfl
      | cons y l => obtain ⟨b, off, h, _⟩ := hr 0 y rfl; cases h
    subst h0
    have hnil : ∀ w, (binOp .eql 22 (.slice none 0 c) (.slice none 0 0)).run Try.prog w = .ok (.bool true) w := fun w => Lib.run_eql_slice_nil w _ _ none 0 c 0 0 Try.underlying22
    clear hr
    go_enter Try.func35, Try.ntmps35
    go_wp2_with fail
    go_ret
    exact ⟨_, rfl, hid (World.ownsRow_nil _ _ _ _), hid (Chg.refl _ _)⟩
  | some a =>
    have hnil : ∀ w, (binOp .eql 22 (.slice (some a) l.length c) (.slice none 0 0)).run Try.prog w = .ok (.bool false) w := fun w => Lib.run_eql_slice_nil w _ _ (some a) l.length c 0 0 Try.underlying22
    clear hr
    go_enter Try.func35, Try.ntmps35
    go_wp2_with (at_builtin; refine step_appO slE rfl _ _ rfl (n := 0) (xs := []) (base := w.heap.size) (v := .slice (some ⟨w.heap.size, 0, none⟩) 0 0) ⟨by simp, .inr ⟨w.heap.size, 0, _, rfl, Nat.le_refl _, blk_new _ _, Nat.le_refl _, by simp [maxLen], by simp, by simp⟩⟩ (by simp) rfl (enc := encE) (fun x => rfl) (fun x _ u hu => by simp [encE] at hu; rcases hu with rfl | rfl <;> rfl) (HV.out.keep ((Chg.refl NoB w).alloc _) (fun _ _ _ => nob)) rfl (by omega) (by unfold maxLen; omega) ?_; intro v5 w5 ho5 hc5 hn5)
    go_ret
    have hown : ∀ i, OwnB (.slice (some ⟨w.heap.size, 0, none⟩) 0 0) i → i = w.heap.size := fun i hi => by simpa [OwnB, Value.ownBlock, eq_comm] using hi
    refine ⟨_, rfl, hid ?_, hid (((Chg.refl NoB w).alloc _).new hc5 (fun i hi => by have := hown i hi; omega))⟩
    simpa using ho5

theorem EdW.sub {e e' : Edges} (h : EdW e) (hs : ∀ x ∈ e', x ∈ e) : EdW e' := fun z hz => by
  obtain ⟨p, hp, hz⟩ := nm_mem.1 hz
  exact h z (nm_mem.2 ⟨p, hs p hp, hz⟩)
theorem wo_sub {e : Edges} {n : Int} : ∀ x ∈ wo e n, x ∈ e := fun x hx => (List.mem_filter.1 hx).1
theorem maxOf_cons (c : Int) (cs : List Int) : Lib.maxOf (c :: cs) = maxL c cs := by
  unfold Lib.maxOf maxL
  first | rfl | simp

set_option maxRecDepth 100000 in
theorem victims_calls (w : World) (v : Value) (l : Edges) (hv : Rd w 2 encE v l) (hl : l.length ≤ 1000) (hw : EdW l) :
    Calls Try.prog 14 #[v] w fun ee w' => ∃ v', ee = .returned v' ∧ Hid (OwnL w w' v' (victims l)) ∧ Hid (Chg NoB w w') := by
  have HV := hid hv
  have HW := hid hw
  clear hv hw
  go_enter Try.func14, Try.ntmps14
  go_wp2_with (go_at_call 35; refine (clone_calls w v l HV.out hl).mono ?_; rintro ee w1 ⟨v1, rfl, ho1, hc1⟩)
  have hI0 : Hid (∃ (e : Edges) (out : List Int), e.length ≤ l.length ∧ (∀ x ∈ e, x ∈ l) ∧ OwnL w w1 (.slice none 0 0) out ∧ w1.ownsRow w.heap.size 50 2 v1 e.length (e.flatMap encE) ∧ victims l = out ++ victims e ∧ Chg NoB w w1 ∧ (∀ b, OwnB (.slice none 0 0) b → ¬ OwnB v1 b) ∧ out.length + e.length ≤ l.length) :=
    hid ⟨l, [], Nat.le_refl _, fun x hx => hx, ⟨World.ownsRow_nil _ _ _ _, fun _ => rfl⟩, ho1.out, rfl, hc1.out, fun b hb => by simp [OwnB, Value.ownBlock] at hb, by simp⟩
  clear ho1 hc1
  go_loopg [2, 3] l.length (fun k s2 s3 wr => Hid (∃ (e : Edges) (out : List Int), e.length ≤ k ∧ (∀ x ∈ e, x ∈ l) ∧ OwnL w wr s2 out ∧ wr.ownsRow w.heap.size 50 2 s3 e.length (e.flatMap encE) ∧ victims l = out ++ victims e ∧ Chg NoB w wr ∧ (∀ b, OwnB s2 b → ¬ OwnB s3 b) ∧ out.length + e.length ≤ l.length))
  case atStart => exact hI0
  case round =>
    clear hI0
    obtain ⟨e, out, hk, hs, hO, hE, hV, hC, hD, hN⟩ := hrel.out
    have HS := hid hs
    have HO := hid hO
    have HE := hid hE
    have HVI := hid hV
    have HC := hid hC
    have HD := hid hD
    obtain ⟨oa, oc, e1⟩ := ownsForm hO.1
    subst e1
    obtain ⟨ea, ec, e1⟩ := ownsForm hE
    subst e1
    have hel : e.length ≤ 1000 := by omega
    clear hrel hs hO hE hV hC hD
    cases hc : cyc e with
    | nil =>
      have HCY := hid hc
      have HFN : Hid (victims l = out) := hid (by rw [HVI.out, victims_nil hc, List.append_nil])
      clear hc
      have hnil : ∀ w, (binOp .eql 24 (.slice none 0 0) (.slice none 0 0)).run Try.prog w = .ok (.bool true) w := fun w => Lib.run_eql_slice_nil w _ _ none 0 0 0 0 Try.underlying24
      go_wp2_with (go_at_call 12; refine (cycle_calls wr _ e (Rd.of_own (enc := encE) (size := 2) (fun _ => rfl) HE.out) hel (HW.out.sub HS.out)).mono ?_; rintro ee w2 ⟨v2, rfl, h2, hc2⟩; obtain rfl := h2.out.2 HCY.out)
      go_ret
      exact ⟨_, rfl, hid (by rw [HFN.out]; exact ⟨ownsRow.chg HO.out.1 hc2.out (fun _ _ => nob), HO.out.2⟩), hid (HC.out.trans' hc2.out)⟩
    | cons c cs =>
      have HCY := hid hc
      obtain ⟨n, hn⟩ := named (maxL c cs)
      have HFN : Hid (victims e = n :: victims (wo e n)) := hid (by rw [victims_cons hc, hn.out])
      have hlt := wo_lt hc
      rw [← hn.out] at hlt
      have hcl : (cyc e).length ≤ 2001 := by
        unfold cyc
        cases hff : (nm e).find? (fun n => dst e n n != 0) with
        | none => simp
        | some x =>
          have := List.find?_some hff
          simp at this
          have h9 := (dst_pos (e := e) (a := x) (b := x) (by omega)).2
          have := nm_len e
          simp [cgo_len]; omega
      have HCL := hid hcl
      clear hc hcl
      have hnil : ∀ g n c w, (binOp .eql 24 (.slice (some g) n c) (.slice none 0 0)).run Try.prog w = .ok (.bool false) w := fun g n c w => Lib.run_eql_slice_nil w _ _ (some g) n c 0 0 Try.underlying24
      go_upto_region 5 with (go_at_call 12; refine (cycle_calls wr _ e (Rd.of_own (enc := encE) (size := 2) (fun _ => rfl) HE.out) hel (HW.out.sub HS.out)).mono ?_; rintro ee w2 ⟨v2, rfl, h2, hc2⟩; obtain ⟨g2, k2, e2⟩ := nsl_ne h2.out.1 (by rw [HCY.out]; simp); subst e2)
      have HO2 := hid h2.out.1
      obtain ⟨_, _, e3, m1, m2, hr3⟩ := Rd.ints_of HO2.out
      cases e3
      have HMX : Hid (Lib.maxOf ((cyc e).take (cyc e).length) = n) := hid (by rw [List.take_length, HCY.out, maxOf_cons, hn.out])
      have HMC : Hid (∀ j, j < (cyc e).length → w2.cell? ⟨g2, 0 + j, none⟩ = some (.int .i64 ((cyc e).getD j 0))) := hid (fun j hj => by
        obtain ⟨b, off, e4, h5⟩ := hr3 j _ (List.getElem?_eq_getElem hj)
        cases e4
        have := h5 0 _ rfl
        rw [List.getD_eq_getElem?_getD, List.getElem?_eq_getElem hj]
        simpa using this)
      have HC2 := hid (HC.out.trans' hc2.out)
      have HOw := hid (ownsRow.chg HO.out.1 hc2.out (fun _ _ => nob))
      have HEw := hid (ownsRow.chg HE.out hc2.out (fun _ _ => nob))
      have hlen0 : 0 < (cyc e).length := by rw [HCY.out]; simp
      have HL0 := hid hlen0
      unfold maxLen at m2
      clear hr3 h2 hc2 hlen0
      go_upto_region 6 with (go_at_call 36; refine (AnyG.slices_Max_int Try.maxA g2 0 (cyc e).length k2 (cyc e) w2 HL0.out (Nat.le_refl _) m2 HMC.out).mono ?_; rintro ee w3 ⟨rfl, rfl⟩; rw [HMX.out])
      obtain ⟨nb, hnb⟩ := named w3.heap.size
      have hne : Hid (¬ OwnB (.slice ea e.length ec) nb ∧ ¬ OwnB (.slice oa out.length oc) nb) := hid ⟨fun h => by have := (OwnB.ge HEw.out _ h).2; rw [hnb.out] at this; omega, fun h => by have := (OwnB.ge HOw.out _ h).2; rw [hnb.out] at this; omega⟩
      have HNC : Hid ((w3.alloc (.cells #[.int .i64 n] 3)).cell? ⟨nb, 0, none⟩ = some (.int .i64 n)) := hid (by rw [hnb.out, cell_blk (blk_new _ _)]; rfl)
      have HOx := hid (World.ownsRow.alloc HOw.out (.cells #[.int .i64 n] 3))
      have HEx := hid (World.ownsRow.alloc HEw.out (.cells #[.int .i64 n] 3))
      have HCx := hid (HC2.out.alloc (.cells #[.int .i64 n] 3))
      refine wp_gen (fun W => W = w3.alloc (.cells #[.int .i64 n] 3)) rfl ?_
      intro W hW
      have hzW : nb < W.heap.size := by rw [hW, hnb.out]; simp
      rw [← hW] at HNC HOx HEx HCx
      rw [← hnb.out]
      have hnc := HNC.out
      clear hW
      go_wp2_with (first
        | (at_builtin; refine step_app1 slInt rfl _ _ rfl (World.ownsRow.alloc HOx.out _) rfl W.heap.size [.int .i64 n] rfl (blk_new _ _) rfl rfl (by simp [Value.oneCell']) (by omega) (by unfold maxLen; omega) (by have := HCx.out.size; simp; omega) ?_; intro v5 w5 hv5 hc5 hn5 hnil5; have HC5 : Hid (Chg (OwnB (.slice oa out.length oc)) W w5) := hid (((Chg.refl (OwnB (.slice oa out.length oc)) W).alloc _).trans' hc5); have HN5 : Hid (∀ i, OwnB v5 i → OwnB (.slice oa out.length oc) i ∨ W.heap.size ≤ i) := hid (fun i hi => (hn5 i hi).elim .inl (fun h => by simp at h; right; omega)))
        | (go_at_call 37; refine (del_calls w5 w.heap.size _ e (ownsRow.chg HEx.out HC5.out (fun i hi h => HD.out i h hi)) hel nb n (HC5.out.cell HNC.out (fun h => hne.out.2 h)) hne.out.1).mono ?_; rintro ee w6 ⟨v6, rfl, ho6, hc6, hn6⟩))
      have hlt2 := hid hlt
      go_roundg (wo e n).length
      case measure => have := hlt2.out; omega
      case rel =>
        have h5b : ∀ i, OwnB v5 i → ¬ OwnB (.slice ea e.length ec) i := fun i hi he => (HN5.out i hi).elim (fun h => HD.out i h he) (fun h => by have := (OwnB.ge HEx.out i he).2; omega)
        refine hid ⟨wo e n, out ++ [n], Nat.le_refl _, fun x hx => HS.out x (wo_sub x hx), ⟨?_, fun h => by simp at h⟩, ho6.out, by rw [HVI.out, HFN.out]; simp, ?_, fun b hb hb2 => h5b b hb (hn6.out b hb2), by have := hlt2.out; simp; omega⟩
        · have := ownsRow.chg hv5 hc6.out h5b
          simpa using this
        · exact (HCx.out.new HC5.out (fun i hi => (OwnB.ge HOx.out i hi).1)).new hc6.out (fun i hi => (OwnB.ge HEx.out i hi).1)
end Go.Proofs.Ytlhblkpdfdpiaaa.Wt
