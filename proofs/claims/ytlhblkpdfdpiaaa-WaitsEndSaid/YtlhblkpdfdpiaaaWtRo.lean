import Derived.Test.YtlhblkpdfdpiaaaWtRv
namespace Go.Proofs.Ytlhblkpdfdpiaaa.Wt
open Go.RowKit Go.ChangeMaps Go.MapKept
set_option linter.unusedVariables false
set_option linter.unusedSimpArgs false
set_option linter.unnecessarySimpa false
set_option maxHeartbeats 16000000

/-- Those that are left. -/
def lft (e : Edges) (out : List Int) : List Int := (nm e).filter fun x => !out.contains x
def fr (e : Edges) (out : List Int) (n : Int) : Bool := !out.contains n && !(e.any fun x => x.1 == n && !out.contains x.2)
theorem fr_lft {e : Edges} {out : List Int} {n : Int} : (!(e.any fun x => x.1 == n && !out.contains x.2)) = fre e (lft e out) n := by
  unfold fre
  congr 1
  rw [Bool.eq_iff_iff, List.any_eq_true, List.any_eq_true]
  constructor
  · rintro ⟨⟨a, b⟩, h1, h2⟩
    simp only [Bool.and_eq_true] at h2
    refine ⟨(a, b), h1, ?_⟩
    simp only [Bool.and_eq_true, List.contains_iff_mem]
    refine ⟨h2.1, ?_⟩
    unfold lft
    rw [List.mem_filter]
    exact ⟨nm_snd h1, h2.2⟩
  · rintro ⟨⟨a, b⟩, h1, h2⟩
    simp only [Bool.and_eq_true, List.contains_iff_mem] at h2
    refine ⟨(a, b), h1, ?_⟩
    simp only [Bool.and_eq_true]
    refine ⟨h2.1, ?_⟩
    have := h2.2
    unfold lft at this
    rw [List.mem_filter] at this
    exact this.2
theorem lft_find {e : Edges} {out : List Int} {i : Nat} {n : Int} (hi : (nm e)[i]? = some n) (hf : fr e out n = true) (hno : ∀ j, j < i → ∀ x, (nm e)[j]? = some x → fr e out x = false) : (lft e out).find? (fre e (lft e out)) = some n := by
  unfold lft
  rw [List.find?_filter]
  have h1 : (nm e).find? (fun a => !out.contains a && fre e ((nm e).filter fun x => !out.contains x) a) = some n := by
    rw [List.find?_eq_some_iff_getElem]
    obtain ⟨h1, h2⟩ := List.getElem?_eq_some_iff.1 hi
    have key : ∀ x, (!out.contains x && fre e ((nm e).filter fun x => !out.contains x) x) = fr e out x := fun x => by
      have := fr_lft (e := e) (out := out) (n := x)
      unfold lft at this
      unfold fr
      rw [this]
    refine ⟨by rw [key]; exact hf, i, h1, h2, fun j hj => ?_⟩
    rw [key, hno j hj _ (List.getElem?_eq_getElem (by omega))]; rfl
  rw [← h1]
  congr 1
  funext x
  cases out.contains x <;> simp
theorem lft_erase {e : Edges} {out : List Int} {n : Int} : (lft e out).erase n = lft e (out ++ [n]) := by
  unfold lft
  have hn : ((nm e).filter fun x => !out.contains x).Nodup := (srt_nodup (nm_srt e)).filter _
  rw [hn.erase_eq_filter, List.filter_filter]
  refine List.filter_congr fun x _ => ?_
  simp only [List.contains_eq_any_beq, List.any_append, List.any_cons, List.any_nil, Bool.or_false]
  cases out.any fun y => x == y <;> cases h : x == n <;> simp [bne, h]
theorem lft_len {e : Edges} {out : List Int} (hn : out.Nodup) (hs : ∀ x ∈ out, x ∈ nm e) : (lft e out).length + out.length = (nm e).length := by
  have h1 : ((nm e).filter fun x => out.contains x).Perm out := perm_of_mem ((srt_nodup (nm_srt e)).filter _) hn fun z => by
    rw [List.mem_filter]
    simp only [List.contains_iff_mem]
    exact ⟨fun h => h.2, fun h => ⟨hs z h, h⟩⟩
  have h2 := h1.length_eq
  unfold lft
  have h3 : ∀ l : List Int, (l.filter fun x => !out.contains x).length + (l.filter fun x => out.contains x).length = l.length := by
    intro l
    induction l with
    | nil => rfl
    | cons x l ih =>
      rw [List.filter_cons, List.filter_cons]
      cases h : out.contains x <;> simp only [h, Bool.not_true, Bool.not_false, Bool.false_eq_true, if_true, if_false, List.length_cons] <;> omega
  have := h3 (nm e)
  omega
theorem og_lft {e : Edges} {out : List Int} {n : Int} (hf : (lft e out).find? (fre e (lft e out)) = some n) : og e (lft e out).length (lft e out) = n :: og e (lft e (out ++ [n])).length (lft e (out ++ [n])) := by
  have hm := List.mem_of_find?_eq_some hf
  have hl := List.length_erase_of_mem hm
  have hp := List.length_pos_of_mem hm
  rw [lft_erase] at hl
  obtain ⟨f, hfl⟩ : ∃ f, (lft e out).length = f + 1 := ⟨(lft e out).length - 1, by omega⟩
  have e2 : (lft e (out ++ [n])).length = f := by omega
  rw [hfl, e2]
  simp only [og, hf]
  rw [lft_erase]
/-- Of the first edges. -/
def anyE (e : Edges) (out : List Int) (n : Int) (k : Nat) : Bool := (e.take k).any fun x => x.1 == n && !out.contains x.2
theorem anyE_succ {e : Edges} {out : List Int} {n : Int} {k : Nat} {x : Int × Int} (hx : e[k]? = some x) : anyE e out n (k + 1) = (anyE e out n k || (x.1 == n && !out.contains x.2)) := by
  obtain ⟨h1, h2⟩ := List.getElem?_eq_some_iff.1 hx
  unfold anyE
  rw [List.take_succ_eq_append_getElem h1, List.any_append, h2]
  simp

set_option maxRecDepth 100000 in
theorem rord_calls (w : World) (v : Value) (e : Edges) (hv : Rd w 2 encE v e) (he : e.length ≤ 1000) (hc : cyc e = []) :
    Calls Try.prog 10 #[v] w fun ee w' => ∃ v', ee = .returned (.tuple #[v', .bool true]) ∧ Hid (OwnL w w' v' (ord e)) ∧ Hid (Chg NoB w w') := by
  have HV := hid hv
  have HCY := hid hc
  have hnl := nm_len e
  obtain ⟨ea, ec, rfl, q1, q2, hr⟩ := hv
  unfold maxLen at q2
  have HR := hid hr
  clear hc hr
  go_enter Try.func10, Try.ntmps10
  go_upto_region 2 with (go_at_call 30; refine (rnames_calls w _ e HV.out he).mono ?_; rintro ee w1 ⟨lv, rfl, hL⟩)
  have HC1 := hid hL.out.chg
  have HLR := hid hL.out.rd
  obtain ⟨la, lc, e1, l1, l2, l3⟩ := hL.out.rd
  subst e1
  have HL3 := hid l3
  unfold maxLen at l2
  clear hL l3
  go_wp2_with (go_at_call 13; refine (rcyc_calls w1 _ e (HV.out.keep HC1.out (fun _ _ _ => nob)) he).mono ?_; rintro ee w2 ⟨v2, rfl, h2, hc2⟩; obtain rfl := h2.out.2 HCY.out)
  have HC2 := hid (HC1.out.trans' hc2.out)
  have HC12 := hid hc2.out
  clear h2 hc2
  go_loopg [5] (nm e).length (fun g s5 wr => ∃ out : List Int, (nm e).length ≤ g + out.length ∧ Hid (wr.ownsRow w2.heap.size 3 1 s5 out.length (out.map (Value.int .i64)) ∧ (out = [] → s5 = .slice none 0 0) ∧ out.Nodup ∧ (∀ x ∈ out, x ∈ nm e) ∧ ord e = out ++ og e (lft e out).length (lft e out) ∧ Chg NoB w2 wr))
  case atStart => exact ⟨[], by simp, hid ⟨World.ownsRow_nil _ _ _ _, fun _ => rfl, List.nodup_nil, by simp, by
    have : lft e [] = nm e := by unfold lft; simp
    rw [this]; rfl, Chg.refl _ _⟩⟩
  case round =>
    obtain ⟨out, hk, hI⟩ := hrel
    rename World => wq
    obtain ⟨hO, hO0, hN, hS, hOr, hC⟩ := hI.out
    have HO := hid hO
    have HO0 := hid hO0
    have HN := hid hN
    have HS := hid hS
    have HOR := hid hOr
    have HC := hid hC
    have HLEN := hid (lft_len hN hS)
    obtain ⟨oa, oc, e1⟩ := ownsForm hO
    subst e1
    have hoL : out.length ≤ (nm e).length := by have := HLEN.out; omega
    clear hI hO hO0 hN hS hOr hC
    by_cases hlt : out.length < (nm e).length
    · have hll : (out.length : Int) < ((nm e).length : Int) := by omega
      go_wp2_with fail
      go_loopw [5, 6] (fun s5 s6 wr => ∃ i : Nat, i ≤ (nm e).length ∧ s6 = .int .i64 i ∧ s5 = .slice oa out.length oc ∧ Hid (Chg NoB wq wr ∧ ∀ j, j < i → ∀ x, (nm e)[j]? = some x → fr e out x = false)) (fun _ i _ => (nm e).length - (intOf i).toNat)
      case atStart => exact ⟨0, by omega, rfl, rfl, hid ⟨Chg.refl _ _, fun j hj => by omega⟩⟩
      case round =>
        obtain ⟨i, hi, rfl, rfl, hJ⟩ := hrel
        rename World => wi
        by_cases hil : i < (nm e).length
        · obtain ⟨n, hn⟩ := named (nm e)[i]
          have HNI : Hid ((nm e)[i]? = some n) := hid (by rw [List.getElem?_eq_getElem hil, hn.out])
          obtain ⟨lb, lo, hab, h5⟩ := HL3.out i n HNI.out
          subst hab
          have HCI := hid (HC.out.trans' hJ.out.1)
          have h5 := HCI.out.cell (HC12.out.cell (h5 0 _ rfl) nob) nob
          simp only [Nat.add_zero, Nat.mul_one] at h5
          have H5 := hid h5
          have HRD := hid (Rd.ints_of (ownsRow.chg HO.out hJ.out.1 (fun _ _ => nob)))
          obtain ⟨f0, hf0⟩ := named (out.contains n)
          have hi0 : (0 : Int) ≤ (i : Int) := by omega
          have hi1 : (i : Int) < ((nm e).length : Int) := by omega
          go_wp2_with (go_at_call 31; refine (has_calls wi _ out HRD.out n f0 hf0).mono ?_; rintro ee w5 ⟨rfl, rfl⟩)
          clear h5
          go_loopw [7, 8] (fun s7 s8 wr => ∃ (k : Nat) (f : Bool), k ≤ e.length ∧ s8 = .int .i64 k ∧ s7 = .bool f ∧ Hid (f = (!f0 && !anyE e out n k)) ∧ Hid (Chg NoB wi wr)) (fun _ k _ => e.length - (intOf k).toNat)
          case atStart => exact ⟨0, !f0, by omega, rfl, rfl, hid (by simp [anyE]), hid (Chg.refl _ _)⟩
          case round =>
            obtain ⟨k, f, hk2, rfl, rfl, hF, hCk⟩ := hrel
            by_cases hkl : k < e.length
            · obtain ⟨⟨x, y⟩, hxy⟩ := named e[k]
              have HXY : Hid (e[k]? = some (x, y)) := hid (by rw [List.getElem?_eq_getElem hkl, hxy.out])
              have HCW := hid ((HC2.out.trans' HCI.out).trans' hCk.out)
              obtain ⟨eb, eo, hab, h6⟩ := Rd.cells HR.out HCW.out k hkl
              rw [← hxy.out] at h6
              subst hab
              have g0 := h6 0 _ rfl
              have g1 := h6 1 _ rfl
              simp only [Nat.add_zero] at g0
              have g5 := hCk.out.cell H5.out nob
              have hk0 : (0 : Int) ≤ (k : Int) := by omega
              have hk1 : (k : Int) < (e.length : Int) := by omega
              obtain ⟨hb, hhb⟩ := named (out.contains y)
              have HQ : Hid (∀ q, Rd (wr.drewN q) 1 encI (.slice oa out.length oc) out) := hid (fun q => HRD.out.keep (hCk.out.drewN q) (fun _ _ _ => nob))
              have hAN : anyE e out n (k + 1) = (anyE e out n k || (x == n && !hb)) := by rw [anyE_succ HXY.out, hhb.out]
              have HAN := hid hAN
              clear h6 hAN
              cases hxn : x == n
              · have HF2 : Hid (f = (!f0 && !anyE e out n (k + 1))) := hid (by rw [HAN.out, hxn, hF.out]; simp)
                have HXN := hid hxn
                go_wp2_with fail
                go_quiet (fail)
                clear g0 g1 g5 hxn
                go_wp2_with fail
                go_roundw
                case rel => exact ⟨k + 1, f, by omega, by go_num, rfl, HF2, hid (hCk.out.drewN _)⟩
                case measure => simp [intOf]; omega
              · cases hb
                · have HF2 : Hid (false = (!f0 && !anyE e out n (k + 1))) := hid (by rw [HAN.out, hxn]; simp)
                  go_wp2_with fail
                  go_quiet ((go_at_call 31; exact (has_calls _ _ out (HQ.out _) y false hhb).mono fun ee w'' hx => ⟨hx.1, _, hx.2.symm⟩))
                  clear g0 g1 g5 hxn
                  go_wp2_with fail
                  go_roundw
                  case rel => exact ⟨k + 1, false, by omega, by go_num, rfl, HF2, hid (hCk.out.drewN _)⟩
                  case measure => simp [intOf]; omega
                · have HF2 : Hid (f = (!f0 && !anyE e out n (k + 1))) := hid (by rw [HAN.out, hxn, hF.out]; simp)
                  go_wp2_with fail
                  go_quiet ((go_at_call 31; exact (has_calls _ _ out (HQ.out _) y true hhb).mono fun ee w'' hx => ⟨hx.1, _, hx.2.symm⟩))
                  clear g0 g1 g5 hxn
                  go_wp2_with fail
                  go_roundw
                  case rel => exact ⟨k + 1, f, by omega, by go_num, rfl, HF2, hid (hCk.out.drewN _)⟩
                  case measure => simp [intOf]; omega
            · obtain rfl : e.length = k := by omega
              have HFR : Hid (f = fr e out n) := hid (by rw [hF.out, hf0.out]; unfold anyE fr; rw [List.take_length])
              cases f
              · have HNX : Hid (∀ j, j < i + 1 → ∀ x, (nm e)[j]? = some x → fr e out x = false) := hid (fun j hj x hx => by
                  rcases Nat.lt_or_ge j i with h3 | h3
                  · exact hJ.out.2 j h3 x hx
                  · obtain rfl : j = i := by omega
                    rw [HNI.out] at hx; cases hx; exact HFR.out.symm)
                go_wp2_with fail
                go_roundw
                case rel => exact ⟨i + 1, by omega, by go_num, rfl, hid ⟨hJ.out.1.trans' hCk.out, HNX.out⟩⟩
                case measure => simp [intOf]; omega
              · have HFI := hid (lft_find HNI.out HFR.out.symm hJ.out.2)
                have HOG := hid (og_lft HFI.out)
                have HNE : Hid (n ∉ out) := hid (fun h => by
                  have := HFR.out
                  unfold fr at this
                  have h2 : out.contains n = true := by simpa using h
                  rw [h2] at this
                  simp at this)
                have HCW := hid (hJ.out.1.trans' hCk.out)
                have g5 := hCk.out.cell H5.out nob
                have g6 := ((Chg.refl NoB wr).alloc (.cells #[.int .i64 n] 3)).cell g5 nob
                have hzz := HC.out.size
                have hzy := HCW.out.size
                go_wp2_with (at_builtin; refine step_app1 slInt rfl _ _ rfl (World.ownsRow.alloc (ownsRow.chg HO.out HCW.out (fun _ _ => nob)) _) rfl wr.heap.size [.int .i64 n] rfl (blk_new _ _) rfl rfl (by simp [Value.oneCell']) (by omega) (by unfold maxLen; omega) (by simp; omega) ?_; intro v5 w5 hv5 hc5 hn5 hnil)
                have HV5 := hid hv5
                have HC5 : Hid (Chg (OwnB (.slice oa out.length oc)) wq w5) := hid (((HCW.out.mono (T := OwnB (.slice oa out.length oc)) (fun _ h => h.elim)).alloc _).trans' hc5)
                clear g5 g6 hv5 hc5 hn5 hnil
                go_roundg ((nm e).length - (out ++ [n]).length)
                case measure => simp; omega
                case rel =>
                  refine ⟨out ++ [n], by simp; omega, hid ⟨by simpa using HV5.out, fun h => by simp at h, ?_, fun x hx => ?_, ?_, HC.out.new HC5.out (fun i hi => (OwnB.ge HO.out i hi).1)⟩⟩
                  · rw [List.nodup_append]
                    exact ⟨HN.out, by simp, fun a ha b hb => by simp at hb; subst hb; exact fun e1 => HNE.out (e1 ▸ ha)⟩
                  · rcases List.mem_append.1 hx with hx | hx
                    · exact HS.out x hx
                    · obtain rfl := List.mem_singleton.1 hx
                      exact List.mem_of_getElem? HNI.out
                  · rw [HOR.out, HOG.out]; simp
        · exfalso
          obtain rfl : (nm e).length = i := by omega
          have hne : lft e out ≠ [] := by intro h; have := HLEN.out; rw [h] at this; simp at this; omega
          obtain ⟨n0, h1, h2⟩ := fre_some HCY.out hne
          have h3 : n0 ∈ nm e ∧ (!out.contains n0) = true := by
            have := h1
            unfold lft at this
            exact List.mem_filter.1 this
          obtain ⟨j, hj, he2⟩ := List.getElem_of_mem h3.1
          have h4 := hJ.out.2 j hj n0 (by rw [List.getElem?_eq_getElem hj, he2])
          unfold fr at h4
          rw [fr_lft, h2, h3.2] at h4
          simp at h4
    · have hll : ¬ (out.length : Int) < ((nm e).length : Int) := by omega
      have HFN : Hid (ord e = out) := hid (by
        have h0 : (lft e out).length = 0 := by have := HLEN.out; omega
        rw [HOR.out, h0]; simp [og])
      go_wp2_with fail
      go_ret2
      refine ⟨_, rfl, hid ⟨?_, fun h => HO0.out (HFN.out.symm.trans h)⟩, hid (HC2.out.trans' HC.out)⟩
      rw [HFN.out]
      obtain ⟨r1, r2⟩ := HO.out
      refine ⟨r1, r2.imp id ?_⟩
      rintro ⟨g, cap, cur, e4, h6, h7⟩
      exact ⟨g, cap, cur, e4, Nat.le_trans HC2.out.size h6, h7⟩
end Go.Proofs.Ytlhblkpdfdpiaaa.Wt
