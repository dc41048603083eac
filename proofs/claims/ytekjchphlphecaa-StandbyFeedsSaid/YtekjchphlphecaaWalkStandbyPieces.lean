import Derived.Test.YtekjchphlphecaaSb26
namespace Go.Proofs.Ytekjchphlphecaa
open Go.RowKit Go.ChangeMaps Go.MapKept
set_option linter.unusedVariables false
set_option linter.unusedSimpArgs false
set_option linter.unnecessarySimpa false
set_option maxHeartbeats 8000000

/-- A byte's one cell. -/
def encU8 (x : Int) (cs : List Value) : Prop := cs = [.int .u8 x] ∧ (Lit.int .u8 x).wf = true
theorem opens_bytes (w : World) : Opens Try.prog w 60 (fun (l : List Int) cs => ∃ v, cs = [v] ∧ RdR w 1 encU8 v l) :=
  opens_slice (size := 1) Try.underlying60 (by kernel_rfl) (by decide) (opens_int (w := w) Try.underlying5)

set_option maxRecDepth 100000 in
theorem standbyPieces_walk (w : World) (a0 : Int) (wa0 : (Lit.int .i64 a0).wf = true) (vl : Value) (l : List Ent) (hvl : Ents w vl l) (vc : Value) (cu : List Int) (hvc : RdR w 1 encU8 vc cu) :
    Calls Try.prog 4 #[.int .i64 a0, vl, vc] w fun e w' => e = .returned (.bool true) ∧ Chg NoB w w' := by
  obtain ⟨al, cl, rfl, hl1, hl2, hl3⟩ : ∃ a c, vl = .slice a l.length c ∧ l.length ≤ c ∧ l.length ≤ maxLen ∧ Ents w (.slice a l.length c) l := by
    obtain ⟨a, c, e, h1, h2, h3⟩ := hvl
    exact ⟨a, c, e, h1, h2, a, c, rfl, h1, h2, h3⟩
  have HVL := hid hl3
  obtain ⟨ac, cc, rfl, hc1, hc2, hc3⟩ := hvc
  have HVC := hid hc3
  unfold maxLen at hl2 hc2
  clear hvl hl3 hc3
  obtain ⟨n, hn, h1, h8⟩ := pagesN a0
  obtain ⟨f1, hf1⟩ := named (entsFew l)
  obtain ⟨ri, hri⟩ := named (risesB l)
  obtain ⟨lc, hlc⟩ := named (decide (30 < cu.length))
  have HN := hid hn
  clear hn
  go_enter Try.func4, Try.ntmps4
  go_upto_region 2 with fail
  rw [HN.out]
  go_upto_region 3 with (go_at_call 7; refine (new_ok n h1 h8 _).mono ?_; rintro e w1 ⟨pa, ga, ra, rfl, hA, hc⟩)
  go_upto_region 4 with (go_at_call 7; refine (new_ok n h1 h8 _).mono ?_; rintro e w2 ⟨pb, gb, rb, rfl, hB, hd⟩)
  have hT0 : Hid (TwoI w w2 pa ga ra (.slice none 0 0) (sNew n) pb gb rb (.slice none 0 0) (sNew n)) := hid ⟨hA.out.keep0 hd.out, hB.out.base rfl hc.out.size, fun k h3 h4 => by have := hA.out.fpl k h3; have := hB.out.fp k h4; omega, hc.out.trans' hd.out⟩
  clear hA hB hc hd
  by_cases hall : f1 = true ∧ ri = true ∧ lc = false
  · obtain ⟨rfl, rfl, rfl⟩ := hall
    have h200 := few_200 hf1.out
    have hok := hid (okk_of HVL.out hf1.out)
    have h30 : ¬ (30 < cu.length) := by have := hlc.out; simpa using this
    have h30i : ¬ ((30 : Int) < (cu.length : Int)) := by omega
    go_upto_region 6 with (first
      | (go_at_call 8; refine (awake _).mono ?_; rintro e w3 ⟨rfl, c3⟩; have hT := hid (hT0.out.keep c3))
      | (go_at_call 9; with_reducible refine (entsFew_calls _ l _ (HVL.out.mono hT.out.chg) _ hf1).mono ?_; rintro e w4 ⟨rfl, c4⟩; have hT := hid (hT.out.keep c4))
      | (go_at_call 23; refine (rises_calls _ l _ (HVL.out.mono hT.out.chg) _ hri).mono ?_; rintro e w5 ⟨rfl, q9, rfl⟩; have hT := hid (hT.out.keep ((Chg.refl NoB _).drewN q9))))
    have hs0 : Hid (upTo (sNew n) l 0 = sNew n) := hid rfl
    clear hT0
    go_wp2_with fail
    go_loopw [71] (fun i wr => ∃ (k m : Nat) (la : Value), k ≤ cu.length ∧ m ≤ l.length ∧ i = .int .i64 k ∧ Hid (TwoI w wr pa ga ra la (upTo (sNew n) l m) pb gb rb (.slice none 0 0) (sNew n))) (fun i _ => cu.length - (intOf i).toNat)
    case atStart => exact ⟨0, 0, _, by omega, by omega, rfl, hT⟩
    case round =>
      obtain ⟨k, m, la, hk, hm, rfl, hJ⟩ := hrel
      clear hT
      by_cases hlt : k < cu.length
      · obtain ⟨cs, cb, co, ⟨rfl, hwf⟩, _, rfl, hcell⟩ := HVC.out k _ (List.getElem?_eq_getElem hlt)
        obtain ⟨x, hx⟩ := named cu[k]
        rw [← hx.out] at hcell hwf
        have x0 : wr.cell? ⟨cb, co + k, none⟩ = some (.int .u8 x) := hJ.out.chg.cell (by simpa using hcell 0 _ rfl) nob
        have hx0 : 0 ≤ x ∧ x ≤ 255 := by simp [Lit.wf, IntKind.min, IntKind.max, IntKind.signed, IntKind.bits] at hwf; omega
        have hw1 : IntKind.i64.wrap ((l.length : Int) + 1) = (l.length : Int) + 1 := by rw [IntKind.wrap_i64]; omega
        have hne : ¬ ((l.length : Int) + 1 = 0) := by omega
        clear hcell hwf
        go_upto_region 10 with fail
        obtain ⟨q, hq, hql⟩ : ∃ q : Nat, x % ((l.length : Int) + 1) = (q : Int) ∧ q ≤ l.length := by
          have g1 := Int.emod_nonneg x (show (l.length : Int) + 1 ≠ 0 by omega)
          have g2 := Int.emod_lt_of_pos x (show 0 < (l.length : Int) + 1 by omega)
          exact ⟨(x % ((l.length : Int) + 1)).toNat, by omega, by omega⟩
        rw [hq]
        have hqc : (q : Int) ≤ (cl : Int) := by omega
        have hq0 : (0 : Int) ≤ (q : Int) := by omega
        have hft := feed_take (s := sNew n) hri.out.symm m q
        have hFE : Hid (((sFeed (upTo (sNew n) l m) (l.take q)).1, (0 : Int), upTo (sNew n) l (max m q)) = sFeed (upTo (sNew n) l m) (l.take q)) := hid (by rw [← hft])
        have hul := upTo_len (sNew n) l m
        have hsz : (sNew n).L.length = 0 := rfl
        obtain ⟨nn, hnn⟩ := named (sFeed (upTo (sNew n) l m) (l.take q)).1
        rw [← hnn.out] at hFE
        have htl : (l.take q).length ≤ l.length := by rw [List.length_take]; omega
        have hokq : Hid (∀ y ∈ l.take q, y.r.okk) := hid (fun y hy => hok.out y (List.mem_of_mem_take hy))
        have HQ := hid (HVL.out.take q hql)
        have hbd : (upTo (sNew n) l m).L.length + (l.take q).length ≤ 1000000 := by omega
        clear hft hq x0 hne hw1 hul hsz htl
        go_upto_region 11 with (go_at_call 11; refine (hJ.out.feed HQ.out hokq.out hbd nn 0 _ hFE).mono ?_; rintro e w8 ⟨rfl, la8, hK⟩)
        go_wp2_with fail
        go_roundw
        case rel => exact ⟨k + 1, max m q, la8, by omega, by omega, by go_num, hK⟩
        case measure => simp [intOf]; omega
      · obtain rfl : k = cu.length := by omega
        obtain ⟨sF, hsF⟩ := named (upTo (sNew n) l l.length)
        have hFa : Hid (((sFeed (upTo (sNew n) l m) l).1, (0 : Int), sF) = sFeed (upTo (sNew n) l m) l) := hid (by
          have := feed_take (s := sNew n) hri.out.symm m l.length
          rw [List.take_length, Nat.max_eq_right hm, ← hsF.out] at this
          rw [← this])
        have hFb : Hid (((sFeed (sNew n) l).1, (0 : Int), sF) = sFeed (sNew n) l) := hid (by
          have := feed_take (s := sNew n) hri.out.symm 0 l.length
          rw [List.take_length, Nat.max_eq_right (Nat.zero_le _), ← hsF.out] at this
          have e0 : upTo (sNew n) l 0 = sNew n := rfl
          rw [e0] at this
          rw [← this])
        have hfits : ∀ x ∈ l, x.r.okk ∧ fits x.at_ := fun x hx => by
          refine ⟨hok.out x hx, ?_⟩
          obtain ⟨i, hi⟩ := List.getElem?_of_mem hx
          obtain ⟨_, _, _, _, _, h9⟩ := HVL.out
          obtain ⟨cs, b, off, ⟨v1, v2, _, _, _, hf⟩, _⟩ := h9 i x hi
          exact hf
        have HINV : Hid (SInv sF) := hid (by
          have h9 := (SInv.new n).feed hfits
          rw [← hFb.out] at h9
          exact h9)
        have hFl : sF.L.length ≤ 200 := by
          have := upTo_len (sNew n) l l.length
          rw [← hsF.out] at this
          have hsz : (sNew n).L.length = 0 := rfl
          omega
        have hFp : sF.pg.length = n := by
          have h9 := sFeed_pg (sNew n) l
          rw [← hFb.out] at h9
          simpa [sNew] using h9
        have hFp1 : 1 ≤ sF.pg.length := by omega
        have hb1 : (upTo (sNew n) l m).L.length + l.length ≤ 1000000 := by
          have := upTo_len (sNew n) l m
          have hsz : (sNew n).L.length = 0 := rfl
          omega
        have hb2 : (sNew n).L.length + l.length ≤ 1000000 := by
          have hsz : (sNew n).L.length = 0 := rfl
          omega
        obtain ⟨na, hna⟩ := named (sFeed (upTo (sNew n) l m) l).1
        obtain ⟨nb, hnb⟩ := named (sFeed (sNew n) l).1
        rw [← hna.out] at hFa
        rw [← hnb.out] at hFb
        obtain ⟨pr, hpr⟩ := named (promOf sF.L (rowsS sF.L) sF.pg)
        obtain ⟨ks, hks⟩ := named (((rowsS sF.L).map (·.1)).foldl insI [])
        obtain ⟨up, hup⟩ := named (sUpto sF.L)
        clear hfits hFp hlt hk
        go_upto_region 15 with (go_at_call 11; refine (hJ.out.feed HVL.out hok.out hb1 na 0 _ hFa).mono ?_; rintro e w8 ⟨rfl, la8, hK⟩)
        have HB := hid hK.out.swap
        go_upto_region 16 with (go_at_call 11; refine (HB.out.feed HVL.out hok.out hb2 nb 0 _ hFb).mono ?_; rintro e w9 ⟨rfl, lb9, hL⟩)
        have HT := hid hL.out.swap
        clear hJ hK HB hL
        go_upto_region 17 with (go_at_call 18; refine (promS_calls w pa ga ra la8 sF _ HT.out.a HINV.out hFp1 (by omega) pr hpr).mono ?_; rintro e wa ⟨a1, d1, rfl, hr1, hz1⟩)
        have HT1 := hid (HT.out.keep hz1.out)
        go_upto_region 18 with (go_at_call 18; refine (promS_calls w pb gb rb lb9 sF _ HT1.out.b HINV.out hFp1 (by omega) pr hpr).mono ?_; rintro e wb ⟨a2, d2, rfl, hr2, hz2⟩)
        have HI := hid (HT1.out.keep hz2.out)
        have HR1 := hid (hr1.out.mono hz2.out)
        have HR2 := hr2
        clear HT HT1 hz1 hz2 hr1 hr2
        go_wp2_with (first
          | (go_at_call 21; with_reducible refine (pagesS_calls w pa ga ra la8 sF _ HI.out.a).mono ?_; rintro e wc ⟨b1, c1, rfl, hp1, hzc⟩; have HI := hid (HI.out.keep (hzc.out)); have HR1 := hid (HR1.out.mono (hzc.out)); have HR2 := hid (HR2.out.mono (hzc.out)))
          | (go_at_call 21; with_reducible refine (pagesS_calls w pb gb rb lb9 sF _ HI.out.b).mono ?_; rintro e wd ⟨b2, c2, rfl, hp2, hzd⟩; have HI := hid (HI.out.keep (hzd.out)); have HR1 := hid (HR1.out.mono (hzd.out)); have HR2 := hid (HR2.out.mono (hzd.out)); have hp1 := hid (hp1.out.mono hzd.out))
          | (go_at_call 20; with_reducible refine (same16 (.slice b1 sF.pg.length c1) (.slice b2 sF.pg.length c2) _ _ _ hp1.out hp2.out true (hid (by simp))).mono ?_; rintro e we ⟨rfl, q1, rfl⟩; have HI := hid (HI.out.keep ((Chg.refl NoB _).drewN q1)); have HR1 := hid (HR1.out.mono ((Chg.refl NoB _).drewN q1)); have HR2 := hid (HR2.out.mono ((Chg.refl NoB _).drewN q1)))
          | (go_at_call 13; with_reducible refine (upto_calls w pa ga ra la8 sF _ HI.out.a (by omega) up hup).mono ?_; rintro e wf ⟨rfl, hzf⟩; have HI := hid (HI.out.keep (hzf)); have HR1 := hid (HR1.out.mono (hzf)); have HR2 := hid (HR2.out.mono (hzf)))
          | (go_at_call 13; with_reducible refine (upto_calls w pb gb rb lb9 sF _ HI.out.b (by omega) up hup).mono ?_; rintro e wg ⟨rfl, hzg⟩; have HI := hid (HI.out.keep (hzg)); have HR1 := hid (HR1.out.mono (hzg)); have HR2 := hid (HR2.out.mono (hzg)))
          | (go_at_call 16; with_reducible refine (openS_calls w pa ga ra la8 sF _ HI.out.a HINV.out (by omega) ks hks).mono ?_; rintro e wh ⟨vo1, rfl, ho1, hzh⟩; have HI := hid (HI.out.keep (hzh.out)); have HR1 := hid (HR1.out.mono (hzh.out)); have HR2 := hid (HR2.out.mono (hzh.out)))
          | (go_at_call 16; with_reducible refine (openS_calls w pb gb rb lb9 sF _ HI.out.b HINV.out (by omega) ks hks).mono ?_; rintro e wi ⟨vo2, rfl, ho2, hzi⟩; have HI := hid (HI.out.keep (hzi.out)); have HR1 := hid (HR1.out.mono (hzi.out)); have HR2 := hid (HR2.out.mono (hzi.out)); have ho1 := hid (ho1.out.mono hzi.out); have HW := hid HI.out.chg)
          | (go_at_call 15; with_reducible refine (refSame vo1 vo2 ks ks _ ho1.out ho2.out true (hid (by simp))).mono ?_; rintro e wj ⟨rfl, q2, rfl⟩; have HI := hid (HI.out.keep ((Chg.refl NoB _).drewN q2)); have HR1 := hid (HR1.out.mono ((Chg.refl NoB _).drewN q2)); have HR2 := hid (HR2.out.mono ((Chg.refl NoB _).drewN q2)))
          | (go_at_call 20; with_reducible refine (same16 (.slice a1 pr.1.length d1) (.slice a2 pr.1.length d2) _ _ _ HR1.out HR2.out true (hid (by simp))).mono ?_; rintro e wk ⟨rfl, q3, rfl⟩))
        go_ret
        exact ⟨by simp, HW.out.drewN _⟩
  · have hcs : f1 = false ∨ (f1 = true ∧ ri = false) ∨ (f1 = true ∧ ri = true ∧ lc = true) := by
      cases f1 <;> cases ri <;> cases lc <;> simp_all
    clear hall
    have hbig : lc = true → (30 : Int) < (cu.length : Int) := fun h => by
      have := hlc.out
      rw [h] at this
      have h2 : 30 < cu.length := by simpa using this.symm
      omega
    rcases hcs with rfl | ⟨rfl, rfl⟩ | ⟨rfl, rfl, rfl⟩
    rotate_left 2
    have hb30 := hbig rfl
    rotate_left 1
    all_goals
      clear hbig
      go_upto_region 5 with (first
        | (go_at_call 8; refine (awake _).mono ?_; rintro e w3 ⟨rfl, c3⟩; have HC := hid (hT0.out.chg.trans' c3))
        | (go_at_call 9; with_reducible refine (entsFew_calls _ l _ (HVL.out.mono HC.out) _ hf1).mono ?_; rintro e w4 ⟨rfl, c4⟩; have HC := hid (HC.out.trans' c4))
        | (go_at_call 23; refine (rises_calls _ l _ (HVL.out.mono HC.out) _ hri).mono ?_; rintro e w5 ⟨rfl, q9, rfl⟩; have HC := hid (HC.out.drewN q9)))
      go_wp2_with (go_at_call 8; refine (awake _).mono ?_; rintro e w8 ⟨rfl, c8⟩)
      go_ret
      exact ⟨rfl, HC.out.trans' c8⟩
end Go.Proofs.Ytekjchphlphecaa
