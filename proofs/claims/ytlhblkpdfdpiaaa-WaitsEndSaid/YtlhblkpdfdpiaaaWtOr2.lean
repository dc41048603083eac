import Derived.Test.YtlhblkpdfdpiaaaWtOr
namespace Go.Proofs.Ytlhblkpdfdpiaaa.Wt
open Go.RowKit Go.ChangeMaps Go.MapKept Go.Shelf Go.Sort
set_option linter.unusedVariables false
set_option linter.unusedSimpArgs false
set_option linter.unnecessarySimpa false
set_option maxHeartbeats 8000000

theorem own_g {g n c b : Nat} (h : OwnB (.slice (some ⟨g, 0, none⟩) n c) b) : b = g := by simpa [OwnB, Value.ownBlock, eq_comm] using h
theorem own_lf {w : World} {B g c lb : Nat} {left : List Int} (h : w.ownsRow B 3 1 (.slice (some ⟨g, 0, none⟩) left.length c) left.length (left.map (Value.int .i64))) (hc : w.cell? ⟨lb, 0, none⟩ = some (.slice (some ⟨g, 0, none⟩) left.length c)) : LfAt w lb g c left := by
  obtain ⟨_, _, e3, m1, m2, hr3⟩ := Rd.ints_of h
  cases e3
  refine ⟨hc, fun j hj => ?_, by unfold maxLen at m2; omega⟩
  obtain ⟨b, off, e4, h5⟩ := hr3 j _ (List.getElem?_eq_getElem hj)
  cases e4
  have := h5 0 _ rfl
  rw [List.getD_eq_getElem?_getD, List.getElem?_eq_getElem hj]
  simpa using this
theorem idx_at {p : Int → Bool} {l : List Int} {i : Nat} (h : l.findIdx? p = some i) : Lib.idxBy (fun _ y => p y) l default = (i : Int) := by
  obtain ⟨h1, h2, h3⟩ := List.findIdx?_eq_some_iff_getElem.1 h
  unfold Lib.idxBy
  have := Lib.idxByFrom_hit (fun _ y => p y) default l i 0 h1 (by rw [getElem!_pos l i h1]; exact h2) (fun j hj => by
    rw [getElem!_pos l j (by omega)]
    have := h3 j hj
    simpa using this)
  simpa using this
theorem og_step {e : Edges} {left : List Int} {i : Nat} (h : left.findIdx? (fre e left) = some i) (hn : left.Nodup) (hi : i < left.length) : og e left.length left = left[i] :: og e (left.take i ++ left.drop (i + 1)).length (left.take i ++ left.drop (i + 1)) := by
  obtain ⟨h1, h2, h3⟩ := List.findIdx?_eq_some_iff_getElem.1 h
  have hf : left.find? (fre e left) = some left[i] := by
    rw [List.find?_eq_some_iff_getElem]
    exact ⟨h2, i, hi, rfl, fun j hj => by simpa using h3 j hj⟩
  obtain ⟨f, hfl⟩ : ∃ f, left.length = f + 1 := ⟨left.length - 1, by omega⟩
  have hl2 : (left.take i ++ left.drop (i + 1)).length = f := by rw [List.length_append, List.length_take, List.length_drop]; omega
  rw [hfl, hl2]
  simp only [og, hf]
  rw [erase_at hn hi]

theorem del1_own (w : World) (B g c i : Nat) (left : List Int) (h : w.ownsRow B 3 1 (.slice (some ⟨g, 0, none⟩) left.length c) left.length (left.map (Value.int .i64))) (hi : i < left.length) (L2 : List Int) (hL2 : Hid (L2 = left.take i ++ left.drop (i + 1))) :
    Calls Try.prog 29 #[.slice (some ⟨g, 0, none⟩) left.length c, .int .i64 (i : Int), .int .i64 ((i : Int) + 1)] w fun e w' => e = .returned (.slice (some ⟨g, 0, none⟩) L2.length c) ∧ Hid (w'.ownsRow B 3 1 (.slice (some ⟨g, 0, none⟩) L2.length c) L2.length (L2.map (Value.int .i64))) ∧ Hid (Chg (OneB g) w w') := by
  have hL3 := hL2.out
  subst hL3
  obtain ⟨hH, hl, h4, hm, hb⟩ := own_holds h
  have e1 : ((i : Int) + 1) = ((i + 1 : Nat) : Int) := by omega
  rw [e1]
  have hln : (left.take i ++ left.drop (i + 1)).length = left.length - 1 := by rw [List.length_append, List.length_take, List.length_drop]; omega
  refine (AnyG.slices_Delete_int Try.deleteA g 0 c i (i + 1) left w hH h4 (by unfold maxLen at hm; omega) (by omega) hi).mono ?_
  rintro e w' ⟨rfl, q, rfl⟩
  have e2 : left.length - (i + 1 - i) = (left.take i ++ left.drop (i + 1)).length := by rw [hln]; omega
  have hyl : (left.take i ++ left.drop (i + 1) ++ List.replicate (i + 1 - i) 0).length = left.length := by rw [List.length_append, hln, List.length_replicate]; omega
  obtain ⟨p1, p2⟩ := own_put (k := (left.take i ++ left.drop (i + 1)).length) (q := q) h hyl (by omega) #[]
  have hg : ∀ w : World, Go.Sort.grow w #[] = w := fun w => by simp [Go.Sort.grow]
  rw [hg] at p1 p2
  rw [List.take_left' rfl] at p1
  exact ⟨by rw [e2], hid p1, hid p2⟩

set_option maxRecDepth 100000 in
theorem order_cyc (w : World) (v : Value) (l : Edges) (hv : Rd w 2 encE v l) (hl : l.length ≤ 1000) (hw : EdW l) (hc : cyc l ≠ []) :
    Calls Try.prog 9 #[v] w fun ee w' => ee = .returned (.tuple #[.slice none 0 0, .int .i64 11]) ∧ Hid (Chg NoB w w') := by
  have HV := hid hv
  have HW := hid hw
  have HC := hid hc
  clear hv hw hc
  go_enter Try.func9, Try.ntmps9
  go_wp2_with (go_at_call 12; refine (cycle_calls w v l HV.out hl HW.out).mono ?_; rintro ee w1 ⟨v1, rfl, h1, hc1⟩; obtain ⟨g3, c3, e3⟩ := nsl_ne h1.out.1 HC.out; subst e3)
  go_ret2
  exact ⟨rfl, hc1⟩

set_option maxRecDepth 100000 in
theorem order_ok (w : World) (v : Value) (l : Edges) (hv : Rd w 2 encE v l) (hl : l.length ≤ 1000) (hw : EdW l) (hc : cyc l = []) :
    Calls Try.prog 9 #[v] w fun ee w' => ∃ v', ee = .returned (.tuple #[v', .int .i64 0]) ∧ Hid (OwnL w w' v' (ord l)) ∧ Hid (Chg NoB w w') := by
  have HV := hid hv
  have HW := hid hw
  have HCY := hid hc
  clear hv hw hc
  go_enter Try.func9, Try.ntmps9
  go_upto_region 4 with (first
    | (go_at_call 12; refine (cycle_calls w v l HV.out hl HW.out).mono ?_; rintro ee w1 ⟨v1, rfl, h1, hc1⟩; obtain rfl := h1.out.2 HCY.out)
    | (go_at_call 22; refine (graphOf_calls w1 _ l (HV.out.keep hc1.out (fun _ _ _ => nob)) hl).mono ?_; rintro ee w2 ⟨r, m, rfl, hG⟩))
  obtain ⟨gb, hgb⟩ := named w2.heap.size
  have HG := hid (hG.out.1.gr hG.out.2)
  have HC2 := hid (hc1.out.trans' hG.out.1.chg)
  clear hG h1 hc1
  go_upto_region 5 with (go_at_call 23; refine (names_calls _ r m l (HG.out.keep ((Chg.refl NoB w2).alloc _)) hl HW.out).mono ?_; rintro ee w3 ⟨na, nc, rfl, hN, hC3⟩)
  obtain ⟨lb, hlb⟩ := named w3.heap.size
  obtain ⟨wb, hwb⟩ := named (w2.alloc (.cells #[.map (some r)] 55))
  rw [← hwb.out] at hN hC3
  have HCb : Hid (Chg NoB w wb) := hid (by rw [hwb.out]; exact HC2.out.alloc _)
  have HGb : Hid (Gr wb r m l ∧ wb.cell? ⟨gb, 0, none⟩ = some (.map (some r))) := hid ⟨by rw [hwb.out]; exact HG.out.keep ((Chg.refl NoB w2).alloc _), by rw [hwb.out, hgb.out, cell_blk (blk_new _ _)]; rfl⟩
  have hnl := nm_len l
  have HI0 : Hid (∃ (left out : List Int) (lv : Value), left.length ≤ (nm l).length ∧ left.Nodup ∧ ord l = out ++ og l left.length left ∧ OwnL wb (w3.alloc (.cells #[.slice na (nm l).length nc] 24)) (.slice none 0 0) out ∧ (w3.alloc (.cells #[.slice na (nm l).length nc] 24)).ownsRow wb.heap.size 3 1 lv left.length (left.map (Value.int .i64)) ∧ (w3.alloc (.cells #[.slice na (nm l).length nc] 24)).heap[lb]? = some (.cells [lv].toArray 24 (0, 0)) ∧ Chg NoB wb (w3.alloc (.cells #[.slice na (nm l).length nc] 24)) ∧ (∀ b, OwnB (.slice none 0 0) b → ¬ OwnB lv b ∧ b ≠ lb) ∧ (∀ b, OwnB lv b → b ≠ lb) ∧ out.length + left.length ≤ 2001) :=
    hid ⟨nm l, [], _, Nat.le_refl _, srt_nodup (nm_srt l), rfl, ⟨World.ownsRow_nil _ _ _ _, fun _ => rfl⟩, World.ownsRow.alloc hN.out _, by rw [hlb.out]; exact blk_new _ _, hC3.out.alloc _, fun b hb => by simp [OwnB, Value.ownBlock] at hb, fun b hb e => by have := (OwnB.ge hN.out b hb).2; rw [e, hlb.out] at this; omega, by simp; omega⟩
  have HLB : Hid (wb.heap.size ≤ lb) := hid (by rw [hlb.out]; exact hC3.out.size)
  rw [← hlb.out, ← hgb.out]
  clear hN hC3 HG HC2
  go_loopg [2] (nm l).length (fun k s2 wr => Hid (∃ (left out : List Int) (lv : Value), left.length ≤ k ∧ left.Nodup ∧ ord l = out ++ og l left.length left ∧ OwnL wb wr s2 out ∧ wr.ownsRow wb.heap.size 3 1 lv left.length (left.map (Value.int .i64)) ∧ wr.heap[lb]? = some (.cells [lv].toArray 24 (0, 0)) ∧ Chg NoB wb wr ∧ (∀ b, OwnB s2 b → ¬ OwnB lv b ∧ b ≠ lb) ∧ (∀ b, OwnB lv b → b ≠ lb) ∧ out.length + left.length ≤ 2001))
  case atStart => exact HI0
  case round =>
    clear HI0
    obtain ⟨left, out, lv, hk, hnd, hO, hS, hL, hB, hC, hD, hE, hN⟩ := hrel.out
    have HND := hid hnd
    have HO := hid hO
    have HS := hid hS
    have HL := hid hL
    have HB := hid hB
    have HC := hid hC
    have HD := hid hD
    have HE := hid hE
    obtain ⟨oa, oc, e1⟩ := ownsForm hS.1
    subst e1
    obtain ⟨la, lc, e1⟩ := ownsForm hL
    subst e1
    have hx : wr.cell? ⟨lb, 0, none⟩ = some (.slice la left.length lc) := by rw [cell_blk hB]; rfl
    clear hrel hnd hO hS hL hB hC hD hE
    rcases Nat.eq_zero_or_pos left.length with h0 | h0
    · have hl0 : ¬ (0 : Int) < (left.length : Int) := by omega
      have HFN : Hid (ord l = out) := hid (by rw [HO.out, h0]; simp [og])
      go_wp2_with fail
      go_ret2
      refine ⟨_, rfl, hid ⟨?_, fun h => HS.out.2 (HFN.out.symm.trans h)⟩, hid (HCb.out.trans' HC.out)⟩
      rw [HFN.out]
      obtain ⟨q1, q2⟩ := HS.out.1
      refine ⟨q1, q2.imp id ?_⟩
      rintro ⟨g, cap, cur, e4, h5, h6⟩
      exact ⟨g, cap, cur, e4, Nat.le_trans HCb.out.size h5, h6⟩
    · obtain ⟨g, lc', e1⟩ := nsl_ne HL.out (by intro e; rw [e] at h0; simp at h0)
      cases e1
      have hl0 : (0 : Int) < (left.length : Int) := by omega
      obtain ⟨n0, hn1, hn2⟩ := fre_some HCY.out (left := left) (by intro e; rw [e] at h0; simp at h0)
      obtain ⟨i, hi⟩ : ∃ i, left.findIdx? (fre l left) = some i := by
        cases hf : left.findIdx? (fre l left) with
        | some i => exact ⟨i, rfl⟩
        | none =>
          rw [List.findIdx?_eq_none_iff] at hf
          rw [hf n0 hn1] at hn2; cases hn2
      have hil : i < left.length := (List.findIdx?_eq_some_iff_getElem.1 hi).1
      have HIX := hid (idx_at hi)
      have HOG := hid (og_step hi HND.out hil)
      have HLF := hid (own_lf HL.out hx)
      have HGr := hid (HGb.out.1.keep HC.out)
      have eg : ∀ args w, (callFunc 25 args).run Try.prog w = .ok (.enter 25 args) w := enters_of Try.func25 (by kernel_rfl) rfl
      have HCALL : Hid (Calls Try.prog 24 #[.slice (some ⟨g, 0, none⟩) left.length lc, .func (.func 25) #[] #[.pointer (some ⟨gb, 0, none⟩), .pointer (some ⟨lb, 0, none⟩)]] wr fun ee w' => ee = .returned (.int .i64 (i : Int)) ∧ ∃ q, w' = wr.drewN q) := hid (by
        have := AnyE.slices_IndexFunc Try.indexFA (Value.int .i64) (fre l left) 25 #[.pointer (some ⟨gb, 0, none⟩), .pointer (some ⟨lb, 0, none⟩)] eg g 0 left.length lc left wr (pred1 wr gb lb g lc r m l left HLF.out HGr.out (HC.out.cell HGb.out.2 nob)) (Nat.le_refl _) HLF.out.big (fun j hj => by
          rw [HLF.out.rd j hj, getElem!_pos left j hj, List.getD_eq_getElem?_getD, List.getElem?_eq_getElem hj]; rfl)
        rw [List.take_length, HIX.out] at this
        exact this)
      obtain ⟨n, hn⟩ := named left[i]
      have hcl : wr.cell? ⟨g, i, none⟩ = some (.int .i64 n) := by
        have := HLF.out.rd i hil
        rw [Nat.zero_add, List.getD_eq_getElem?_getD, List.getElem?_eq_getElem hil] at this
        rw [this, hn.out]; rfl
      have hw1 : IntKind.i64.wrap ((i : Int) + 1) = (i : Int) + 1 := by rw [IntKind.wrap_i64]; omega
      have hi0 : (0 : Int) ≤ (i : Int) := by omega
      have hi1 : (i : Int) < (left.length : Int) := by omega
      have hgl : g ≠ lb := HE.out g (by simp [OwnB, Value.ownBlock])
      have HGL := hid hgl
      obtain ⟨L2, hL2⟩ := named (left.take i ++ left.drop (i + 1))
      rw [← hL2.out] at HOG
      have hlen2 : L2.length < left.length := by rw [hL2.out]; rw [List.length_append, List.length_take, List.length_drop]; omega
      clear hi eg hn1 hn2 hgl
      go_upto_region 7 with (go_at_call 24; refine HCALL.out.mono ?_; rintro ee w4 ⟨rfl, q, rfl⟩)
      have HSO : Hid (∀ b, OwnB (.slice oa out.length oc) b → b ≠ g ∧ b ≠ lb) := hid (fun b hb => ⟨fun e => (HD.out b hb).1 (by rw [e]; simp [OwnB, Value.ownBlock]), (HD.out b hb).2⟩)
      have hs0 := HC.out.size
      go_wp2_with (first
        | (at_builtin; refine step_app1 slInt rfl _ _ rfl (World.ownsRow.alloc (ownsRow.chg HS.out.1 ((Chg.refl NoB wr).drewN q) (fun _ _ => nob)) _) rfl wr.heap.size [.int .i64 n] rfl (blk_new (wr.drewN q) _) rfl rfl (by simp [Value.oneCell']) (by omega) (by unfold maxLen; omega) (by simp; omega) ?_; intro v5 w5 hv5 hc5 hn5 hnil5; have HC5 : Hid (Chg (OwnB (.slice oa out.length oc)) wr w5) := hid ((((Chg.refl (OwnB (.slice oa out.length oc)) wr).drewN q).alloc _).trans' hc5); have HN5 : Hid (∀ i, OwnB v5 i → OwnB (.slice oa out.length oc) i ∨ wr.heap.size ≤ i) := hid (fun i hi => (hn5 i hi).elim .inl (fun h => by simp at h; right; omega)); have hx5 := HC5.out.cell hx (fun h => (HSO.out _ h).2 rfl))
        | (go_at_call 29; refine (del1_own w5 wb.heap.size g lc i left (ownsRow.chg HL.out HC5.out (fun b hb h => (HSO.out b h).1 (own_g hb))) hil L2 hL2).mono ?_; rintro ee w6 ⟨rfl, ho6, hc6⟩)
        | ((fail_if_success (fail_if_success (with_reducible change wpList _ _ _ (Oper.mk _ (.store 24 _ _) _ _ _ _ :: _) _ _))); refine step_storeC2 rfl rfl lb 0 rfl rfl rfl rfl (cs := [_]) (hc6.out.heap (HC5.out.heap HB.out (fun h => (HSO.out _ h).2 rfl)) (fun e => HGL.out (Eq.symm e))) (by simp) (by kernel_rfl) ?_; intro w7 hb7 hc7 hs7))
      have hlt2 := hid hlen2
      have hgs : g < wr.heap.size := (OwnB.ge HL.out g (by simp [OwnB, Value.ownBlock])).2
      have hls : lb < wr.heap.size := lt_of_block HB.out
      go_roundg L2.length
      case measure => have := hlt2.out; omega
      case rel =>
        refine hid ⟨L2, out ++ [n], _, Nat.le_refl _, ?_, ?_, ⟨?_, fun h => by simp at h⟩, ownsRow.chg ho6.out hc7 (fun b hb e => ?_), by rw [hb7]; rfl, ?_, fun b hb => ?_, fun b hb => ?_, ?_⟩
        · have hs := (List.Sublist.refl (left.take i)).append (List.drop_sublist 1 (left.drop i))
          rw [List.drop_drop, List.take_append_drop] at hs
          rw [hL2.out]
          exact HND.out.sublist hs
        · rw [HO.out, HOG.out, ← hn.out]; simp
        · have h8 : ∀ b, OwnB v5 b → b ≠ g ∧ b ≠ lb := fun b hb => (HN5.out b hb).elim (fun h => HSO.out b h) (fun h => ⟨by omega, by omega⟩)
          have h9 := ownsRow.chg (ownsRow.chg hv5 hc6.out (fun b hb e => (h8 b hb).1 e)) hc7 (fun b hb e => (h8 b hb).2 e)
          simpa using h9
        · have h' : g = b := by simpa [OwnB, Value.ownBlock] using hb
          have h'' : b = lb := e
          exact HGL.out (h'.trans h'')
        · refine ((HC.out.new HC5.out (fun b hb => (OwnB.ge HS.out.1 b hb).1)).new hc6.out (fun b hb => ?_)).new hc7 (fun b hb => ?_)
          · have h' : b = g := hb
            rw [h']; exact (OwnB.ge HL.out g (by simp [OwnB, Value.ownBlock])).1
          · have h' : b = lb := hb
            rw [h']; exact HLB.out
        · have h8 : b ≠ g ∧ b ≠ lb := (HN5.out b hb).elim (fun h => HSO.out b h) (fun h => ⟨by omega, by omega⟩)
          exact ⟨fun h => h8.1 (own_g h), h8.2⟩
        · have h' : g = b := by simpa [OwnB, Value.ownBlock] using hb
          rw [← h']; exact HGL.out
        · have := hlt2.out
          simp only [List.length_append, List.length_cons, List.length_nil]
          omega
end Go.Proofs.Ytlhblkpdfdpiaaa.Wt
