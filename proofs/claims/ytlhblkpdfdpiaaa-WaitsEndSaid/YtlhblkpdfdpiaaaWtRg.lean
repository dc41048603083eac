import Derived.Test.YtlhblkpdfdpiaaaWtRf
namespace Go.Proofs.Ytlhblkpdfdpiaaa.Wt
open Go.RowKit Go.ChangeMaps Go.MapKept
attribute [local go_sem] Go.Oper.rdK
set_option linter.unusedVariables false
set_option linter.unusedSimpArgs false
set_option linter.unnecessarySimpa false
set_option maxHeartbeats 16000000

theorem slInts : SlT Try.prog 64 24 (.slice none 0 0) 1 24 := ⟨Try.underlying64, by kernel_rfl, rfl, by decide⟩
def e01 (e : Edges) (x y : Int) : Nat := if e.contains (x, y) then 1 else 0
/-- The row so far. -/
def RowI (e : Edges) (l : List Int) (i k : Nat) (R : Nat → Nat) : Prop := ∀ x, l[i]? = some x → ∀ b y, l[b]? = some y → R b = if b < k then e01 e x y else 0
theorem FarAt.push {w0 w w6 : World} {vo v5 : Value} {gs : List Nat} {n g : Nat} {D : Nat → Nat → Nat} {R : Nat → Nat} (h : FarAt w0 w vo gs n D) (hg : w0.heap.size ≤ g) (hgl : g < w.heap.size) (hng : g ∉ gs) (hgo : ¬ OwnB vo g) (hb : w.heap[g]? = some (.cells (rowD (fun _ => R) n 0).toArray 3 (0, 0)))
    (ho : w6.ownsRow w0.heap.size 24 1 v5 (gs.length + 1) (gs.map (rowV n) ++ [rowV n g])) (hc : Chg (OwnB vo) w w6) (hn : ∀ i, OwnB v5 i → OwnB vo i ∨ w.heap.size ≤ i) :
    FarAt w0 w6 v5 (gs ++ [g]) n (fun a b => if a = gs.length then R b else D a b) := by
  have hlt : ∀ x ∈ gs, x < w.heap.size := fun x hx => by
    obtain ⟨i, hi, rfl⟩ := List.getElem_of_mem hx
    exact lt_of_block (h.row i _ (List.getElem?_eq_getElem hi))
  refine ⟨by simpa using ho, fun i x hx => ?_, ?_, fun x hx => ?_, h.chg.new hc (fun b hb => (OwnB.ge h.out b hb).1)⟩
  · rw [List.getElem?_append] at hx
    split at hx
    · rename_i hi
      have hxm := List.mem_of_getElem? hx
      rw [hc.heap (h.row i x hx) (h.off x hxm).1]
      have : rowD D n i = rowD (fun a b => if a = gs.length then R b else D a b) n i := by
        unfold rowD
        refine List.map_congr_left fun b _ => ?_
        dsimp only
        rw [if_neg (by omega)]
      rw [this]
    · rename_i hi
      have h0 : i - gs.length = 0 := by
        have := (List.getElem?_eq_some_iff.1 hx).1
        simp at this; omega
      rw [h0] at hx
      simp at hx
      subst hx
      rw [hc.heap hb hgo]
      have : rowD (fun _ => R) n 0 = rowD (fun a b => if a = gs.length then R b else D a b) n i := by
        unfold rowD
        refine List.map_congr_left fun b _ => ?_
        dsimp only
        rw [if_pos (by omega)]
      rw [this]
  · rw [List.nodup_append]
    exact ⟨h.nodup, by simp, fun a ha b hb => by simp at hb; subst hb; exact fun e => hng (e ▸ ha)⟩
  · rcases List.mem_append.1 hx with hx | hx
    · exact ⟨fun hb => (hn x hb).elim (h.off x hx).1 (fun h => by have := hlt x hx; omega), (h.off x hx).2⟩
    · obtain rfl := List.mem_singleton.1 hx
      exact ⟨fun hb => (hn _ hb).elim hgo (fun h => by omega), hg⟩

theorem fwD_not {D : Nat → Nat → Nat} {m i k : Nat} (h : fwT D m i k = false) : fwD D m i k = D := by
  funext a b
  unfold fwD
  rw [if_neg (fun h2 => by rw [h] at h2; cases h2.1)]
set_option maxRecDepth 100000 in
theorem far_calls (w : World) (v lv : Value) (e : Edges) (l : List Int) (hv : Rd w 2 encE v e) (hlv : Rd w 1 encI lv l) (he : e.length ≤ 1000) (hln : l.length ≤ 2000) (hnm : Hid (l = nm e)) :
    Calls Try.prog 33 #[v, lv] w fun ee w' => ∃ vo gs D, ee = .returned vo ∧ Hid (FarAt w w' vo gs l.length D ∧ gs.length = l.length ∧ ∀ a b x y, l[a]? = some x → l[b]? = some y → D a b = dst e x y) := by
  have HV := hid hv
  obtain ⟨la, lc, rfl, q1, q2, hr⟩ := hlv
  unfold maxLen at q2
  have HR := hid hr
  have hmk := fun w => makeInts l.length (by omega) w
  clear hr hv
  go_enter Try.func33, Try.ntmps33
  go_wp2_with fail
  go_loopw [5, 6] (fun s5 s6 wr => ∃ i : Nat, i ≤ l.length ∧ s6 = .int .i64 i ∧ Hid (∃ gs D, gs.length = i ∧ FarAt w wr s5 gs l.length D ∧ ∀ a b x y, a < i → l[a]? = some x → l[b]? = some y → D a b = e01 e x y)) (fun _ i _ => l.length - (intOf i).toNat)
  case atStart => exact ⟨0, by omega, rfl, hid ⟨[], fun _ _ => 0, rfl, ⟨World.ownsRow_nil _ _ _ _, fun i g h => by simp at h, List.nodup_nil, by simp, Chg.refl _ _⟩, fun a b x y h => by omega⟩⟩
  case round =>
    obtain ⟨i, hi, rfl, hI⟩ := hrel
    rename World => wq
    obtain ⟨gs, D, hgl, hF, hD⟩ := hI.out
    have HGL := hid hgl
    have HF := hid hF
    have HD := hid hD
    obtain ⟨oa, oc, e1⟩ := ownsForm hF.out
    subst e1
    clear hI hgl hF hD
    by_cases hlt : i < l.length
    · obtain ⟨x, hx⟩ := named l[i]
      have HXI : Hid (l[i]? = some x) := hid (by rw [List.getElem?_eq_getElem hlt, hx.out])
      obtain ⟨lb, lo, hab, h2⟩ := HR.out i x HXI.out
      subst hab
      have h2 := h2 0 _ rfl
      simp only [Nat.add_zero, Nat.mul_one] at h2
      have H2 := hid h2
      have hi0 : (0 : Int) ≤ (i : Int) := by omega
      have hi1 : (i : Int) < (l.length : Int) := by omega
      clear h2
      go_upto_region 6 with fail
      obtain ⟨g, hg⟩ := named wq.heap.size
      have HB0 : Hid (FarAt w (wq.alloc (.cells (List.replicate l.length (Value.int .i64 0)).toArray 3)) (.slice oa gs.length oc) gs l.length D ∧ ∃ R, (wq.alloc (.cells (List.replicate l.length (Value.int .i64 0)).toArray 3)).heap[g]? = some (.cells (rowD (fun _ => R) l.length 0).toArray 3 (0, 0)) ∧ RowI e l i 0 R) := hid ⟨HF.out.keep ((Chg.refl _ _).alloc _), fun _ => 0, by
        rw [hg.out, blk_new]
        have : List.replicate l.length (Value.int .i64 0) = rowD (fun _ _ => 0) l.length 0 := by
          unfold rowD
          apply List.ext_getElem
          · simp
          · intro i h1 h2; simp
        rw [this], fun x _ b y _ => by simp⟩
      have HGF : Hid (w.heap.size ≤ g ∧ g ∉ gs ∧ ¬ OwnB (.slice oa gs.length oc) g) := hid ⟨by rw [hg.out]; exact HF.out.chg.size, fun h => by
        obtain ⟨j, hj, e1⟩ := List.getElem_of_mem h
        have := lt_of_block (HF.out.row j g (by rw [List.getElem?_eq_getElem hj, e1]))
        rw [hg.out] at this; omega, fun h => by have := (OwnB.ge HF.out.out g h).2; rw [hg.out] at this; omega⟩
      rw [← hg.out]
      clear hmk
      go_wp2_with fail
      go_loopw [8] (fun s8 wr => ∃ k : Nat, k ≤ l.length ∧ s8 = .int .i64 k ∧ Hid (FarAt w wr (.slice oa gs.length oc) gs l.length D ∧ ∃ R, wr.heap[g]? = some (.cells (rowD (fun _ => R) l.length 0).toArray 3 (0, 0)) ∧ RowI e l i k R)) (fun k _ => l.length - (intOf k).toNat)
      case atStart => exact ⟨0, by omega, rfl, HB0⟩
      case round =>
        clear HB0
        obtain ⟨k, hk, rfl, hI⟩ := hrel
        obtain ⟨hF, R, hB, hRo⟩ := hI.out
        have HF2 := hid hF
        have HB := hid hB
        have HRo := hid hRo
        clear hI hF hB hRo
        by_cases hkl : k < l.length
        · obtain ⟨y, hy⟩ := named l[k]
          have HYK : Hid (l[k]? = some y) := hid (by rw [List.getElem?_eq_getElem hkl, hy.out])
          obtain ⟨_, _, hab, h3⟩ := HR.out k y HYK.out
          cases hab
          have h3 := HF2.out.chg.cell (h3 0 _ rfl) nob
          simp only [Nat.add_zero, Nat.mul_one] at h3
          have h2 := HF2.out.chg.cell H2.out nob
          have hk0 : (0 : Int) ≤ (k : Int) := by omega
          have hk1 : (k : Int) < (l.length : Int) := by omega
          obtain ⟨rb, hrb⟩ := named (e.contains (x, y))
          have HV9 : Hid (Rd wr.drew 2 encE v e) := hid ((HV.out.keep HF2.out.chg (fun _ _ _ => nob)).keep (Chg.refl NoB wr).drew (fun _ _ _ => nob))
          go_upto_region 9 with fail
          refine wp_region_ord 9 (.rd 0 (.rd 1 (.rd 2 (.rd 3 (.rd 4 (.rd 5 (.rd 6 (.rd 7 (.rd 8 (.one 9 (.done))))))))))) (Same wr) (by kernel_rfl) (by kernel_rfl) (by kernel_rfl) (by kernel_rfl) (by kernel_rfl) (fun _ _ d _ _ h => by cases d <;> exact h) (Same.of (Chg.refl _ _).drew) (fun hS0 => ?_)
          refine wpOrd_rd rfl rfl (by first | decide | simp) (by assumption) (fun w' hw' K hK => by ((try unfold Same at hw'); (try go_split_ands); go_simp; exact hK)) ?_
          refine wpOrd_rd rfl rfl (by first | decide | simp) (by assumption) (fun w' hw' K hK => by ((try unfold Same at hw'); (try go_split_ands); go_simp; exact hK)) ?_
          refine wpOrd_rd rfl rfl (by first | decide | simp) (by assumption) (fun w' hw' K hK => by ((try unfold Same at hw'); (try go_split_ands); go_simp; exact hK)) ?_
          refine wpOrd_rd rfl rfl (by first | decide | simp) (by assumption) (fun w' hw' K hK => by ((try unfold Same at hw'); (try go_split_ands); go_simp; exact hK)) ?_
          refine wpOrd_rd rfl rfl (by first | decide | simp) (by assumption) (fun w' hw' K hK => by ((try unfold Same at hw'); (try go_split_ands); go_simp; exact hK)) ?_
          refine wpOrd_rd rfl rfl (by first | decide | simp) (by assumption) (fun w' hw' K hK => by ((try unfold Same at hw'); (try go_split_ands); go_simp; exact hK)) ?_
          refine wpOrd_rd rfl rfl (by first | decide | simp) (by assumption) (fun w' hw' K hK => by ((try unfold Same at hw'); (try go_split_ands); go_simp; exact hK)) ?_
          refine wpOrd_rd rfl rfl (by first | decide | simp) (by assumption) (fun w' hw' K hK => by ((try unfold Same at hw'); (try go_split_ands); go_simp; exact hK)) ?_
          refine wpOrd_rd rfl rfl (by first | decide | simp) (by assumption) (fun w' hw' K hK => by ((try unfold Same at hw'); (try go_split_ands); go_simp; exact hK)) ?_
          refine wpOrd_do rfl ?_
          (first | refine wpList_plain rfl (fun K hK => ?_) | refine wpList_step (fun K hK => ?_))
          go_simp
          ((with_reducible refine (edge_calls _ v e HV9.out x y rb hrb).mono ?_); rintro ee w3 ⟨rfl, hc3⟩)
          refine hK _ _ ?_
          clear hK K
          (try dsimp only [Act.put])
          refine wpOrd_last ?_
          refine wpOrd_nil ?_
          have HC3 := hid ((Chg.refl NoB wr).drew.trans' hc3.out)
          clear hc3 h2 h3 hS0
          cases rb
          · have HRN : Hid (RowI e l i (k + 1) R) := hid (fun x' hx' b y' hy' => by
              rw [HRo.out x' hx' b y' hy']
              rw [HXI.out] at hx'
              cases hx'
              by_cases hbk : b = k
              · subst hbk
                rw [HYK.out] at hy'
                cases hy'
                unfold e01
                rw [← hrb.out]; simp
              · by_cases hb2 : b < k
                · rw [if_pos hb2, if_pos (by omega)]
                · rw [if_neg hb2, if_neg (by omega)])
            go_wp2_with fail
            go_roundw
            case rel => exact ⟨k + 1, by omega, by go_num, hid ⟨HF2.out.keep HC3.out, R, HC3.out.heap HB.out nob, HRN.out⟩⟩
            case measure => simp [intOf]; omega
          · have HRN : Hid (RowI e l i (k + 1) (fun b => if b = k then 1 else R b)) := hid (fun x' hx' b y' hy' => by
              rw [HXI.out] at hx'
              cases hx'
              dsimp only
              by_cases hbk : b = k
              · subst hbk
                rw [HYK.out] at hy'
                cases hy'
                unfold e01
                rw [← hrb.out]; simp
              · rw [if_neg hbk, HRo.out x HXI.out b y' hy']
                by_cases hb2 : b < k
                · rw [if_pos hb2, if_pos (by omega)]
                · rw [if_neg hb2, if_neg (by omega)])
            have hlen : (rowD (fun _ => R) l.length 0).length = l.length := rowD_len _ _ _
            have HSET : Hid ((rowD (fun _ => R) l.length 0).set k (.int .i64 1) = rowD (fun _ b => if b = k then 1 else R b) l.length 0) := hid (by
              apply List.ext_getElem?
              intro b
              rw [List.getElem?_set, rowD_len]
              by_cases hbn : b < l.length
              · have e1 := rowD_get (D := fun _ => R) (i := 0) hbn
                have e2 := rowD_get (D := fun (_ b : Nat) => if b = k then 1 else R b) (i := 0) hbn
                rw [e1, e2]
                by_cases hkb : k = b
                · subst hkb; simp [hkl]
                · rw [if_neg hkb, if_neg (fun h : b = k => hkb h.symm)]
              · have e1 : (rowD (fun _ => R) l.length 0)[b]? = none := List.getElem?_eq_none (by rw [rowD_len]; omega)
                have e2 : (rowD (fun _ b => if b = k then 1 else R b) l.length 0)[b]? = none := List.getElem?_eq_none (by rw [rowD_len]; omega)
                rw [e1, e2]
                split <;> (try split) <;> first | rfl | omega)
            have HB3 := hid (HC3.out.heap HB.out nob)
            go_wp2_with ((fail_if_success (fail_if_success (with_reducible change wpList _ _ _ (Oper.mk _ (.store 3 _ _) _ _ _ _ :: _) _ _))); refine step_storeC2 rfl rfl g k rfl rfl rfl rfl HB3.out (by rw [hlen]; exact hkl) (by kernel_rfl) ?_; intro w4 hb4 hc4 hs4)
            have HF4 : Hid (FarAt w w4 (.slice oa gs.length oc) gs l.length D) := hid (by
              have h9 := HF2.out.keep HC3.out
              exact ⟨ownsRow.chg h9.out hc4 (fun b hb e1 => HGF.out.2.2 (by have e1 : b = g := e1; rwa [e1] at hb)), fun j gj hj => hc4.heap (h9.row j gj hj) (fun e1 => HGF.out.2.1 (by have e1 : gj = g := e1; rw [← e1]; exact List.mem_of_getElem? hj)), h9.nodup, h9.off, h9.chg.new hc4 (fun b hb => by have hb : b = g := hb; rw [hb]; exact HGF.out.1)⟩)
            go_roundw
            case rel => exact ⟨k + 1, by omega, by go_num, hid ⟨HF4.out, _, by rw [hb4]; exact congrArg (fun z => some (Obj.cells (List.toArray z) 3 (0, 0))) HSET.out, HRN.out⟩⟩
            case measure => simp [intOf]; omega
        · obtain rfl : l.length = k := by omega
          have hgw : g < wr.heap.size := lt_of_block HB.out
          have hgs : gs.length ≤ l.length := by rw [HGL.out]; omega
          have HZ := hid HF2.out.chg.size
          go_wp2_with (at_builtin; refine step_app1 slInts rfl _ _ rfl (World.ownsRow.alloc HF2.out.out _) rfl wr.heap.size [rowV l.length g] rfl (blk_new _ _) rfl rfl (by simp [Value.oneCell', rowV]) (by omega) (by unfold maxLen; omega) (by have := HZ.out; simp; omega) ?_; intro v5 w5 hv5 hc5 hn5 hnil)
          obtain ⟨a5, n5, rfl⟩ := ownsForm hv5
          have HPU := hid (HF2.out.push HGF.out.1 hgw HGF.out.2.1 HGF.out.2.2 HB.out hv5 (((Chg.refl (OwnB (.slice oa gs.length oc)) wr).alloc _).trans' hc5) (fun i hi => (hn5 i hi).elim .inl (fun h => by simp at h; right; omega)))
          clear hv5 hc5 hn5 hnil
          go_wp2_with fail
          go_roundw
          case rel =>
            refine ⟨i + 1, by omega, by go_num, hid ⟨gs ++ [g], _, by simp [HGL.out], HPU.out, fun a b x' y' ha hx' hy' => ?_⟩⟩
            by_cases hai : a = gs.length
            · rw [if_pos hai]
              rw [hai, HGL.out] at hx'
              have := HRo.out x' hx' b y' hy'
              rw [this, if_pos (List.getElem?_eq_some_iff.1 hy').1]
            · rw [if_neg hai]
              exact HD.out a b x' y' (by have := HGL.out; omega) hx' hy'
          case measure => simp [intOf]; omega
    · obtain rfl : l.length = i := by omega
      have HFW : Hid (FwAt e l 0 0 0 D) := hid (FwAt.start fun a b x y ha hb => by
        rw [HD.out a b x y (List.getElem?_eq_some_iff.1 ha).1 ha hb]
        unfold e01
        by_cases h : (x, y) ∈ e
        · rw [if_pos h, if_pos (by simpa using h)]
        · rw [if_neg h, if_neg (by simpa using h)])
      have hgs := hid (show gs.length = l.length from HGL.out)
      have hgs1 : gs.length ≤ l.length := by have := hgs.out; omega
      have hgs2 : l.length ≤ gs.length := by have := hgs.out; omega
      clear hmk
      go_wp2_with fail
      go_loopw [9] (fun s9 wr => ∃ m : Nat, m ≤ l.length ∧ s9 = .int .i64 m ∧ Hid (∃ D, FarAt w wr (.slice oa gs.length oc) gs l.length D ∧ FwAt e l m 0 0 D)) (fun m _ => l.length - (intOf m).toNat)
      case atStart => exact ⟨0, by omega, rfl, hid ⟨D, HF.out, HFW.out⟩⟩
      case round =>
        clear HF HD HFW
        obtain ⟨m, hm, rfl, hI⟩ := hrel
        obtain ⟨D, hF, hW⟩ := hI.out
        have HF := hid hF
        have HFW := hid hW
        clear hI hF hW
        by_cases hml : m < l.length
        · have hm0 : (0 : Int) ≤ (m : Int) := by omega
          have hm1 : (m : Int) < (l.length : Int) := by omega
          go_wp2_with fail
          go_loopw [10] (fun s10 wr => ∃ i : Nat, i ≤ l.length ∧ s10 = .int .i64 i ∧ Hid (∃ D, FarAt w wr (.slice oa gs.length oc) gs l.length D ∧ FwAt e l m i 0 D)) (fun i _ => l.length - (intOf i).toNat)
          case atStart => exact ⟨0, by omega, rfl, hid ⟨D, HF.out, HFW.out⟩⟩
          case round =>
            clear HF HFW
            obtain ⟨i, hi2, rfl, hI⟩ := hrel
            obtain ⟨D, hF, hW⟩ := hI.out
            have HF := hid hF
            have HFW := hid hW
            clear hI hF hW
            by_cases hil : i < l.length
            · have hi0 : (0 : Int) ≤ (i : Int) := by omega
              have hi1 : (i : Int) < (l.length : Int) := by omega
              go_wp2_with fail
              go_loopw [11] (fun s11 wr => ∃ k : Nat, k ≤ l.length ∧ s11 = .int .i64 k ∧ Hid (∃ D, FarAt w wr (.slice oa gs.length oc) gs l.length D ∧ FwAt e l m i k D)) (fun k _ => l.length - (intOf k).toNat)
              case atStart => exact ⟨0, by omega, rfl, hid ⟨D, HF.out, HFW.out⟩⟩
              case round =>
                clear HF HFW
                obtain ⟨k, hk2, rfl, hI⟩ := hrel
                obtain ⟨D, hF, hW⟩ := hI.out
                have HF := hid hF
                have HFW := hid hW
                clear hI hF hW
                by_cases hkl : k < l.length
                · obtain ⟨gi, og, c1, e1, hc1, hgi, o1, ci⟩ := HF.out.cells (i := i) (by omega)
                  cases e1
                  obtain ⟨gm, _, _, e1, _, hgm, o2, cm⟩ := HF.out.cells (i := m) (by omega)
                  cases e1
                  obtain ⟨a1, ha1⟩ := named (D i m)
                  obtain ⟨a2, ha2⟩ := named (D m k)
                  obtain ⟨a3, ha3⟩ := named (D i k)
                  have p1 := ci m hml
                  have p2 := cm k hkl
                  have p3 := ci k hkl
                  rw [← ha1.out] at p1
                  rw [← ha2.out] at p2
                  rw [← ha3.out] at p3
                  unfold rowV at o1 o2
                  have HGI := hid hgi
                  have b1 : a1 ≤ 2000 := by rw [ha1.out]; have := HFW.out.le (List.getElem?_eq_getElem hil) (List.getElem?_eq_getElem hml); have := nm_len e; omega
                  have b2 : a2 ≤ 2000 := by rw [ha2.out]; have := HFW.out.le (List.getElem?_eq_getElem hml) (List.getElem?_eq_getElem hkl); have := nm_len e; omega
                  have b3 : a3 ≤ 2000 := by rw [ha3.out]; have := HFW.out.le (List.getElem?_eq_getElem hil) (List.getElem?_eq_getElem hkl); have := nm_len e; omega
                  have hk0 : (0 : Int) ≤ (k : Int) := by omega
                  have hk1 : (k : Int) < (l.length : Int) := by omega
                  have hgi1 : (i : Int) < (gs.length : Int) := by omega
                  have hgm1 : (m : Int) < (gs.length : Int) := by omega
                  have HNX := hid (HFW.out.cell hml hil hkl)
                  have hTF : Hid (fwT D m i k = decide (0 < a1 ∧ 0 < a2 ∧ (a3 = 0 ∨ a1 + a2 < a3))) := hid (by unfold fwT; rw [← ha1.out, ← ha2.out, ← ha3.out])
                  have hstay : (¬ (0 < a1 ∧ 0 < a2 ∧ (a3 = 0 ∨ a1 + a2 < a3))) → Hid (FwAt e l m i (k + 1) D) := fun hn => hid (by
                    have h9 := HNX.out
                    rwa [fwD_not (by rw [hTF.out]; exact decide_eq_false hn)] at h9)
                  have HST := hid hstay
                  clear ci cm hgi hgm hstay
                  rcases Nat.eq_zero_or_pos a1 with z1 | z1
                  · have HS2 := hid (HST.out (by omega)).out
                    have t1 : decide ((0 : Int) < (a1 : Int)) = false := by simp; omega
                    have t1n : (0 < a1) = False := eq_false (by omega)
                    clear z1 HST
                    go_wp2_with fail
                    go_quiet (fail)
                    clear o1 o2 p1 p2 p3 t1
                    go_wp2_with fail
                    go_roundw
                    case rel => exact ⟨k + 1, by omega, by go_num, hid ⟨D, HF.out.keep ((Chg.refl NoB wr).drewN _), HS2.out⟩⟩
                    case measure => simp [intOf]; omega
                  · have t1 : decide ((0 : Int) < (a1 : Int)) = true := by simp; omega
                    have t1n : (0 < a1) = True := eq_true z1
                    rcases Nat.eq_zero_or_pos a2 with z2 | z2
                    · have HS2 := hid (HST.out (by omega)).out
                      have t2 : decide ((0 : Int) < (a2 : Int)) = false := by simp; omega
                      have t2n : (0 < a2) = False := eq_false (by omega)
                      clear z1 z2 HST
                      go_wp2_with fail
                      go_quiet (fail)
                      clear o1 o2 p1 p2 p3 t1 t2
                      go_wp2_with fail
                      go_roundw
                      case rel => exact ⟨k + 1, by omega, by go_num, hid ⟨D, HF.out.keep ((Chg.refl NoB wr).drewN _), HS2.out⟩⟩
                      case measure => simp [intOf]; omega
                    · have t2 : decide ((0 : Int) < (a2 : Int)) = true := by simp; omega
                      have t2n : (0 < a2) = True := eq_true z2
                      have hwr : IntKind.i64.wrap ((a1 : Int) + (a2 : Int)) = (a1 : Int) + (a2 : Int) := by rw [IntKind.wrap_i64]; omega
                      have hdd : (0 < a1 ∧ 0 < a2 ∧ (a3 = 0 ∨ a1 + a2 < a3)) → Hid (∀ a b, fwD D m i k a b = if a = i ∧ b = k then a1 + a2 else D a b) := fun hy => hid (fun a b => by
                        have hT : fwT D m i k = true := by rw [hTF.out]; exact decide_eq_true hy
                        unfold fwD
                        rw [hT, ← ha1.out, ← ha2.out]; simp)
                      by_cases z3 : a3 = 0 ∨ a1 + a2 < a3
                      · have HDD := hid (hdd ⟨z1, z2, z3⟩).out
                        have hcs : ((a3 : Int) == 0) = true ∨ (((a3 : Int) == 0) = false ∧ decide ((a1 : Int) + (a2 : Int) < (a3 : Int)) = true ∧ a3 ≠ 0) := by
                          rcases Nat.eq_zero_or_pos a3 with h | h
                          · left; simp [h]
                          · right; exact ⟨by simp; omega, by simp; omega, by omega⟩
                        clear hdd HST z1 z2 z3
                        rcases hcs with t3 | ⟨t3, t4, t5⟩
                        · have t3n : (a3 == 0) = true := by simpa using t3
                          go_wp2_with fail
                          go_quiet (fail)
                          go_upto_region 22 with fail
                          refine wp_region_ord 21 (.rd 0 (.rd 1 (.rd 2 (.rd 3 (.rd 4 (.rd 5 (.rd 6 (.rd 7 (.rd 8 (.rd 9 (.rd 10 (.rd 11 (.rd 12 (.rd 13 (.rd 14 (.rd 15 (.rd 16 (.rd 17 (.rd 18 (.rd 19 (.rd 20 (.one 21 (.done))))))))))))))))))))))) (Same wr) (by kernel_rfl) (by kernel_rfl) (by kernel_rfl) (by kernel_rfl) (by kernel_rfl) (fun _ _ d _ _ h => by cases d <;> exact h) (Same.of ((Chg.refl _ wr).drewN _).drew) (fun hS0 => ?_)
                          refine wpOrd_rd rfl rfl (by first | decide | simp) (by assumption) (fun w' hw' K hK => by ((try unfold Same at hw'); (try go_split_ands); go_simp; exact hK)) ?_
                          refine wpOrd_rd rfl rfl (by first | decide | simp) (by assumption) (fun w' hw' K hK => by ((try unfold Same at hw'); (try go_split_ands); go_simp; exact hK)) ?_
                          refine wpOrd_rd rfl rfl (by first | decide | simp) (by assumption) (fun w' hw' K hK => by ((try unfold Same at hw'); (try go_split_ands); go_simp; exact hK)) ?_
                          refine wpOrd_rd rfl rfl (by first | decide | simp) (by assumption) (fun w' hw' K hK => by ((try unfold Same at hw'); (try go_split_ands); go_simp; exact hK)) ?_
                          refine wpOrd_rd rfl rfl (by first | decide | simp) (by assumption) (fun w' hw' K hK => by ((try unfold Same at hw'); (try go_split_ands); go_simp; exact hK)) ?_
                          refine wpOrd_rd rfl rfl (by first | decide | simp) (by assumption) (fun w' hw' K hK => by ((try unfold Same at hw'); (try go_split_ands); go_simp; exact hK)) ?_
                          refine wpOrd_rd rfl rfl (by first | decide | simp) (by assumption) (fun w' hw' K hK => by ((try unfold Same at hw'); (try go_split_ands); go_simp; exact hK)) ?_
                          refine wpOrd_rd rfl rfl (by first | decide | simp) (by assumption) (fun w' hw' K hK => by ((try unfold Same at hw'); (try go_split_ands); go_simp; exact hK)) ?_
                          refine wpOrd_rd rfl rfl (by first | decide | simp) (by assumption) (fun w' hw' K hK => by ((try unfold Same at hw'); (try go_split_ands); go_simp; exact hK)) ?_
                          refine wpOrd_rd rfl rfl (by first | decide | simp) (by assumption) (fun w' hw' K hK => by ((try unfold Same at hw'); (try go_split_ands); go_simp; exact hK)) ?_
                          refine wpOrd_rd rfl rfl (by first | decide | simp) (by assumption) (fun w' hw' K hK => by ((try unfold Same at hw'); (try go_split_ands); go_simp; exact hK)) ?_
                          refine wpOrd_rd rfl rfl (by first | decide | simp) (by assumption) (fun w' hw' K hK => by ((try unfold Same at hw'); (try go_split_ands); go_simp; exact hK)) ?_
                          refine wpOrd_rd rfl rfl (by first | decide | simp) (by assumption) (fun w' hw' K hK => by ((try unfold Same at hw'); (try go_split_ands); go_simp; exact hK)) ?_
                          refine wpOrd_rd rfl rfl (by first | decide | simp) (by assumption) (fun w' hw' K hK => by ((try unfold Same at hw'); (try go_split_ands); go_simp; exact hK)) ?_
                          refine wpOrd_rd rfl rfl (by first | decide | simp) (by assumption) (fun w' hw' K hK => by ((try unfold Same at hw'); (try go_split_ands); go_simp; exact hK)) ?_
                          refine wpOrd_rd rfl rfl (by first | decide | simp) (by assumption) (fun w' hw' K hK => by ((try unfold Same at hw'); (try go_split_ands); go_simp; exact hK)) ?_
                          refine wpOrd_rd rfl rfl (by first | decide | simp) (by assumption) (fun w' hw' K hK => by ((try unfold Same at hw'); (try go_split_ands); go_simp; exact hK)) ?_
                          refine wpOrd_rd rfl rfl (by first | decide | simp) (by assumption) (fun w' hw' K hK => by ((try unfold Same at hw'); (try go_split_ands); go_simp; exact hK)) ?_
                          refine wpOrd_rd rfl rfl (by first | decide | simp) (by assumption) (fun w' hw' K hK => by ((try unfold Same at hw'); (try go_split_ands); go_simp; exact hK)) ?_
                          refine wpOrd_rd rfl rfl (by first | decide | simp) (by assumption) (fun w' hw' K hK => by ((try unfold Same at hw'); (try go_split_ands); go_simp; exact hK)) ?_
                          refine wpOrd_rd rfl rfl (by first | decide | simp) (by assumption) (fun w' hw' K hK => by ((try unfold Same at hw'); (try go_split_ands); go_simp; exact hK)) ?_
                          refine wpOrd_do rfl ?_
                          refine step_storeC2 rfl rfl gi k rfl rfl rfl rfl (((Chg.refl NoB wr).drewN _).drew.heap (HF.out.row i gi HGI.out) nob) (by rw [rowD_len]; exact hkl) (by kernel_rfl) ?_; intro w4 hb4 hc4 hs4
                          (try dsimp only [Act.put])
                          refine wpOrd_last ?_
                          refine wpOrd_nil ?_
                          have HSE := hid (HF.out.set HGI.out hkl (v := a1 + a2) (D' := fwD D m i k) (by rw [hb4]; rfl) (((Chg.refl (OneB gi) wr).drewN _).drew.trans' hc4) HDD.out)
                          clear hb4 hc4 hs4 o1 o2 p1 p2 p3 t1 t2 hS0
                          go_wp2_with fail
                          go_roundw
                          case rel =>
                            exact ⟨k + 1, by omega, by go_num, hid ⟨_, HSE.out, HNX.out⟩⟩
                          case measure => simp [intOf]; omega
                        · have t3n : (a3 == 0) = false := by simpa using t5
                          clear t5
                          go_wp2_with fail
                          go_quiet (fail)
                          go_upto_region 22 with fail
                          refine wp_region_ord 21 (.rd 0 (.rd 1 (.rd 2 (.rd 3 (.rd 4 (.rd 5 (.rd 6 (.rd 7 (.rd 8 (.rd 9 (.rd 10 (.rd 11 (.rd 12 (.rd 13 (.rd 14 (.rd 15 (.rd 16 (.rd 17 (.rd 18 (.rd 19 (.rd 20 (.one 21 (.done))))))))))))))))))))))) (Same wr) (by kernel_rfl) (by kernel_rfl) (by kernel_rfl) (by kernel_rfl) (by kernel_rfl) (fun _ _ d _ _ h => by cases d <;> exact h) (Same.of ((Chg.refl _ wr).drewN _).drew) (fun hS0 => ?_)
                          refine wpOrd_rd rfl rfl (by first | decide | simp) (by assumption) (fun w' hw' K hK => by ((try unfold Same at hw'); (try go_split_ands); go_simp; exact hK)) ?_
                          refine wpOrd_rd rfl rfl (by first | decide | simp) (by assumption) (fun w' hw' K hK => by ((try unfold Same at hw'); (try go_split_ands); go_simp; exact hK)) ?_
                          refine wpOrd_rd rfl rfl (by first | decide | simp) (by assumption) (fun w' hw' K hK => by ((try unfold Same at hw'); (try go_split_ands); go_simp; exact hK)) ?_
                          refine wpOrd_rd rfl rfl (by first | decide | simp) (by assumption) (fun w' hw' K hK => by ((try unfold Same at hw'); (try go_split_ands); go_simp; exact hK)) ?_
                          refine wpOrd_rd rfl rfl (by first | decide | simp) (by assumption) (fun w' hw' K hK => by ((try unfold Same at hw'); (try go_split_ands); go_simp; exact hK)) ?_
                          refine wpOrd_rd rfl rfl (by first | decide | simp) (by assumption) (fun w' hw' K hK => by ((try unfold Same at hw'); (try go_split_ands); go_simp; exact hK)) ?_
                          refine wpOrd_rd rfl rfl (by first | decide | simp) (by assumption) (fun w' hw' K hK => by ((try unfold Same at hw'); (try go_split_ands); go_simp; exact hK)) ?_
                          refine wpOrd_rd rfl rfl (by first | decide | simp) (by assumption) (fun w' hw' K hK => by ((try unfold Same at hw'); (try go_split_ands); go_simp; exact hK)) ?_
                          refine wpOrd_rd rfl rfl (by first | decide | simp) (by assumption) (fun w' hw' K hK => by ((try unfold Same at hw'); (try go_split_ands); go_simp; exact hK)) ?_
                          refine wpOrd_rd rfl rfl (by first | decide | simp) (by assumption) (fun w' hw' K hK => by ((try unfold Same at hw'); (try go_split_ands); go_simp; exact hK)) ?_
                          refine wpOrd_rd rfl rfl (by first | decide | simp) (by assumption) (fun w' hw' K hK => by ((try unfold Same at hw'); (try go_split_ands); go_simp; exact hK)) ?_
                          refine wpOrd_rd rfl rfl (by first | decide | simp) (by assumption) (fun w' hw' K hK => by ((try unfold Same at hw'); (try go_split_ands); go_simp; exact hK)) ?_
                          refine wpOrd_rd rfl rfl (by first | decide | simp) (by assumption) (fun w' hw' K hK => by ((try unfold Same at hw'); (try go_split_ands); go_simp; exact hK)) ?_
                          refine wpOrd_rd rfl rfl (by first | decide | simp) (by assumption) (fun w' hw' K hK => by ((try unfold Same at hw'); (try go_split_ands); go_simp; exact hK)) ?_
                          refine wpOrd_rd rfl rfl (by first | decide | simp) (by assumption) (fun w' hw' K hK => by ((try unfold Same at hw'); (try go_split_ands); go_simp; exact hK)) ?_
                          refine wpOrd_rd rfl rfl (by first | decide | simp) (by assumption) (fun w' hw' K hK => by ((try unfold Same at hw'); (try go_split_ands); go_simp; exact hK)) ?_
                          refine wpOrd_rd rfl rfl (by first | decide | simp) (by assumption) (fun w' hw' K hK => by ((try unfold Same at hw'); (try go_split_ands); go_simp; exact hK)) ?_
                          refine wpOrd_rd rfl rfl (by first | decide | simp) (by assumption) (fun w' hw' K hK => by ((try unfold Same at hw'); (try go_split_ands); go_simp; exact hK)) ?_
                          refine wpOrd_rd rfl rfl (by first | decide | simp) (by assumption) (fun w' hw' K hK => by ((try unfold Same at hw'); (try go_split_ands); go_simp; exact hK)) ?_
                          refine wpOrd_rd rfl rfl (by first | decide | simp) (by assumption) (fun w' hw' K hK => by ((try unfold Same at hw'); (try go_split_ands); go_simp; exact hK)) ?_
                          refine wpOrd_rd rfl rfl (by first | decide | simp) (by assumption) (fun w' hw' K hK => by ((try unfold Same at hw'); (try go_split_ands); go_simp; exact hK)) ?_
                          refine wpOrd_do rfl ?_
                          refine step_storeC2 rfl rfl gi k rfl rfl rfl rfl (((Chg.refl NoB wr).drewN _).drew.heap (HF.out.row i gi HGI.out) nob) (by rw [rowD_len]; exact hkl) (by kernel_rfl) ?_; intro w4 hb4 hc4 hs4
                          (try dsimp only [Act.put])
                          refine wpOrd_last ?_
                          refine wpOrd_nil ?_
                          have HSE := hid (HF.out.set HGI.out hkl (v := a1 + a2) (D' := fwD D m i k) (by rw [hb4]; rfl) (((Chg.refl (OneB gi) wr).drewN _).drew.trans' hc4) HDD.out)
                          clear hb4 hc4 hs4 o1 o2 p1 p2 p3 t1 t2 hS0
                          go_wp2_with fail
                          go_roundw
                          case rel =>
                            exact ⟨k + 1, by omega, by go_num, hid ⟨_, HSE.out, HNX.out⟩⟩
                          case measure => simp [intOf]; omega
                      · have HS2 := hid (HST.out (fun h => z3 h.2.2)).out
                        have t3 : ((a3 : Int) == 0) = false := by simp; omega
                        have t3n : (a3 == 0) = false := by simp; omega
                        have t4 : decide ((a1 : Int) + (a2 : Int) < (a3 : Int)) = false := by simp; omega
                        clear hdd HST z1 z2 z3
                        go_wp2_with fail
                        go_quiet (fail)
                        clear o1 o2 p1 p2 p3 t1 t2 t3 t4
                        go_wp2_with fail
                        go_roundw
                        case rel => exact ⟨k + 1, by omega, by go_num, hid ⟨D, HF.out.keep ((Chg.refl NoB wr).drewN _), HS2.out⟩⟩
                        case measure => simp [intOf]; omega
                · obtain rfl : l.length = k := by omega
                  have HN := hid HFW.out.row
                  go_wp2_with fail
                  go_roundw
                  case rel => exact ⟨i + 1, by omega, by go_num, hid ⟨D, HF.out, HN.out⟩⟩
                  case measure => simp [intOf]; omega
            · obtain rfl : l.length = i := by omega
              have HN := hid (HFW.out.stage hml)
              go_wp2_with fail
              go_roundw
              case rel => exact ⟨m + 1, by omega, by go_num, hid ⟨D, HF.out, HN.out⟩⟩
              case measure => simp [intOf]; omega
        · obtain rfl : l.length = m := by omega
          go_wp2_with fail
          go_ret
          refine ⟨_, gs, D, rfl, hid ⟨HF.out, hgs.out, fun a b x y ha hb => ?_⟩⟩
          have h9 := HFW.out
          rw [hnm.out] at h9 ha hb
          exact h9.done ha hb
end Go.Proofs.Ytlhblkpdfdpiaaa.Wt
