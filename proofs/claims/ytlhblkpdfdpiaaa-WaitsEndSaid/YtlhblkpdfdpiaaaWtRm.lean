import Derived.Test.YtlhblkpdfdpiaaaWtRn
namespace Go.Proofs.Ytlhblkpdfdpiaaa.Wt
open Go.RowKit Go.ChangeMaps Go.MapKept
attribute [local go_sem] Go.Oper.rdK
set_option linter.unusedVariables false
set_option linter.unusedSimpArgs false
set_option linter.unnecessarySimpa false
set_option maxHeartbeats 8000000

/-- A slice at the head of a block of the call's own. -/
structure OwI (w0 w : World) (v : Value) (l : List Int) : Prop where
  row : OwW w 3 1 v l.length (l.map (Value.int .i64))
  ge : ∀ b, OwnB v b → w0.heap.size ≤ b
  chg : Chg NoB w0 w
theorem OwI.keep {w0 w w' : World} {v : Value} {l : List Int} (h : OwI w0 w v l) (hc : Chg NoB w w') : OwI w0 w' v l := ⟨h.row.keep hc (fun _ _ => nob), h.ge, h.chg.trans' hc⟩
theorem owW_rd {w : World} {v : Value} {l : List Int} (h : OwW w 3 1 v l.length (l.map (Value.int .i64))) : Rd w 1 encI v l := by
  have h1 : OwW w 3 1 v l.length (l.flatMap encI) := by rw [flatMap_encI]; exact h
  obtain ⟨ao, co, e1, h2, h3, h4⟩ := h1.form
  refine ⟨ao, co, e1, h2, h3, fun i x hi => ?_⟩
  obtain ⟨g, cap, e2, h5, h6⟩ := h1.cell (enc := encI) (fun _ => rfl) hi
  rw [e1] at e2
  cases e2
  exact ⟨g, 0, rfl, fun j u hu => by rw [Nat.zero_add]; exact h6 j u hu⟩
theorem OwI.rd {w0 w : World} {v : Value} {l : List Int} (h : OwI w0 w v l) : Rd w 1 encI v l := owW_rd h.row
theorem _root_.Go.Proofs.Ytlhblkpdfdpiaaa.Rd.tail1 {α : Type} {w : World} {size : Nat} {enc : α → List Value} {a : Option Addr} {c : Nat} {l : List α} (h : Rd w size enc (.slice a l.length c) l) (hsz : 0 < size) (k : Nat) (hk : k < l.length) : ∃ g off, a = some ⟨g, off, none⟩ ∧ Rd w size enc (.slice (some ⟨g, off + k * size, none⟩) (l.length - k) (c - k)) (l.drop k) := by
  obtain ⟨a', c', e, h1, h2, h3⟩ := h
  cases e
  obtain ⟨g, off, ha, _⟩ := h3 k _ (List.getElem?_eq_getElem hk)
  refine ⟨g, off, ha, _, _, by rw [List.length_drop], by rw [List.length_drop]; omega, by rw [List.length_drop]; omega, fun i x hi => ?_⟩
  rw [List.getElem?_drop] at hi
  obtain ⟨b, o, hb, h4⟩ := h3 _ _ hi
  rw [ha] at hb
  cases hb
  refine ⟨g, off + k * size, rfl, fun j u hu => ?_⟩
  have := h4 j u hu
  rwa [show off + (k + i) * size + j = off + k * size + i * size + j by rw [Nat.add_mul]; omega] at this
/-- The fold so far. -/
def nmF (l : Edges) (i j : Nat) : List Int := (((l.take i).flatMap fun p => [p.1, p.2]) ++ (match l[i]? with | some p => [p.1, p.2].take j | none => [])).foldl insU []
theorem nmF_len (l : Edges) (i j : Nat) (hi : i ≤ l.length) : (nmF l i j).length ≤ 2 * l.length + 2 := by
  have h1 := len_of_sub (srt_nodup (foldU_srt (l := ((l.take i).flatMap fun p => [p.1, p.2]) ++ (match l[i]? with | some p => [p.1, p.2].take j | none => [])) List.Pairwise.nil)) (m := ((l.take i).flatMap fun p => [p.1, p.2]) ++ (match l[i]? with | some p => [p.1, p.2].take j | none => [])) (fun z hz => (foldU_mem.1 hz).elim id (fun h => by simp at h))
  have h2 : ∀ l : Edges, (l.flatMap fun p => [p.1, p.2]).length = 2 * l.length := by
    intro l
    induction l with
    | nil => rfl
    | cons x l ih => rw [List.flatMap_cons, List.length_append, ih]; simp; omega
  unfold nmF
  rw [List.length_append, h2, List.length_take] at h1
  have h3 : (match l[i]? with | some p => [p.1, p.2].take j | none => ([] : List Int)).length ≤ 2 := by
    cases l[i]? with
    | none => simp
    | some p => simp; omega
  omega
theorem nmF_snoc {l : Edges} {i j : Nat} {x : Int} {p : Int × Int} (hp : l[i]? = some p) (hj : [p.1, p.2][j]? = some x) : nmF l i (j + 1) = insU (nmF l i j) x := by
  unfold nmF
  rw [hp]
  have h1 : [p.1, p.2].take (j + 1) = [p.1, p.2].take j ++ [x] := by
    obtain ⟨hjl, hje⟩ := List.getElem?_eq_some_iff.1 hj
    rw [List.take_succ_eq_append_getElem hjl, hje]
  simp only [h1]
  rw [← List.append_assoc, List.foldl_append]
  rfl
theorem nmF_next {l : Edges} {i : Nat} (hi : i < l.length) : nmF l i 2 = nmF l (i + 1) 0 := by
  unfold nmF
  rw [List.getElem?_eq_getElem hi, List.take_succ_eq_append_getElem hi, List.flatMap_append]
  have : (match l[i + 1]? with | some p => [p.1, p.2].take 0 | none => ([] : List Int)) = [] := by cases l[i + 1]? <;> rfl
  rw [this]
  simp
theorem nmF_end (l : Edges) : nmF l l.length 0 = nm l := by
  unfold nmF nm uset
  rw [List.getElem?_eq_none (Nat.le_refl _), List.take_length, List.append_nil]

set_option maxRecDepth 100000 in
theorem rnames_calls (w : World) (v : Value) (l : Edges) (hv : Rd w 2 encE v l) (hl : l.length ≤ 1000) :
    Calls Try.prog 30 #[v] w fun e w' => ∃ v', e = .returned v' ∧ Hid (OwI w w' v' (nm l)) := by
  obtain ⟨a, c, rfl, q1, q2, hr⟩ := hv
  unfold maxLen at q2
  have HR := hid hr
  clear hr
  go_enter Try.func30, Try.ntmps30
  go_wp2_with fail
  go_loopw [3, 4] (fun s3 s4 wr => ∃ i : Nat, i ≤ l.length ∧ s4 = .int .i64 i ∧ Hid (OwI w wr s3 (nmF l i 0))) (fun _ i _ => l.length - (intOf i).toNat)
  case atStart => exact ⟨0, by omega, rfl, hid ⟨by rw [show nmF l 0 0 = [] by unfold nmF; cases l[0]? <;> rfl]; exact OwW.nil, fun b hb => by simp [OwnB, Value.ownBlock] at hb, Chg.refl _ _⟩⟩
  case round =>
    obtain ⟨i, hi, rfl, hI⟩ := hrel
    by_cases hlt : i < l.length
    · obtain ⟨p, hp⟩ := named l[i]
      have HPI : Hid (l[i]? = some p) := hid (by rw [List.getElem?_eq_getElem hlt, hp.out])
      have hi0 : (0 : Int) ≤ (i : Int) := by omega
      have hil : (i : Int) < (l.length : Int) := by omega
      go_wp2_with fail
      go_loopw [3, 5] (fun s3 s5 wr => ∃ j : Nat, j ≤ 2 ∧ s5 = .int .i64 j ∧ Hid (OwI w wr s3 (nmF l i j))) (fun _ j _ => 2 - (intOf j).toNat)
      case atStart => exact ⟨0, by omega, rfl, hI⟩
      case round =>
        clear hI
        obtain ⟨j, hj, rfl, hJ⟩ := hrel
        rename World => wq
        by_cases hj2 : j < 2
        · obtain ⟨x, hx⟩ : ∃ x, [p.1, p.2][j]? = some x := ⟨_, List.getElem?_eq_getElem (by simpa using hj2)⟩
          have HXJ := hid hx
          obtain ⟨b, off, hab, h2⟩ := HR.out i p HPI.out
          have g0 : w.cell? ⟨b, off + i * 2 + j, none⟩ = some (.int .i64 x) := h2 j _ (by
            have h9 : (encE p)[j]? = ([p.1, p.2].map (Value.int .i64))[j]? := rfl
            rw [h9, List.getElem?_map, hx]; rfl)
          subst hab
          obtain ⟨L, hL⟩ := named (nmF l i j)
          rw [← hL.out] at hJ
          have HJ := hJ
          have HLN : Hid (nmF l i (j + 1) = insU L x) := hid (by rw [nmF_snoc HPI.out HXJ.out, hL.out])
          have hLl : L.length ≤ 2002 := by rw [hL.out]; have := nmF_len l i j hi; omega
          have G0 := hid g0
          have hj0 : (0 : Int) ≤ (j : Int) := by omega
          have hj1 : (j : Int) < 2 := by omega
          obtain ⟨oa, oc, e1, o1, o2, o3⟩ := HJ.out.rd
          subst e1
          have HO3 := hid o3
          unfold maxLen at o2
          have g1 := HJ.out.chg.cell g0 nob
          have G1 := hid g1
          clear hJ h2 hx o3 g0 g1
          go_wp2_with fail
          go_loopw [6] (fun s6 w2 => ∃ t : Nat, t ≤ insAt L x ∧ s6 = .int .i64 t ∧ Hid (Chg NoB wq w2)) (fun t _ => L.length - (intOf t).toNat)
          case atStart => exact ⟨0, by omega, rfl, hid (Chg.refl _ _)⟩
          case round =>
            obtain ⟨t, ht, rfl, hC⟩ := hrel
            have htl := insAt_le L x
            have g1 := hC.out.cell G1.out nob
            have ht0 : (0 : Int) ≤ (t : Int) := by omega
            by_cases h1 : t < insAt L x
            · obtain ⟨h3, h4⟩ := insAt_lt h1
              obtain ⟨y, hy⟩ := named L[t]
              rw [← hy.out] at h4
              obtain ⟨b2, o, hab2, h5⟩ := HO3.out t y (by rw [List.getElem?_eq_getElem h3, hy.out])
              have g2 := hC.out.cell (h5 0 _ rfl) nob
              subst hab2
              simp only [Nat.add_zero, Nat.mul_one] at g2
              have htn : (t : Int) < (L.length : Int) := by omega
              have hd : decide (y < x) = true := decide_eq_true h4
              clear h5
              go_wp2_with fail
              go_quiet (fail)
              clear g1 g2 hd h4
              go_wp2_with fail
              go_roundw
              case rel => exact ⟨t + 1, by omega, by go_num, hid (hC.out.drewN _)⟩
              case measure => simp [intOf]; omega
            · obtain rfl : t = insAt L x := by omega
              have hrw := HJ.out.row
              have HINS1 : x ∉ [x].take 0 → Hid (L[insAt L x]? ≠ some x → insU L x = L.take (insAt L x) ++ [x] ++ L.drop (insAt L x)) := fun _ => hid (fun h => by rw [insU_at, if_neg h])
              have HI2 := HINS1 (by simp)
              clear h1 ht HINS1
              by_cases hA : insAt L x < L.length
              · obtain ⟨y, hy⟩ := named L[insAt L x]
                have hst := insAt_stop hA
                rw [← hy.out] at hst
                have HLY : Hid (L[insAt L x]? = some y) := hid (by rw [List.getElem?_eq_getElem hA, hy.out])
                obtain ⟨g, oc, cur, e2, hgg⟩ : ∃ g cap cur, Value.slice oa L.length oc = .slice (some ⟨g, 0, none⟩) L.length cap ∧ (wq.heap[g]? = some (.cells cur 3 (0, 0)) ∧ L.length ≤ cap) := by
                  rcases hrw.2 with ⟨_, h0⟩ | ⟨g, cap, cur, e2, h3, h4, _⟩
                  · omega
                  · exact ⟨g, cap, cur, e2, h3, h4⟩
                cases e2
                obtain ⟨_, _, hab2, h5⟩ := HO3.out (insAt L x) y HLY.out
                cases hab2
                have g2 := hC.out.cell (h5 0 _ rfl) nob
                simp only [Nat.add_zero, Nat.mul_one, Nat.zero_add] at g2
                have htn : (insAt L x : Int) < (L.length : Int) := by omega
                have hd : decide (y < x) = false := decide_eq_false hst
                have hteq : ((insAt L x : Int) == (L.length : Int)) = false := by simp; omega
                have hteq2 : (insAt L x == L.length) = false := by simp; omega
                clear h5 hst hgg
                by_cases hyx : y = x
                · have hne : (y != x) = false := by simp [hyx]
                  have HSAME : Hid (insU L x = L) := hid (by rw [insU_at, HLY.out, hyx]; simp)
                  clear hyx hrw
                  go_wp2_with fail
                  go_quiet (fail)
                  go_wp2_with fail
                  go_quiet (fail)
                  clear g1 g2 hd hne
                  go_wp2_with fail
                  go_roundw
                  case rel => exact ⟨j + 1, by omega, by go_num, by rw [HLN.out, HSAME.out]; exact hid (HJ.out.keep (hC.out.drewN _))⟩
                  case measure => simp [intOf]; omega
                · have hne : (y != x) = true := by simpa using hyx
                  have HINS := hid (HI2.out (by rw [HLY.out]; simpa using hyx))
                  have hct : (oc = insAt L x) = False := eq_false (by omega)
                  obtain ⟨_, _, e3, htl3⟩ := (owW_rd hrw).tail1 (by decide) (insAt L x) hA
                  cases e3
                  rw [Nat.zero_add, Nat.mul_one] at htl3
                  have HTL := hid htl3
                  have HCT : Hid (OwW wq 3 1 (.slice (some ⟨g, 0, none⟩) (insAt L x) (insAt L x)) (insAt L x) ((L.take (insAt L x)).map (Value.int .i64))) := hid (by
                    have := hrw.cut (insAt L x) htl
                    rwa [Nat.mul_one, ← List.map_take] at this)
                  have HFP : Hid (∀ k, OwnB (.slice (some ⟨g, 0, none⟩) (insAt L x) (insAt L x)) k → w.heap.size ≤ k ∧ k < wq.heap.size) := hid (fun k hk => ⟨HJ.out.ge k (by simpa [OwnB, Value.ownBlock] using hk), HCT.out.lt hk⟩)
                  have hto : (insAt L x : Int) ≤ (oc : Int) := by omega
                  have hlo : (L.length : Int) ≤ (oc : Int) := by omega
                  have htle : (insAt L x : Int) ≤ (L.length : Int) := by omega
                  clear hyx hrw htl3
                  go_wp2_with fail
                  go_quiet (fail)
                  go_wp2_with fail
                  go_quiet (fail)
                  go_upto_region 12 with fail
                  refine wp_gen (fun W => Chg NoB wq W) ((hC.out.drewN _).drewN _) ?_
                  intro W hW
                  have HW := hid hW
                  have HTW := hid (HTL.out.keep (hW.alloc (.cells #[] 3)) (fun _ _ _ => nob))
                  have hzW := hW.size
                  have HOE : Hid (∀ b, OwnB (.slice (some ⟨W.heap.size, 0, none⟩) 0 0) b → b = W.heap.size) := hid (fun b hb => by simpa [OwnB, Value.ownBlock, eq_comm] using hb)
                  have hdl : (L.drop (insAt L x)).length = L.length - insAt L x := List.length_drop
                  have htl2 : (L.take (insAt L x)).length = insAt L x := by rw [List.length_take]; omega
                  clear hC g1 hW
                  go_upto_region 13 with (at_builtin; refine step_appR slInt rfl _ _ rfl (n := 0) (xs := []) (v := .slice (some ⟨W.heap.size, 0, none⟩) 0 0) ⟨by simp, .inr ⟨W.heap.size, 0, _, rfl, blk_new _ _, Nat.le_refl _, by simp [maxLen], by simp, by simp⟩⟩ rfl (enc := encI) (fun _ => rfl) (fun x u hu => by simp [encI] at hu; rw [hu]; rfl) HTW.out rfl (by omega) (by unfold maxLen; omega) ?_; intro v5 w5 ho5 hc5 hn5)
                  have C5 : Chg NoB W w5 := ((Chg.refl NoB W).alloc _).new hc5 (fun b hb => by have := HOE.out b hb; omega)
                  have hv5 : ∀ b, OwnB v5 b → W.heap.size ≤ b := fun b hb => (hn5 b hb).elim (fun h => by have := HOE.out b h; omega) (fun h => by simp at h; omega)
                  have HV5 := hid hv5
                  have HC5 := hid (HW.out.trans' C5)
                  have HR5 : Hid (Rd w5 1 encI v5 (L.drop (insAt L x))) := hid (owW_rd (by simpa [flatMap_encI] using ho5))
                  have HCT5 := hid (HCT.out.keep HC5.out (fun _ _ => nob))
                  have g5 := HC5.out.cell G1.out nob
                  have G5 := hid g5
                  have hz5 := C5.size
                  have HCB : Hid (∀ k, OwnB (.slice (some ⟨g, 0, none⟩) (insAt L x) (insAt L x)) k → w.heap.size ≤ k ∧ k < wq.heap.size) := HFP
                  have HBW : Hid (b < w.heap.size) := hid (World.block_lt_of_cell? w _ G0.out)
                  clear ho5 hc5 hn5 C5 hv5
                  go_wp2_with fail
                  refine wp_region_ord 15 (.rd 0 (.rd 1 (.rd 2 (.rd 3 (.rd 4 (.rd 5 (.rd 6 (.rd 7 (.rd 8 (.rd 9 (.rd 12 (.one 10 (.one 11 (.one 13 (.rd 14 (.done)))))))))))))))) (fun w' => w'.cell? ⟨b, off + i * 2 + j, none⟩ = some (.int .i64 x)) (by kernel_rfl) (by kernel_rfl) (by kernel_rfl) (by kernel_rfl) (by kernel_rfl) (fun _ _ d _ _ h => by cases d <;> exact h) (G5.out) (fun hS0 => ?_)
                  refine wpOrd_rd rfl rfl (by first | decide | simp) (by assumption) (fun w' hw' K hK => by ((try unfold Same at hw'); (try go_split_ands); go_simp; exact hK)) ?_
                  refine wpOrd_rd rfl rfl (by first | decide | simp) (by assumption) (fun w' hw' K hK => by ((try unfold Same at hw'); (try go_split_ands); go_simp; exact hK)) ?_
                  refine wpOrd_rd rfl rfl (by first | decide | simp) (by assumption) (fun w' hw' K hK => by ((try unfold Same at hw'); (try go_split_ands); go_simp; exact hK)) ?_
                  refine wpOrd_rd rfl rfl (by first | decide | simp) (by assumption) (fun w' hw' K hK => by ((try unfold Same at hw'); (try go_split_ands); go_simp; exact hK)) ?_
                  refine wpOrd_rd rfl rfl (by first | decide | simp) (by assumption) (fun w' hw' K hK => by ((try unfold Same at hw'); (try go_split_ands); go_simp; exact hK)) ?_
                  refine wpOrd_rd rfl rfl (by first | decide | simp) (by assumption) (fun w' hw' K hK => by ((try unfold Same at hw'); (try go_split_ands); go_simp; exact hK)) ?_
                  refine wpOrd_rd rfl rfl (by first | decide | simp) (by assumption) (fun w' hw' K hK => by ((try unfold Same at hw'); (try go_split_ands); go_simp; exact hK)) ?_
                  refine wpOrd_rd rfl rfl (by first | decide | simp) (by assumption) (fun w' hw' K hK => by ((try unfold Same at hw'); (try go_split_ands); go_simp; exact hK)) ?_
                  refine wpOrd_rd rfl rfl (by first | decide | simp) (by assumption) (fun w' hw' K hK => by ((try unfold Same at hw'); (try go_split_ands); go_simp; exact hK)) ?_
                  refine wpOrd_rd rfl rfl (by first | decide | simp) (by assumption) (fun w' hw' K hK => by ((try unfold Same at hw'); (try go_split_ands); go_simp; exact hK)) ?_
                  refine wpOrd_rd rfl rfl (by first | decide | simp) (by assumption) (fun w' hw' K hK => by ((try unfold Same at hw'); (try go_split_ands); go_simp; exact hK)) ?_
                  refine wpOrd_do rfl ?_
                  (first | refine wpList_plain rfl (fun K hK => ?_) | refine wpList_step (fun K hK => ?_))
                  go_simp
                  refine hK _ _ ?_
                  clear hK K
                  (try dsimp only [Act.put])
                  refine wpOrd_done (((Chg.refl NoB w5).drew.alloc _).cell G5.out nob) (fun hS1 => ?_)
                  refine wpOrd_do rfl ?_
                  refine step_appW slInt rfl _ _ rfl (HCT5.out.keep ((Chg.refl NoB w5).drew.alloc _) (fun _ _ => nob)) rfl ⟨w5.heap.size, 0, none⟩ 1 1 [.int .i64 x] rfl rfl (newsB (blk_new _ _)) (by simp [Value.oneCell']) (by omega) (by unfold maxLen; omega) ?_; intro v6 w6 ho6 hc6 hn6
                  (try dsimp only [Act.put])
                  (try simp only [List.setIfInBounds_toArray, List.set_cons_zero, List.set_cons_succ])
                  refine wpOrd_done (hc6.cell (((Chg.refl NoB w5).drew.alloc _).cell G5.out nob) (fun h => by have := (HCB.out b h).1; have := HBW.out; omega)) (fun hS2 => ?_)
                  refine wpOrd_do rfl ?_
                  refine step_appR slInt rfl _ _ rfl ho6 rfl (enc := encI) (fun _ => rfl) (fun x u hu => by simp [encI] at hu; rw [hu]; rfl) ((HR5.out.keep ((Chg.refl NoB w5).drew.alloc _) (fun _ _ _ => nob)).keep hc6 (fun b' o' h h2 => by obtain ⟨n', c', h⟩ := h; have h8 := HV5.out b' (by rw [h]; simp [OwnB, Value.ownBlock]); have h9 := (HCB.out _ h2).2; omega)) rfl (by omega) (by unfold maxLen; omega) ?_; intro v7 w7 ho7 hc7 hn7
                  (try dsimp only [Act.put])
                  (try simp only [List.setIfInBounds_toArray, List.set_cons_zero, List.set_cons_succ])
                  refine wpOrd_done ((hc7.cell (hc6.cell (((Chg.refl NoB w5).drew.alloc _).cell G5.out nob) (fun h => by have := (HCB.out b h).1; have := HBW.out; omega)) (fun h => (hn6 b h).elim (fun h => by have := (HCB.out b h).1; have := HBW.out; omega) (fun h => by have := HBW.out; have := HJ.out.chg.size; have := HC5.out.size; simp at h; omega)))) (fun hS3 => ?_)
                  refine wpOrd_rd rfl rfl (by first | decide | simp) (by assumption) (fun w' hw' K hK => by ((try unfold Same at hw'); (try go_split_ands); go_simp; exact hK)) ?_
                  refine wpOrd_nil ?_
                  have hs6 := hc6.size
                  simp at hs6
                  have hv6 : ∀ k, OwnB v6 k → OwnB (.slice (some ⟨g, 0, none⟩) (insAt L x) (insAt L x)) k ∨ w5.heap.size ≤ k := fun k hk => (hn6 k hk).elim .inl (fun h => by simp at h; right; omega)
                  have hv7 : ∀ k, OwnB v7 k → OwnB (.slice (some ⟨g, 0, none⟩) (insAt L x) (insAt L x)) k ∨ w5.heap.size ≤ k := fun k hk => (hn7 k hk).elim (fun h => hv6 k h) (fun h => by right; omega)
                  have HROW : Hid (OwI w w7 v7 (insU L x)) := hid ⟨by
                    rw [HINS.out]
                    have e1 : (L.take (insAt L x) ++ [x] ++ L.drop (insAt L x)).length = insAt L x + 1 + (L.drop (insAt L x)).length := by simp; omega
                    rw [e1]
                    simpa [flatMap_encI] using ho7, fun k hk => (hv7 k hk).elim (fun h => (HCB.out k h).1) (fun h => by have := HJ.out.chg.size; have := HC5.out.size; omega), ((HJ.out.chg.trans' HC5.out).new (((Chg.refl (OwnB (.slice (some ⟨g, 0, none⟩) (insAt L x) (insAt L x))) w5).drew.alloc _).trans' hc6) (fun k hk => (HCB.out k hk).1)).new hc7 (fun k hk => (hv6 k hk).elim (fun h => (HCB.out k h).1) (fun h => by have := HJ.out.chg.size; have := HC5.out.size; omega))⟩
                  clear ho6 hc6 hn6 ho7 hc7 hn7 hv6 hv7 hs6 hS0 g5
                  go_wp2_with fail
                  go_roundw
                  case rel => exact ⟨j + 1, by omega, by go_num, by rw [HLN.out]; exact HROW⟩
                  case measure => simp [intOf]; omega
              · have hAE : insAt L x = L.length := by omega
                have HINS := hid (HI2.out (by rw [hAE, List.getElem?_eq_none (Nat.le_refl _)]; simp))
                have hd0 : L.drop (insAt L x) = [] := by rw [hAE, List.drop_length]
                have HD0 := hid hd0
                have htn : ¬ (insAt L x : Int) < (L.length : Int) := by omega
                have hteq : ((insAt L x : Int) == (L.length : Int)) = true := by simp; omega
                have hteq2 : (insAt L x == L.length) = true := by simp; omega
                have hlt2 : (insAt L x < L.length) = False := eq_false (by omega)
                have hto : (insAt L x : Int) ≤ (oc : Int) := by omega
                have hlo : (L.length : Int) ≤ (oc : Int) := by omega
                have htle : (insAt L x : Int) ≤ (L.length : Int) := by omega
                have hll0 : L.length - insAt L x = 0 := by omega
                have hrdE : ∀ (a : Option Addr) (c : Nat), Rd wq 1 encI (.slice a 0 c) (L.drop (insAt L x)) := fun a c => ⟨a, c, by rw [HD0.out]; rfl, by rw [HD0.out]; simp, by rw [HD0.out]; simp, fun i y hy => by rw [HD0.out] at hy; simp at hy⟩
                rcases hrw.2 with ⟨e2, h0⟩ | ⟨g, cap, cur, e2, hg3, hg4, _⟩
                · have hl0 : L = [] := List.eq_nil_of_length_eq_zero h0
                  subst hl0
                  injection e2 with q1' _ q3'
                  subst q1' q3'
                  have hI0 : insAt ([] : List Int) x = 0 := rfl
                  have HTL : Hid (Rd wq 1 encI (.slice none 0 0) ([] : List Int)) := hid ⟨none, 0, rfl, by simp, by simp, fun i y hy => by simp at hy⟩
                  have HCT : Hid (OwW wq 3 1 (.slice none 0 0) 0 ([] : List Value)) := hid OwW.nil
                  have HFP : Hid (∀ k, OwnB (.slice none 0 0) k → w.heap.size ≤ k ∧ k < wq.heap.size) := hid (fun k hk => by simp [OwnB, Value.ownBlock] at hk)
                  have HINS : Hid (insU [] x = ([] : List Int) ++ [x] ++ ([] : List Int)) := hid rfl
                  simp only [hI0, List.length_nil]
                  clear hAE hd0 HD0 htn hteq hteq2 hlt2 hto hlo htle hll0 hrdE HI2 hA h0 hrw htl ht0 hI0
                  go_wp2_with fail
                  go_quiet (fail)
                  go_wp2_with fail
                  go_quiet (fail)
                  go_upto_region 12 with fail
                  refine wp_gen (fun W => Chg NoB wq W) ((hC.out.drewN _).drewN _) ?_
                  intro W hW
                  have HW := hid hW
                  have HTW := hid (HTL.out.keep (hW.alloc (.cells #[] 3)) (fun _ _ _ => nob))
                  have hzW := hW.size
                  have HOE : Hid (∀ b, OwnB (.slice (some ⟨W.heap.size, 0, none⟩) 0 0) b → b = W.heap.size) := hid (fun b hb => by simpa [OwnB, Value.ownBlock, eq_comm] using hb)
                  have hdl : (([] : List Int)).length = 0 := rfl
                  have htl2 : True := trivial
                  clear hC g1 hW
                  go_upto_region 13 with (at_builtin; refine step_appR slInt rfl _ _ rfl (n := 0) (xs := []) (v := .slice (some ⟨W.heap.size, 0, none⟩) 0 0) ⟨by simp, .inr ⟨W.heap.size, 0, _, rfl, blk_new _ _, Nat.le_refl _, by simp [maxLen], by simp, by simp⟩⟩ rfl (enc := encI) (fun _ => rfl) (fun x u hu => by simp [encI] at hu; rw [hu]; rfl) HTW.out rfl (by omega) (by unfold maxLen; omega) ?_; intro v5 w5 ho5 hc5 hn5)
                  have C5 : Chg NoB W w5 := ((Chg.refl NoB W).alloc _).new hc5 (fun b hb => by have := HOE.out b hb; omega)
                  have hv5 : ∀ b, OwnB v5 b → W.heap.size ≤ b := fun b hb => (hn5 b hb).elim (fun h => by have := HOE.out b h; omega) (fun h => by simp at h; omega)
                  have HV5 := hid hv5
                  have HC5 := hid (HW.out.trans' C5)
                  have HR5 : Hid (Rd w5 1 encI v5 (([] : List Int))) := hid (owW_rd (by simpa [flatMap_encI] using ho5))
                  have HCT5 := hid (HCT.out.keep HC5.out (fun _ _ => nob))
                  have g5 := HC5.out.cell G1.out nob
                  have G5 := hid g5
                  have hz5 := C5.size
                  have HCB : Hid (∀ k, OwnB (.slice none 0 0) k → w.heap.size ≤ k ∧ k < wq.heap.size) := HFP
                  have HBW : Hid (b < w.heap.size) := hid (World.block_lt_of_cell? w _ G0.out)
                  clear ho5 hc5 hn5 C5 hv5
                  go_wp2_with fail
                  refine wp_region_ord 15 (.rd 0 (.rd 1 (.rd 2 (.rd 3 (.rd 4 (.rd 5 (.rd 6 (.rd 7 (.rd 8 (.rd 9 (.rd 12 (.one 10 (.one 11 (.one 13 (.rd 14 (.done)))))))))))))))) (fun w' => w'.cell? ⟨b, off + i * 2 + j, none⟩ = some (.int .i64 x)) (by kernel_rfl) (by kernel_rfl) (by kernel_rfl) (by kernel_rfl) (by kernel_rfl) (fun _ _ d _ _ h => by cases d <;> exact h) (G5.out) (fun hS0 => ?_)
                  refine wpOrd_rd rfl rfl (by first | decide | simp) (by assumption) (fun w' hw' K hK => by ((try unfold Same at hw'); (try go_split_ands); go_simp; exact hK)) ?_
                  refine wpOrd_rd rfl rfl (by first | decide | simp) (by assumption) (fun w' hw' K hK => by ((try unfold Same at hw'); (try go_split_ands); go_simp; exact hK)) ?_
                  refine wpOrd_rd rfl rfl (by first | decide | simp) (by assumption) (fun w' hw' K hK => by ((try unfold Same at hw'); (try go_split_ands); go_simp; exact hK)) ?_
                  refine wpOrd_rd rfl rfl (by first | decide | simp) (by assumption) (fun w' hw' K hK => by ((try unfold Same at hw'); (try go_split_ands); go_simp; exact hK)) ?_
                  refine wpOrd_rd rfl rfl (by first | decide | simp) (by assumption) (fun w' hw' K hK => by ((try unfold Same at hw'); (try go_split_ands); go_simp; exact hK)) ?_
                  refine wpOrd_rd rfl rfl (by first | decide | simp) (by assumption) (fun w' hw' K hK => by ((try unfold Same at hw'); (try go_split_ands); go_simp; exact hK)) ?_
                  refine wpOrd_rd rfl rfl (by first | decide | simp) (by assumption) (fun w' hw' K hK => by ((try unfold Same at hw'); (try go_split_ands); go_simp; exact hK)) ?_
                  refine wpOrd_rd rfl rfl (by first | decide | simp) (by assumption) (fun w' hw' K hK => by ((try unfold Same at hw'); (try go_split_ands); go_simp; exact hK)) ?_
                  refine wpOrd_rd rfl rfl (by first | decide | simp) (by assumption) (fun w' hw' K hK => by ((try unfold Same at hw'); (try go_split_ands); go_simp; exact hK)) ?_
                  refine wpOrd_rd rfl rfl (by first | decide | simp) (by assumption) (fun w' hw' K hK => by ((try unfold Same at hw'); (try go_split_ands); go_simp; exact hK)) ?_
                  refine wpOrd_rd rfl rfl (by first | decide | simp) (by assumption) (fun w' hw' K hK => by ((try unfold Same at hw'); (try go_split_ands); go_simp; exact hK)) ?_
                  refine wpOrd_do rfl ?_
                  (first | refine wpList_plain rfl (fun K hK => ?_) | refine wpList_step (fun K hK => ?_))
                  go_simp
                  refine hK _ _ ?_
                  clear hK K
                  (try dsimp only [Act.put])
                  refine wpOrd_done (((Chg.refl NoB w5).drew.alloc _).cell G5.out nob) (fun hS1 => ?_)
                  refine wpOrd_do rfl ?_
                  refine step_appW slInt rfl _ _ rfl (HCT5.out.keep ((Chg.refl NoB w5).drew.alloc _) (fun _ _ => nob)) rfl ⟨w5.heap.size, 0, none⟩ 1 1 [.int .i64 x] rfl rfl (newsB (blk_new _ _)) (by simp [Value.oneCell']) (by omega) (by unfold maxLen; omega) ?_; intro v6 w6 ho6 hc6 hn6
                  (try dsimp only [Act.put])
                  (try simp only [List.setIfInBounds_toArray, List.set_cons_zero, List.set_cons_succ])
                  refine wpOrd_done (hc6.cell (((Chg.refl NoB w5).drew.alloc _).cell G5.out nob) (fun h => by have := (HCB.out b h).1; have := HBW.out; omega)) (fun hS2 => ?_)
                  refine wpOrd_do rfl ?_
                  refine step_appR slInt rfl _ _ rfl ho6 rfl (enc := encI) (fun _ => rfl) (fun x u hu => by simp [encI] at hu; rw [hu]; rfl) ((HR5.out.keep ((Chg.refl NoB w5).drew.alloc _) (fun _ _ _ => nob)).keep hc6 (fun b' o' h h2 => by obtain ⟨n', c', h⟩ := h; have h8 := HV5.out b' (by rw [h]; simp [OwnB, Value.ownBlock]); have h9 := (HCB.out _ h2).2; omega)) rfl (by omega) (by unfold maxLen; omega) ?_; intro v7 w7 ho7 hc7 hn7
                  (try dsimp only [Act.put])
                  (try simp only [List.setIfInBounds_toArray, List.set_cons_zero, List.set_cons_succ])
                  refine wpOrd_done ((hc7.cell (hc6.cell (((Chg.refl NoB w5).drew.alloc _).cell G5.out nob) (fun h => by have := (HCB.out b h).1; have := HBW.out; omega)) (fun h => (hn6 b h).elim (fun h => by have := (HCB.out b h).1; have := HBW.out; omega) (fun h => by have := HBW.out; have := HJ.out.chg.size; have := HC5.out.size; simp at h; omega)))) (fun hS3 => ?_)
                  refine wpOrd_rd rfl rfl (by first | decide | simp) (by assumption) (fun w' hw' K hK => by ((try unfold Same at hw'); (try go_split_ands); go_simp; exact hK)) ?_
                  refine wpOrd_nil ?_
                  have hs6 := hc6.size
                  simp at hs6
                  have hv6 : ∀ k, OwnB v6 k → OwnB (.slice none 0 0) k ∨ w5.heap.size ≤ k := fun k hk => (hn6 k hk).elim .inl (fun h => by simp at h; right; omega)
                  have hv7 : ∀ k, OwnB v7 k → OwnB (.slice none 0 0) k ∨ w5.heap.size ≤ k := fun k hk => (hn7 k hk).elim (fun h => hv6 k h) (fun h => by right; omega)
                  have HROW : Hid (OwI w w7 v7 (insU [] x)) := hid ⟨by
                    rw [HINS.out]
                    have e1 : (([] : List Int) ++ [x] ++ ([] : List Int)).length = 0 + 1 + (([] : List Int)).length := by simp
                    rw [e1]
                    simpa [flatMap_encI] using ho7, fun k hk => (hv7 k hk).elim (fun h => (HCB.out k h).1) (fun h => by have := HJ.out.chg.size; have := HC5.out.size; omega), ((HJ.out.chg.trans' HC5.out).new (((Chg.refl (OwnB (.slice none 0 0)) w5).drew.alloc _).trans' hc6) (fun k hk => (HCB.out k hk).1)).new hc7 (fun k hk => (hv6 k hk).elim (fun h => (HCB.out k h).1) (fun h => by have := HJ.out.chg.size; have := HC5.out.size; omega))⟩
                  clear ho6 hc6 hn6 ho7 hc7 hn7 hv6 hv7 hs6 hS0 g5
                  go_wp2_with fail
                  go_roundw
                  case rel => exact ⟨j + 1, by omega, by go_num, by rw [HLN.out]; exact HROW⟩
                  case measure => simp [intOf]; omega
                · cases e2
                  have HCT : Hid (OwW wq 3 1 (.slice (some ⟨g, 0, none⟩) (insAt L x) (insAt L x)) (insAt L x) ((L.take (insAt L x)).map (Value.int .i64))) := hid (by
                    have := hrw.cut (insAt L x) htl
                    rwa [Nat.mul_one, ← List.map_take] at this)
                  have HFP : Hid (∀ k, OwnB (.slice (some ⟨g, 0, none⟩) (insAt L x) (insAt L x)) k → w.heap.size ≤ k ∧ k < wq.heap.size) := hid (fun k hk => ⟨HJ.out.ge k (by simpa [OwnB, Value.ownBlock] using hk), HCT.out.lt hk⟩)
                  clear hd0 hA hAE hg3
                  by_cases hct0 : oc = insAt L x
                  · have hct : (oc = insAt L x) = True := eq_true hct0
                    have HTL : Hid (Rd wq 1 encI (.slice (some ⟨g, 0, none⟩) (L.length - insAt L x) (oc - insAt L x)) (L.drop (insAt L x))) := hid (by rw [hll0]; exact hrdE _ _)
                    clear hct0 hrdE hll0
                    go_wp2_with fail
                    go_quiet (fail)
                    go_wp2_with fail
                    go_quiet (fail)
                    go_upto_region 12 with fail
                    refine wp_gen (fun W => Chg NoB wq W) ((hC.out.drewN _).drewN _) ?_
                    intro W hW
                    have HW := hid hW
                    have HTW := hid (HTL.out.keep (hW.alloc (.cells #[] 3)) (fun _ _ _ => nob))
                    have hzW := hW.size
                    have HOE : Hid (∀ b, OwnB (.slice (some ⟨W.heap.size, 0, none⟩) 0 0) b → b = W.heap.size) := hid (fun b hb => by simpa [OwnB, Value.ownBlock, eq_comm] using hb)
                    have hdl : (L.drop (insAt L x)).length = L.length - insAt L x := List.length_drop
                    have htl2 : (L.take (insAt L x)).length = insAt L x := by rw [List.length_take]; omega
                    clear hC g1 hW
                    go_upto_region 13 with (at_builtin; refine step_appR slInt rfl _ _ rfl (n := 0) (xs := []) (v := .slice (some ⟨W.heap.size, 0, none⟩) 0 0) ⟨by simp, .inr ⟨W.heap.size, 0, _, rfl, blk_new _ _, Nat.le_refl _, by simp [maxLen], by simp, by simp⟩⟩ rfl (enc := encI) (fun _ => rfl) (fun x u hu => by simp [encI] at hu; rw [hu]; rfl) HTW.out rfl (by omega) (by unfold maxLen; omega) ?_; intro v5 w5 ho5 hc5 hn5)
                    have C5 : Chg NoB W w5 := ((Chg.refl NoB W).alloc _).new hc5 (fun b hb => by have := HOE.out b hb; omega)
                    have hv5 : ∀ b, OwnB v5 b → W.heap.size ≤ b := fun b hb => (hn5 b hb).elim (fun h => by have := HOE.out b h; omega) (fun h => by simp at h; omega)
                    have HV5 := hid hv5
                    have HC5 := hid (HW.out.trans' C5)
                    have HR5 : Hid (Rd w5 1 encI v5 (L.drop (insAt L x))) := hid (owW_rd (by simpa [flatMap_encI] using ho5))
                    have HCT5 := hid (HCT.out.keep HC5.out (fun _ _ => nob))
                    have g5 := HC5.out.cell G1.out nob
                    have G5 := hid g5
                    have hz5 := C5.size
                    have HCB : Hid (∀ k, OwnB (.slice (some ⟨g, 0, none⟩) (insAt L x) (insAt L x)) k → w.heap.size ≤ k ∧ k < wq.heap.size) := HFP
                    have HBW : Hid (b < w.heap.size) := hid (World.block_lt_of_cell? w _ G0.out)
                    clear ho5 hc5 hn5 C5 hv5
                    go_wp2_with fail
                    refine wp_region_ord 15 (.rd 0 (.rd 1 (.rd 2 (.rd 3 (.rd 4 (.rd 5 (.rd 6 (.rd 7 (.rd 8 (.rd 9 (.rd 12 (.one 10 (.one 11 (.one 13 (.rd 14 (.done)))))))))))))))) (fun w' => w'.cell? ⟨b, off + i * 2 + j, none⟩ = some (.int .i64 x)) (by kernel_rfl) (by kernel_rfl) (by kernel_rfl) (by kernel_rfl) (by kernel_rfl) (fun _ _ d _ _ h => by cases d <;> exact h) (G5.out) (fun hS0 => ?_)
                    refine wpOrd_rd rfl rfl (by first | decide | simp) (by assumption) (fun w' hw' K hK => by ((try unfold Same at hw'); (try go_split_ands); go_simp; exact hK)) ?_
                    refine wpOrd_rd rfl rfl (by first | decide | simp) (by assumption) (fun w' hw' K hK => by ((try unfold Same at hw'); (try go_split_ands); go_simp; exact hK)) ?_
                    refine wpOrd_rd rfl rfl (by first | decide | simp) (by assumption) (fun w' hw' K hK => by ((try unfold Same at hw'); (try go_split_ands); go_simp; exact hK)) ?_
                    refine wpOrd_rd rfl rfl (by first | decide | simp) (by assumption) (fun w' hw' K hK => by ((try unfold Same at hw'); (try go_split_ands); go_simp; exact hK)) ?_
                    refine wpOrd_rd rfl rfl (by first | decide | simp) (by assumption) (fun w' hw' K hK => by ((try unfold Same at hw'); (try go_split_ands); go_simp; exact hK)) ?_
                    refine wpOrd_rd rfl rfl (by first | decide | simp) (by assumption) (fun w' hw' K hK => by ((try unfold Same at hw'); (try go_split_ands); go_simp; exact hK)) ?_
                    refine wpOrd_rd rfl rfl (by first | decide | simp) (by assumption) (fun w' hw' K hK => by ((try unfold Same at hw'); (try go_split_ands); go_simp; exact hK)) ?_
                    refine wpOrd_rd rfl rfl (by first | decide | simp) (by assumption) (fun w' hw' K hK => by ((try unfold Same at hw'); (try go_split_ands); go_simp; exact hK)) ?_
                    refine wpOrd_rd rfl rfl (by first | decide | simp) (by assumption) (fun w' hw' K hK => by ((try unfold Same at hw'); (try go_split_ands); go_simp; exact hK)) ?_
                    refine wpOrd_rd rfl rfl (by first | decide | simp) (by assumption) (fun w' hw' K hK => by ((try unfold Same at hw'); (try go_split_ands); go_simp; exact hK)) ?_
                    refine wpOrd_rd rfl rfl (by first | decide | simp) (by assumption) (fun w' hw' K hK => by ((try unfold Same at hw'); (try go_split_ands); go_simp; exact hK)) ?_
                    refine wpOrd_do rfl ?_
                    (first | refine wpList_plain rfl (fun K hK => ?_) | refine wpList_step (fun K hK => ?_))
                    go_simp
                    refine hK _ _ ?_
                    clear hK K
                    (try dsimp only [Act.put])
                    refine wpOrd_done (((Chg.refl NoB w5).drew.alloc _).cell G5.out nob) (fun hS1 => ?_)
                    refine wpOrd_do rfl ?_
                    refine step_appW slInt rfl _ _ rfl (HCT5.out.keep ((Chg.refl NoB w5).drew.alloc _) (fun _ _ => nob)) rfl ⟨w5.heap.size, 0, none⟩ 1 1 [.int .i64 x] rfl rfl (newsB (blk_new _ _)) (by simp [Value.oneCell']) (by omega) (by unfold maxLen; omega) ?_; intro v6 w6 ho6 hc6 hn6
                    (try dsimp only [Act.put])
                    (try simp only [List.setIfInBounds_toArray, List.set_cons_zero, List.set_cons_succ])
                    refine wpOrd_done (hc6.cell (((Chg.refl NoB w5).drew.alloc _).cell G5.out nob) (fun h => by have := (HCB.out b h).1; have := HBW.out; omega)) (fun hS2 => ?_)
                    refine wpOrd_do rfl ?_
                    refine step_appR slInt rfl _ _ rfl ho6 rfl (enc := encI) (fun _ => rfl) (fun x u hu => by simp [encI] at hu; rw [hu]; rfl) ((HR5.out.keep ((Chg.refl NoB w5).drew.alloc _) (fun _ _ _ => nob)).keep hc6 (fun b' o' h h2 => by obtain ⟨n', c', h⟩ := h; have h8 := HV5.out b' (by rw [h]; simp [OwnB, Value.ownBlock]); have h9 := (HCB.out _ h2).2; omega)) rfl (by omega) (by unfold maxLen; omega) ?_; intro v7 w7 ho7 hc7 hn7
                    (try dsimp only [Act.put])
                    (try simp only [List.setIfInBounds_toArray, List.set_cons_zero, List.set_cons_succ])
                    refine wpOrd_done ((hc7.cell (hc6.cell (((Chg.refl NoB w5).drew.alloc _).cell G5.out nob) (fun h => by have := (HCB.out b h).1; have := HBW.out; omega)) (fun h => (hn6 b h).elim (fun h => by have := (HCB.out b h).1; have := HBW.out; omega) (fun h => by have := HBW.out; have := HJ.out.chg.size; have := HC5.out.size; simp at h; omega)))) (fun hS3 => ?_)
                    refine wpOrd_rd rfl rfl (by first | decide | simp) (by assumption) (fun w' hw' K hK => by ((try unfold Same at hw'); (try go_split_ands); go_simp; exact hK)) ?_
                    refine wpOrd_nil ?_
                    have hs6 := hc6.size
                    simp at hs6
                    have hv6 : ∀ k, OwnB v6 k → OwnB (.slice (some ⟨g, 0, none⟩) (insAt L x) (insAt L x)) k ∨ w5.heap.size ≤ k := fun k hk => (hn6 k hk).elim .inl (fun h => by simp at h; right; omega)
                    have hv7 : ∀ k, OwnB v7 k → OwnB (.slice (some ⟨g, 0, none⟩) (insAt L x) (insAt L x)) k ∨ w5.heap.size ≤ k := fun k hk => (hn7 k hk).elim (fun h => hv6 k h) (fun h => by right; omega)
                    have HROW : Hid (OwI w w7 v7 (insU L x)) := hid ⟨by
                      rw [HINS.out]
                      have e1 : (L.take (insAt L x) ++ [x] ++ L.drop (insAt L x)).length = insAt L x + 1 + (L.drop (insAt L x)).length := by simp; omega
                      rw [e1]
                      simpa [flatMap_encI] using ho7, fun k hk => (hv7 k hk).elim (fun h => (HCB.out k h).1) (fun h => by have := HJ.out.chg.size; have := HC5.out.size; omega), ((HJ.out.chg.trans' HC5.out).new (((Chg.refl (OwnB (.slice (some ⟨g, 0, none⟩) (insAt L x) (insAt L x))) w5).drew.alloc _).trans' hc6) (fun k hk => (HCB.out k hk).1)).new hc7 (fun k hk => (hv6 k hk).elim (fun h => (HCB.out k h).1) (fun h => by have := HJ.out.chg.size; have := HC5.out.size; omega))⟩
                    clear ho6 hc6 hn6 ho7 hc7 hn7 hv6 hv7 hs6 hS0 g5
                    go_wp2_with fail
                    go_roundw
                    case rel => exact ⟨j + 1, by omega, by go_num, by rw [HLN.out]; exact HROW⟩
                    case measure => simp [intOf]; omega
                  · have hct : (oc = insAt L x) = False := eq_false hct0
                    have HTL : Hid (Rd wq 1 encI (.slice (some ⟨g, insAt L x, none⟩) (L.length - insAt L x) (oc - insAt L x)) (L.drop (insAt L x))) := hid (by rw [hll0]; exact hrdE _ _)
                    clear hct0 hrdE hll0
                    go_wp2_with fail
                    go_quiet (fail)
                    go_wp2_with fail
                    go_quiet (fail)
                    go_upto_region 12 with fail
                    refine wp_gen (fun W => Chg NoB wq W) ((hC.out.drewN _).drewN _) ?_
                    intro W hW
                    have HW := hid hW
                    have HTW := hid (HTL.out.keep (hW.alloc (.cells #[] 3)) (fun _ _ _ => nob))
                    have hzW := hW.size
                    have HOE : Hid (∀ b, OwnB (.slice (some ⟨W.heap.size, 0, none⟩) 0 0) b → b = W.heap.size) := hid (fun b hb => by simpa [OwnB, Value.ownBlock, eq_comm] using hb)
                    have hdl : (L.drop (insAt L x)).length = L.length - insAt L x := List.length_drop
                    have htl2 : (L.take (insAt L x)).length = insAt L x := by rw [List.length_take]; omega
                    clear hC g1 hW
                    go_upto_region 13 with (at_builtin; refine step_appR slInt rfl _ _ rfl (n := 0) (xs := []) (v := .slice (some ⟨W.heap.size, 0, none⟩) 0 0) ⟨by simp, .inr ⟨W.heap.size, 0, _, rfl, blk_new _ _, Nat.le_refl _, by simp [maxLen], by simp, by simp⟩⟩ rfl (enc := encI) (fun _ => rfl) (fun x u hu => by simp [encI] at hu; rw [hu]; rfl) HTW.out rfl (by omega) (by unfold maxLen; omega) ?_; intro v5 w5 ho5 hc5 hn5)
                    have C5 : Chg NoB W w5 := ((Chg.refl NoB W).alloc _).new hc5 (fun b hb => by have := HOE.out b hb; omega)
                    have hv5 : ∀ b, OwnB v5 b → W.heap.size ≤ b := fun b hb => (hn5 b hb).elim (fun h => by have := HOE.out b h; omega) (fun h => by simp at h; omega)
                    have HV5 := hid hv5
                    have HC5 := hid (HW.out.trans' C5)
                    have HR5 : Hid (Rd w5 1 encI v5 (L.drop (insAt L x))) := hid (owW_rd (by simpa [flatMap_encI] using ho5))
                    have HCT5 := hid (HCT.out.keep HC5.out (fun _ _ => nob))
                    have g5 := HC5.out.cell G1.out nob
                    have G5 := hid g5
                    have hz5 := C5.size
                    have HCB : Hid (∀ k, OwnB (.slice (some ⟨g, 0, none⟩) (insAt L x) (insAt L x)) k → w.heap.size ≤ k ∧ k < wq.heap.size) := HFP
                    have HBW : Hid (b < w.heap.size) := hid (World.block_lt_of_cell? w _ G0.out)
                    clear ho5 hc5 hn5 C5 hv5
                    go_wp2_with fail
                    refine wp_region_ord 15 (.rd 0 (.rd 1 (.rd 2 (.rd 3 (.rd 4 (.rd 5 (.rd 6 (.rd 7 (.rd 8 (.rd 9 (.rd 12 (.one 10 (.one 11 (.one 13 (.rd 14 (.done)))))))))))))))) (fun w' => w'.cell? ⟨b, off + i * 2 + j, none⟩ = some (.int .i64 x)) (by kernel_rfl) (by kernel_rfl) (by kernel_rfl) (by kernel_rfl) (by kernel_rfl) (fun _ _ d _ _ h => by cases d <;> exact h) (G5.out) (fun hS0 => ?_)
                    refine wpOrd_rd rfl rfl (by first | decide | simp) (by assumption) (fun w' hw' K hK => by ((try unfold Same at hw'); (try go_split_ands); go_simp; exact hK)) ?_
                    refine wpOrd_rd rfl rfl (by first | decide | simp) (by assumption) (fun w' hw' K hK => by ((try unfold Same at hw'); (try go_split_ands); go_simp; exact hK)) ?_
                    refine wpOrd_rd rfl rfl (by first | decide | simp) (by assumption) (fun w' hw' K hK => by ((try unfold Same at hw'); (try go_split_ands); go_simp; exact hK)) ?_
                    refine wpOrd_rd rfl rfl (by first | decide | simp) (by assumption) (fun w' hw' K hK => by ((try unfold Same at hw'); (try go_split_ands); go_simp; exact hK)) ?_
                    refine wpOrd_rd rfl rfl (by first | decide | simp) (by assumption) (fun w' hw' K hK => by ((try unfold Same at hw'); (try go_split_ands); go_simp; exact hK)) ?_
                    refine wpOrd_rd rfl rfl (by first | decide | simp) (by assumption) (fun w' hw' K hK => by ((try unfold Same at hw'); (try go_split_ands); go_simp; exact hK)) ?_
                    refine wpOrd_rd rfl rfl (by first | decide | simp) (by assumption) (fun w' hw' K hK => by ((try unfold Same at hw'); (try go_split_ands); go_simp; exact hK)) ?_
                    refine wpOrd_rd rfl rfl (by first | decide | simp) (by assumption) (fun w' hw' K hK => by ((try unfold Same at hw'); (try go_split_ands); go_simp; exact hK)) ?_
                    refine wpOrd_rd rfl rfl (by first | decide | simp) (by assumption) (fun w' hw' K hK => by ((try unfold Same at hw'); (try go_split_ands); go_simp; exact hK)) ?_
                    refine wpOrd_rd rfl rfl (by first | decide | simp) (by assumption) (fun w' hw' K hK => by ((try unfold Same at hw'); (try go_split_ands); go_simp; exact hK)) ?_
                    refine wpOrd_rd rfl rfl (by first | decide | simp) (by assumption) (fun w' hw' K hK => by ((try unfold Same at hw'); (try go_split_ands); go_simp; exact hK)) ?_
                    refine wpOrd_do rfl ?_
                    (first | refine wpList_plain rfl (fun K hK => ?_) | refine wpList_step (fun K hK => ?_))
                    go_simp
                    refine hK _ _ ?_
                    clear hK K
                    (try dsimp only [Act.put])
                    refine wpOrd_done (((Chg.refl NoB w5).drew.alloc _).cell G5.out nob) (fun hS1 => ?_)
                    refine wpOrd_do rfl ?_
                    refine step_appW slInt rfl _ _ rfl (HCT5.out.keep ((Chg.refl NoB w5).drew.alloc _) (fun _ _ => nob)) rfl ⟨w5.heap.size, 0, none⟩ 1 1 [.int .i64 x] rfl rfl (newsB (blk_new _ _)) (by simp [Value.oneCell']) (by omega) (by unfold maxLen; omega) ?_; intro v6 w6 ho6 hc6 hn6
                    (try dsimp only [Act.put])
                    (try simp only [List.setIfInBounds_toArray, List.set_cons_zero, List.set_cons_succ])
                    refine wpOrd_done (hc6.cell (((Chg.refl NoB w5).drew.alloc _).cell G5.out nob) (fun h => by have := (HCB.out b h).1; have := HBW.out; omega)) (fun hS2 => ?_)
                    refine wpOrd_do rfl ?_
                    refine step_appR slInt rfl _ _ rfl ho6 rfl (enc := encI) (fun _ => rfl) (fun x u hu => by simp [encI] at hu; rw [hu]; rfl) ((HR5.out.keep ((Chg.refl NoB w5).drew.alloc _) (fun _ _ _ => nob)).keep hc6 (fun b' o' h h2 => by obtain ⟨n', c', h⟩ := h; have h8 := HV5.out b' (by rw [h]; simp [OwnB, Value.ownBlock]); have h9 := (HCB.out _ h2).2; omega)) rfl (by omega) (by unfold maxLen; omega) ?_; intro v7 w7 ho7 hc7 hn7
                    (try dsimp only [Act.put])
                    (try simp only [List.setIfInBounds_toArray, List.set_cons_zero, List.set_cons_succ])
                    refine wpOrd_done ((hc7.cell (hc6.cell (((Chg.refl NoB w5).drew.alloc _).cell G5.out nob) (fun h => by have := (HCB.out b h).1; have := HBW.out; omega)) (fun h => (hn6 b h).elim (fun h => by have := (HCB.out b h).1; have := HBW.out; omega) (fun h => by have := HBW.out; have := HJ.out.chg.size; have := HC5.out.size; simp at h; omega)))) (fun hS3 => ?_)
                    refine wpOrd_rd rfl rfl (by first | decide | simp) (by assumption) (fun w' hw' K hK => by ((try unfold Same at hw'); (try go_split_ands); go_simp; exact hK)) ?_
                    refine wpOrd_nil ?_
                    have hs6 := hc6.size
                    simp at hs6
                    have hv6 : ∀ k, OwnB v6 k → OwnB (.slice (some ⟨g, 0, none⟩) (insAt L x) (insAt L x)) k ∨ w5.heap.size ≤ k := fun k hk => (hn6 k hk).elim .inl (fun h => by simp at h; right; omega)
                    have hv7 : ∀ k, OwnB v7 k → OwnB (.slice (some ⟨g, 0, none⟩) (insAt L x) (insAt L x)) k ∨ w5.heap.size ≤ k := fun k hk => (hn7 k hk).elim (fun h => hv6 k h) (fun h => by right; omega)
                    have HROW : Hid (OwI w w7 v7 (insU L x)) := hid ⟨by
                      rw [HINS.out]
                      have e1 : (L.take (insAt L x) ++ [x] ++ L.drop (insAt L x)).length = insAt L x + 1 + (L.drop (insAt L x)).length := by simp; omega
                      rw [e1]
                      simpa [flatMap_encI] using ho7, fun k hk => (hv7 k hk).elim (fun h => (HCB.out k h).1) (fun h => by have := HJ.out.chg.size; have := HC5.out.size; omega), ((HJ.out.chg.trans' HC5.out).new (((Chg.refl (OwnB (.slice (some ⟨g, 0, none⟩) (insAt L x) (insAt L x))) w5).drew.alloc _).trans' hc6) (fun k hk => (HCB.out k hk).1)).new hc7 (fun k hk => (hv6 k hk).elim (fun h => (HCB.out k h).1) (fun h => by have := HJ.out.chg.size; have := HC5.out.size; omega))⟩
                    clear ho6 hc6 hn6 ho7 hc7 hn7 hv6 hv7 hs6 hS0 g5
                    go_wp2_with fail
                    go_roundw
                    case rel => exact ⟨j + 1, by omega, by go_num, by rw [HLN.out]; exact HROW⟩
                    case measure => simp [intOf]; omega
        · obtain rfl : j = 2 := by omega
          rw [nmF_next hlt] at hJ
          go_wp2_with fail
          go_roundw
          case rel => exact ⟨i + 1, by omega, by go_num, hJ⟩
          case measure => simp [intOf]; omega
    · obtain rfl : l.length = i := by omega
      rw [nmF_end] at hI
      obtain ⟨oa, oc, e1, o1, o2, o3⟩ := hI.out.rd
      subst e1
      go_wp2_with fail
      go_ret
      exact ⟨_, rfl, hI⟩
end Go.Proofs.Ytlhblkpdfdpiaaa.Wt
