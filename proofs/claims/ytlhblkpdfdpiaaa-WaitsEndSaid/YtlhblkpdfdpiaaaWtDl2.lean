import Derived.Test.YtlhblkpdfdpiaaaWtDel
namespace Go.Proofs.Ytlhblkpdfdpiaaa.Wt
open Go.RowKit Go.ChangeMaps Go.MapKept
set_option linter.unusedVariables false
set_option linter.unusedSimpArgs false
set_option linter.unnecessarySimpa false
set_option maxHeartbeats 8000000

/-- A row of edges of one's own, its block told. -/
theorem rowE {w : World} {B n : Nat} {v : Value} {xs : List Value} (h : w.ownsRow B 50 2 v n xs) (hn : 0 < n) : ∃ g cap post, v = .slice (some ⟨g, 0, none⟩) n cap ∧ B ≤ g ∧ w.heap[g]? = some (.cells (xs ++ post).toArray 50 (0, 0)) ∧ n ≤ cap ∧ cap ≤ maxLen ∧ xs.length + post.length = cap * 2 := by
  obtain ⟨h0, h⟩ := h
  rcases h with ⟨rfl, rfl⟩ | ⟨g, cap, cur, rfl, h2, h3, h4, h5, h6, h7⟩
  · omega
  · refine ⟨g, cap, cur.toList.drop (n * 2), rfl, h2, by rw [h3, ← h7, List.take_append_drop], h4, h5, ?_⟩
    rw [← h7, ← List.length_append, List.take_append_drop]
    simpa using h6
theorem rowE_of {w : World} {B n g cap : Nat} {xs post : List Value} (h2 : B ≤ g) (h3 : w.heap[g]? = some (.cells (xs ++ post).toArray 50 (0, 0))) (h4 : n ≤ cap) (h5 : cap ≤ maxLen) (h6 : xs.length + post.length = cap * 2) (hx : xs.length = n * 2) : w.ownsRow B 50 2 (.slice (some ⟨g, 0, none⟩) n cap) n xs :=
  ⟨hx, .inr ⟨g, cap, _, rfl, h2, h3, h4, h5, by simpa using h6, by rw [List.toList_toArray, ← hx, List.take_left' rfl]⟩⟩
theorem encE_len (l : Edges) : (l.flatMap encE).length = l.length * 2 := by
  induction l with
  | nil => rfl
  | cons x l ih => rw [List.flatMap_cons, List.length_append, ih, List.length_cons]; simp [encE]; omega
theorem wo_len (e : Edges) (n : Int) : (wo e n).length ≤ e.length := List.length_filter_le _ _
theorem wo_snoc (e : Edges) (n : Int) (x : Int × Int) : wo (e ++ [x]) n = wo e n ++ (if hit n x then [] else [x]) := by
  rw [wo_hit, wo_hit, List.filter_append]
  cases h : hit n x <;> simp [h]

set_option maxRecDepth 100000 in
theorem del_calls (w : World) (B : Nat) (v : Value) (l : Edges) (ho : w.ownsRow B 50 2 v l.length (l.flatMap encE)) (hl : l.length ≤ 1000) (nb : Nat) (n : Int) (hc : w.cell? ⟨nb, 0, none⟩ = some (.int .i64 n)) (hnb : ¬ OwnB v nb) :
    Calls Try.prog 37 #[v, .func (.func 38) #[] #[.pointer (some ⟨nb, 0, none⟩)]] w fun e w' => ∃ v', e = .returned v' ∧ Hid (w'.ownsRow B 50 2 v' (wo l n).length ((wo l n).flatMap encE)) ∧ Hid (Chg (OwnB v) w w') ∧ Hid (∀ i, OwnB v' i → OwnB v i) := by
  have hrd : Rd w 2 encE v l := Rd.of_own (enc := encE) (size := 2) (fun _ => rfl) ho
  have HRD := hid hrd
  have HC := hid hc
  have HO := hid ho
  have HNB := hid hnb
  obtain ⟨ix, hix⟩ := named (idxE l n)
  have hv2 := ownsForm ho
  clear hrd hc hnb ho
  cases hf : l.findIdx? (hit n) with
  | none =>
    have e1 : ix = -1 := by rw [hix.out]; unfold idxE; rw [hf]
    have e2 : wo l n = l := by
      rw [wo_hit, List.filter_eq_self]
      intro x hx
      rw [List.findIdx?_eq_none_iff] at hf
      simp [hf x hx]
    have HW := hid e2
    obtain ⟨ra, rc, rfl⟩ := hv2
    subst e1
    clear hf e2
    go_enter Try.func37, Try.ntmps37
    go_wp2_with (go_at_call 49; refine (idxE_calls w _ l HRD.out hl nb n HC.out _ hix).mono ?_; rintro ee w1 ⟨rfl, hc1⟩)
    go_ret
    exact ⟨_, rfl, hid (by rw [HW.out]; exact ownsRow.chg HO.out hc1.out (fun _ _ => nob)), hid (hc1.out.mono fun _ h => h.elim), hid (fun i hi => hi)⟩
  | some i =>
    obtain ⟨hil, hih, hib⟩ := List.findIdx?_eq_some_iff_getElem.1 hf
    have e1 : ix = (i : Int) := by rw [hix.out]; unfold idxE; rw [hf]
    have hl0 : 0 < l.length := by omega
    obtain ⟨g, cap, post, rfl, hBg, hblk, hnc, hcm, hsz⟩ := rowE HO.out hl0
    rw [encE_len] at hsz
    unfold maxLen at hcm
    have hw0 : wo (l.take (i + 1)) n = l.take i := by
      rw [List.take_succ_eq_append_getElem hil, wo_snoc, hih, if_pos rfl, List.append_nil, wo_hit, List.filter_eq_self]
      intro x hx
      obtain ⟨j, hj, rfl⟩ := List.getElem_of_mem hx
      rw [List.length_take] at hj
      rw [List.getElem_take]
      have := hib j (by omega)
      simpa using this
    have HW0 := hid hw0
    have hgo : ∀ k, OwnB (.slice (some ⟨g, 0, none⟩) l.length cap) k → k = g := fun k hk => by simpa [OwnB, Value.ownBlock, eq_comm] using hk
    have hgn : nb ≠ g := fun e => HNB.out (by rw [e]; simp [OwnB, Value.ownBlock])
    have HGN := hid hgn
    subst e1
    have hi0 : (0 : Int) ≤ (i : Int) := by omega
    have hne1 : ((i : Int) == -1) = false := by simp
    have HB := hid hblk
    clear hf hih hib hw0 hv2 hblk hgn
    go_enter Try.func37, Try.ntmps37
    go_wp2_with (go_at_call 49; refine (idxE_calls w _ l HRD.out hl nb n HC.out _ hix).mono ?_; rintro ee w1 ⟨rfl, hc1⟩)
    have HI0 : Hid (Chg (OneB g) w w1 ∧ w1.heap[g]? = some (.cells ((wo (l.take (i + 1)) n ++ l.drop i).flatMap encE ++ post).toArray 50 (0, 0))) := hid ⟨hc1.out.mono fun _ h => h.elim, by rw [HW0.out, List.take_append_drop]; exact hc1.out.heap HB.out nob⟩
    clear hc1
    go_loopw [5, 6] (fun s5 s6 wr => ∃ (k p : Nat), k ≤ l.length ∧ p < k ∧ s6 = .int .i64 k ∧ s5 = .int .i64 p ∧ Hid (p = (wo (l.take k) n).length) ∧ Hid (Chg (OneB g) w wr ∧ wr.heap[g]? = some (.cells ((wo (l.take k) n ++ l.drop p).flatMap encE ++ post).toArray 50 (0, 0)))) (fun _ i _ => l.length - (intOf i).toNat)
    case atStart => exact ⟨i + 1, i, by omega, by omega, by first | rfl | go_num, rfl, hid (by rw [HW0.out, List.length_take]; omega), HI0⟩
    case round =>
      clear HI0
      obtain ⟨k, p, hk, hpk, rfl, rfl, hp, hI⟩ := hrel
      have hlen : (wo (l.take k) n ++ l.drop p).length = l.length := by rw [List.length_append, List.length_drop, ← hp.out]; omega
      have hp0 : (0 : Int) ≤ (p : Int) := by omega
      have hpl : (p : Int) < (l.length : Int) := by omega
      by_cases hlt : k < l.length
      · obtain ⟨⟨x, y⟩, hx⟩ := named l[k]
        have hLk : (wo (l.take k) n ++ l.drop p)[k]? = some (x, y) := by
          rw [List.getElem?_append_right (by rw [← hp.out]; omega), List.getElem?_drop, ← hp.out, show p + (k - p) = k by omega, List.getElem?_eq_getElem hlt, ← hx.out]
        have hcell : ∀ j u, (encE (x, y))[j]? = some u → wr.cell? ⟨g, k * 2 + j, none⟩ = some u := fun j u hu => by
          have h3 := flatMap_get (size := 2) (enc := encE) (fun _ => rfl) hLk hu
          rw [cell_blk hI.out.2]
          have hlt2 := (List.getElem?_eq_some_iff.1 h3).1
          simp only [List.getElem?_toArray]
          rw [List.getElem?_append_left hlt2]
          exact h3
        have g0 := hcell 0 _ rfl
        have g1 := hcell 1 _ rfl
        simp only [Nat.add_zero] at g0
        have HC2 := hid (((hI.out.1.alloc (.cells #[.int .i64 x, .int .i64 y] 50))).cell HC.out (fun e => HGN.out e))
        have htk : l.take (k + 1) = l.take k ++ [(x, y)] := by rw [List.take_succ_eq_append_getElem hlt, hx.out]
        have HTK := hid htk
        have hwl := wo_len (l.take k) n
        clear hLk hcell htk
        cases hh : hit n (x, y)
        · have HH := hid hh
          have HPN : Hid (p + 1 = (wo (l.take (k + 1)) n).length) := hid (by rw [HTK.out, wo_snoc, hh, List.length_append, ← hp.out]; rfl)
          have HBN : Hid (((wo (l.take k) n ++ l.drop p).flatMap encE ++ post).take (p * 2) ++ encE (x, y) ++ ((wo (l.take k) n ++ l.drop p).flatMap encE ++ post).drop (p * 2 + 2) = (wo (l.take (k + 1)) n ++ l.drop (p + 1)).flatMap encE ++ post) := hid (by
            have hpp : p < l.length := by omega
            rw [HTK.out, wo_snoc, hh, List.drop_eq_getElem_cons hpp]
            have e2 : ((wo (l.take k) n).flatMap encE).length = p * 2 := by rw [encE_len, ← hp.out]
            have e3 : (wo (l.take k) n ++ l[p] :: l.drop (p + 1)).flatMap encE ++ post = (wo (l.take k) n).flatMap encE ++ (encE l[p] ++ ((l.drop (p + 1)).flatMap encE ++ post)) := by rw [List.flatMap_append, List.flatMap_cons, List.append_assoc, List.append_assoc]
            rw [e3, List.take_left' e2, ← List.drop_drop, List.drop_left' e2, List.drop_left' (by rfl)]
            simp)
          have hlo : p * 2 + 2 ≤ ((wo (l.take k) n ++ l.drop p).flatMap encE ++ post).length := by rw [List.length_append, encE_len, hlen]; omega
          clear hh
          go_wp2_with (first
            | (go_at_call 38; refine (vic1_calls x y n nb _ HC2.out).mono ?_; rintro ee w3 ⟨rfl, hc3⟩; rw [HH.out]; have y0 : w3.cell? ⟨wr.heap.size, 0, none⟩ = some (.int .i64 x) := hc3.cell (by rw [cell_blk (blk_new wr _)]; rfl) nob; have y1 : w3.cell? ⟨wr.heap.size, 1, none⟩ = some (.int .i64 y) := hc3.cell (by rw [cell_blk (blk_new wr _)]; rfl) nob)
            | ((fail_if_success (fail_if_success (with_reducible change wpList _ _ _ (Oper.mk _ (.store 50 _ _) _ _ _ _ :: _) _ _))); refine step_storeAt2 rfl rfl g (p * 2) (cells := [.int .i64 x, .int .i64 y]) rfl rfl (hc3.heap (blk_alloc hI.out.2 _) nob) (by kernel_rfl) hlo (by simp [Value.oneCell']) ?_; intro w4 hb4 hc4 hs4))
          have HCC : Hid (Chg (OneB g) w w4) := hid (((hI.out.1.alloc _).trans hc3 (fun _ h => h.elim)).trans' hc4)
          go_roundw
          case rel => exact ⟨k + 1, p + 1, by omega, by omega, by go_num, by go_num, HPN, hid ⟨HCC.out, by rw [hb4]; exact congrArg (fun z => some (Obj.cells (List.toArray z) 50 (0, 0))) HBN.out⟩⟩
          case measure => simp [intOf]; omega
        · have HH := hid hh
          have HPN : Hid (wo (l.take (k + 1)) n = wo (l.take k) n) := hid (by rw [HTK.out, wo_snoc, hh]; simp)
          clear hh
          go_wp2_with (go_at_call 38; refine (vic1_calls x y n nb _ HC2.out).mono ?_; rintro ee w3 ⟨rfl, hc3⟩; rw [HH.out])
          go_roundw
          case rel => exact ⟨k + 1, p, by omega, by omega, by go_num, rfl, by rw [HPN.out]; exact hp, hid ⟨(hI.out.1.alloc _).trans hc3 (fun _ h => h.elim), by rw [HPN.out]; exact hc3.heap (blk_alloc hI.out.2 _) nob⟩⟩
          case measure => simp [intOf]; omega
      · obtain rfl : l.length = k := by omega
        rw [List.take_length] at hp hI hlen
        have hcp : (cap = p) = False := eq_false (by omega)
        have hpc : (p : Int) ≤ (cap : Int) := by omega
        have hlc : (l.length : Int) ≤ (cap : Int) := by omega
        have HIb := hid hI.out.2
        have HIc := hid hI.out.1
        go_upto_region 11 with fail
        go_wp2_with (refine step_clear rfl _ rfl Try.underlying22 (z := .agg #[.int .i64 0, .int .i64 0]) (u := .int .i64 0) (k := 2) (fun _ => by kernel_rfl) rfl rfl g (p * 2) (l.length - p) (cap - p) (by omega) rfl (fun j hj => ?_) ?_)
        · rw [cell_blk HIb.out, frozen_blk HIb.out]
          have h9 : p * 2 + j < ((wo l n ++ l.drop p).flatMap encE ++ post).length := by rw [List.length_append, encE_len, hlen]; omega
          exact ⟨by simp only [List.getElem?_toArray]; rw [List.getElem?_eq_getElem h9]; rfl, rfl⟩
        · go_wp2_with fail
          go_ret
          have hb5 := setCells_blk (List.replicate ((l.length - p) * 2) (Value.int .i64 0)) (p * 2) wr _ HIb.out
          refine ⟨_, rfl, hid ?_, hid ?_, hid (fun i hi => by simpa [OwnB, Value.ownBlock] using hi)⟩
          · have hC : ((wo l n ++ l.drop p).flatMap encE ++ post).length = cap * 2 := by rw [List.length_append, encE_len, hlen]; omega
            have hV : (List.replicate ((l.length - p) * 2) (Value.int .i64 0)).length = (l.length - p) * 2 := List.length_replicate
            have hxl : ((wo l n).flatMap encE).length = p * 2 := by rw [encE_len, ← hp.out]
            have hle : p * 2 + (List.replicate ((l.length - p) * 2) (Value.int .i64 0)).length ≤ (((wo l n ++ l.drop p).flatMap encE ++ post).toArray).size := by rw [hV, List.size_toArray, hC]; omega
            have e5 : setL ((wo l n ++ l.drop p).flatMap encE ++ post).toArray (p * 2) (List.replicate ((l.length - p) * 2) (Value.int .i64 0)) = ((wo l n).flatMap encE ++ (List.replicate ((l.length - p) * 2) (Value.int .i64 0) ++ ((wo l n ++ l.drop p).flatMap encE ++ post).drop (p * 2 + (l.length - p) * 2))).toArray := by
              apply Array.ext'
              have ht : ((wo l n ++ l.drop p).flatMap encE ++ post).take (p * 2) = (wo l n).flatMap encE := by rw [List.flatMap_append, List.append_assoc, List.take_left' hxl]
              rw [setL_list _ _ _ hle, hV, List.toList_toArray, ht, List.append_assoc]
            rw [e5] at hb5
            have hpw : (wo l n).length = p := hp.out.symm
            rw [hpw]
            refine rowE_of hBg hb5 (by omega) (by unfold maxLen; omega) ?_ hxl
            rw [hxl, List.length_append, hV, List.length_drop, hC]
            omega
          · exact (Chg.setCells _ _ _ HIc.out (.inl rfl)).mono (fun i hi => .inl (by have h' : i = g := hi; simp [OwnB, Value.ownBlock, h']))
end Go.Proofs.Ytlhblkpdfdpiaaa.Wt
