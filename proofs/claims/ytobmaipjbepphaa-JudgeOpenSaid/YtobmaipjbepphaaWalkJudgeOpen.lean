import Derived.Test.YtobmaipjbepphaaWalkJudgeFew
namespace Go.Proofs.Ytobmaipjbepphaa
open Go.RowKit Go.ChangeMaps Go.MapKept
attribute [local go_sem] Go.Oper.rdK
set_option linter.unusedVariables false
set_option maxHeartbeats 8000000

theorem jRun_nodup (l : List Ent) : ∀ s : JS, (s.op.map (·.txn)).Nodup → ((jRun s l).op.map (·.txn)).Nodup := by
  have hupd : ∀ (T : List JT) (t : JT), (jUpd T t).map (·.txn) = T.map (·.txn) := fun T t => by
    unfold jUpd
    rw [List.map_map]
    apply List.map_congr_left
    intro x _
    simp only [Function.comp_def]
    split
    · rename_i h; simp at h; exact h.symm
    · rfl
  have hold : ∀ (T : List JT) (a n : Int), (T.map (·.txn)).Nodup → ((jOld T a n).map (·.txn)).Nodup := fun T a n h => by
    unfold jOld
    split
    · exact h
    · rename_i hf
      rw [List.map_append, List.nodup_append]
      refine ⟨h, by simp, fun x hx y hy => ?_⟩
      obtain rfl : y = n := by simpa using hy
      rintro rfl
      obtain ⟨t, ht, rfl⟩ := List.mem_map.1 hx
      apply hf
      unfold jFind
      cases hq : T.find? (fun u => u.txn == t.txn) with
      | some u => rfl
      | none => have := List.find?_eq_none.1 hq t ht; simp at this
  have step : ∀ (s : JS) (x : Ent), (s.op.map (·.txn)).Nodup → ((jEnt s x).2.op.map (·.txn)).Nodup := fun s x h => by
    rcases jEnt_op s x with e | e
    · rw [e]; exact h
    · rw [e]
      rcases jOwn_op { s with last := max s.last x.at_ } x.at_ x.r with ⟨u, hu, e2⟩ | e2
      · rw [e2, hupd]; exact hold _ _ _ h
      · rw [e2]; unfold jDel; exact (hold _ _ _ h).sublist (List.Sublist.map _ List.filter_sublist)
  induction l with
  | nil => intro s h; exact h
  | cons x l ih => intro s h; exact ih _ (step s x h)

/-- What stands within the loops. -/
structure OpW (w W wr : World) (bt : Nat) (t1 t2 t3 : Int) : Prop where
  chg : Chg NoB w wr
  ch2 : Chg NoB W wr
  d0 : wr.cell? ⟨bt, 0, none⟩ = some (.int .i64 t1)
  d2 : wr.cell? ⟨bt, 2, none⟩ = some (.int .i64 t3)
theorem OpW.keep {w W wr w2 : World} {bt : Nat} {t1 t2 t3 : Int} (h : OpW w W wr bt t1 t2 t3) (hc : Chg NoB wr w2) : OpW w W w2 bt t1 t2 t3 := ⟨h.chg.trans' hc, h.ch2.trans' hc, hc.cell h.d0 nob, hc.cell h.d2 nob⟩

set_option maxRecDepth 100000 in
theorem judgeOpen_walk (w : World) (v : Value) (l : List Ent) (hv : Ents w v l) :
    Calls Try.prog 5 #[v] w fun e w' => e = .returned (.bool true) ∧ Chg NoB w w' := by
  obtain ⟨f, hf⟩ := named (entsFew l)
  have HV := hid hv
  obtain ⟨a, c, rfl, q1, q2, h3⟩ := hv
  have H3 := hid h3
  unfold maxLen at q2
  clear h3
  cases f
  · go_enter Try.func5, Try.ntmps5
    go_wp2_with (first
      | (go_at_call 6; refine (awake w).mono ?_; rintro e w1 ⟨rfl, c1⟩)
      | (go_at_call 7; refine (entsFew_calls _ l _ (HV.out.mono c1) _ hf).mono ?_; rintro e w2 ⟨rfl, c2⟩))
    refine (awake w2).mono ?_
    rintro e w3 ⟨rfl, c3⟩
    go_wp2
    go_ret
    exact ⟨rfl, c1.trans' (c2.trans' c3)⟩
  have h200 := few_200 hf.out
  have hokk := hid (okk_of HV.out hf.out)
  obtain ⟨R, hR⟩ := named (jRows (jRun jNew l))
  have hRl : R.length ≤ 200 := by
    rw [hR.out]; unfold jRows
    rw [List.length_map, sortI_len, List.length_map]
    have := jRun_len l jNew
    have h0 : jNew.op.length = 0 := rfl
    omega
  have hfacts : Hid (∀ (i : Nat) (x y z : Int), R[i]? = some (x, y, z) → (lo l x).2 = false ∧ (∃ e, l[(lo l x).1]? = some e ∧ e.at_ = z) ∧ ∀ a' b' c', 0 < i → R[i - 1]? = some (a', b', c') → a' < x) := hid (fun i x y z h => by
    rw [hR.out] at h
    obtain ⟨u, g1, g2, g3⟩ := jRows_at (jRun_nodup l jNew (by simp [jNew])) h
    obtain ⟨g4, e, g5, g6⟩ := (open_inv x l).1 u g1
    exact ⟨g4, ⟨e, g5, g6.trans g2⟩, fun a' b' c' hi h' => g3 a' b' c' hi (by rw [← hR.out]; exact h')⟩)
  go_enter Try.func5, Try.ntmps5
  go_wp2_with (first
    | (go_at_call 6; refine (awake w).mono ?_; rintro e w1 ⟨rfl, c1⟩)
    | (go_at_call 7; refine (entsFew_calls _ l _ (HV.out.mono c1) _ hf).mono ?_; rintro e w2 ⟨rfl, c2⟩)
    | (go_at_call 10; refine (open_calls _ l _ (HV.out.mono (c1.trans' c2)) (by omega) hokk.out R hR).mono ?_; rintro e w4 ⟨vo, rfl, ho4, c4⟩; obtain ⟨ao, co, rfl⟩ := ownsForm ho4.out))
  have HC := hid (c1.trans' (c2.trans' c4.out))
  obtain ⟨_, _, ee, hr1, hr2, hrd⟩ := Rd.of_own (l := R) (enc := encTx) (size := 3) (fun _ => rfl) ho4.out
  cases ee
  have HRD := hid hrd
  clear hrd ho4 c1 c2 c4
  go_loopw [22] (fun i wr => ∃ j : Nat, j ≤ R.length ∧ i = .int .i64 j ∧ Hid (Chg NoB w4 wr)) (fun i _ => R.length - toN i)
  case atStart => exact ⟨0, by omega, rfl, Chg.refl _ _⟩
  case round =>
    obtain ⟨j, hj, rfl, hc⟩ := hrel
    by_cases hlj : j < R.length
    · obtain ⟨t1, t2, t3, rb, ro, hrx, rfl, f0, f1, f2⟩ := row_at HRD.out hc.out j hlj
      obtain ⟨hl1, ⟨le, hl2, hl3⟩, hl4⟩ := hfacts.out j t1 t2 t3 (by rw [← hrx.out]; exact List.getElem?_eq_getElem hlj)
      have HL1 := hid hl1
      have HL2 := hid hl2
      have HL3 := hid hl3
      have HL4 := hid hl4
      clear hl1 hl2 hl3 hl4
      go_wp2_with fail
      have HO : Hid (OpW w w4 (wr.alloc (.cells #[.int .i64 t1, .int .i64 t2, .int .i64 t3] 38)) wr.heap.size t1 t2 t3) := hid ⟨(HC.out.trans' hc.out).alloc _, hc.out.alloc _, by rw [cell_blk (blk_new _ _)]; rfl, by rw [cell_blk (blk_new _ _)]; rfl⟩
      obtain ⟨bt, hbt⟩ := named wr.heap.size
      rw [← hbt.out] at HO ⊢
      clear f0 f1 f2 hc
      go_loopw [6, 7, 29] (fun s6 s7 i wr => ∃ k : Nat, k ≤ l.length ∧ i = .int .i64 k ∧ s6 = .int .i64 (lo (l.take k) t1).1 ∧ s7 = .bool (lo (l.take k) t1).2 ∧ Hid (OpW w w4 wr bt t1 t2 t3)) (fun _ _ i _ => l.length - toN i)
      case atStart => exact ⟨0, by omega, rfl, rfl, rfl, HO⟩
      case round =>
        obtain ⟨k, hk, rfl, rfl, rfl, hO⟩ := hrel
        clear HO
        by_cases hlt : k < l.length
        · obtain ⟨x, b, off, v1, v2, hx, rfl, ht, hok, hE, hbl, hone⟩ := Ents.at H3.out hO.out.chg k hlt
          obtain ⟨⟨a1, n1, rfl, _, _, _⟩, ⟨a2, n2, rfl, _, _, _⟩⟩ := ht
          obtain ⟨c0, g0, g1, g2, g3, g4, g5, g6, g7, g8, g9, g10⟩ := hE.cells
          have hlo : Hid (lo (l.take (k + 1)) t1 = if isOf x t1 then (k, decide (3 ≤ x.r.kind)) else lo (l.take k) t1) := hid (by
            rw [take_snoc' hlt, lo_snoc, hx.out, List.length_take, Nat.min_eq_left hk])
          obtain ⟨⟨p1, p2⟩, hp⟩ := named (lo (l.take k) t1)
          rw [← hp.out]
          have HA := hid (hO.out.keep ((Chg.refl NoB wr).alloc (.cells (encE (x, .slice a1 x.r.txns.length n1, .slice a2 x.r.pages.length n2)).toArray 32)))
          have hlo2 : Hid (lo (l.take (k + 1)) t1 = if isOf x t1 then (k, decide (3 ≤ x.r.kind)) else (p1, p2)) := hid (by rw [hlo.out, ← hp.out])
          have e0 := hO.out.d0
          unfold encE Rec.cs at HA
          clear hE hlo
          have hsz : bt < wr.heap.size := World.block_lt_of_cell? _ _ e0
          cases hi : isOf x t1 with
          | true =>
            obtain ⟨i1, i2⟩ := isOf_iff.1 hi
            have i3 : (1 : Int) ≤ x.r.kind := by omega
            have i4 : x.r.kind ≤ 4 := by omega
            have i5 : (x.r.txn == t1) = true := by simp [i2]
            obtain ⟨zb, hzb⟩ := named (decide (3 ≤ x.r.kind))
            have hz := hzb.out.symm
            have hend : Hid (lo (l.take (k + 1)) t1 = (k, zb)) := hid (by rw [hlo2.out, hi, hzb.out]; rfl)
            clear hi i1 i2 hlo2
            go_upto_region 13 with fail
            have y0 : (wr.alloc (.cells #[.int .i64 x.at_, .int .i64 x.r.kind, .int .i64 x.r.txn, .int .i64 x.r.page, .int .i64 x.r.off, .int .i64 x.r.prev, .int .i64 x.r.next, .int .i64 x.r.beg, .string x.r.before, .string x.r.after, .slice a1 x.r.txns.length n1, .slice a2 x.r.pages.length n2] 32)).cell? ⟨wr.heap.size, 1, none⟩ = some (.int .i64 x.r.kind) := by rw [cell_blk (blk_new _ _)]; rfl
            refine wp_region_ord 7 (.rd 0 (.rd 1 (.rd 2 (.rd 3 (.rd 4 (.rd 5 (.rd 6 (.done)))))))) (Same (wr.alloc (.cells #[.int .i64 x.at_, .int .i64 x.r.kind, .int .i64 x.r.txn, .int .i64 x.r.page, .int .i64 x.r.off, .int .i64 x.r.prev, .int .i64 x.r.next, .int .i64 x.r.beg, .string x.r.before, .string x.r.after, .slice a1 x.r.txns.length n1, .slice a2 x.r.pages.length n2] 32))) (by kernel_rfl) (by kernel_rfl) (by kernel_rfl) (by kernel_rfl) (by kernel_rfl) (fun _ _ d _ _ h => by cases d <;> exact h) (Same.of (Chg.refl _ _).drew) (fun hS0 => ?_)
            refine wpOrd_rd rfl rfl (by first | decide | simp) (by assumption) (fun w' hw' K hK => by ((try unfold Same at hw'); (try go_split_ands); go_simp; exact hK)) ?_
            refine wpOrd_rd rfl rfl (by first | decide | simp) (by assumption) (fun w' hw' K hK => by ((try unfold Same at hw'); (try go_split_ands); go_simp; exact hK)) ?_
            refine wpOrd_rd rfl rfl (by first | decide | simp) (by assumption) (fun w' hw' K hK => by ((try unfold Same at hw'); (try go_split_ands); go_simp; exact hK)) ?_
            refine wpOrd_rd rfl rfl (by first | decide | simp) (by assumption) (fun w' hw' K hK => by ((try unfold Same at hw'); (try go_split_ands); go_simp; exact hK)) ?_
            refine wpOrd_rd rfl rfl (by first | decide | simp) (by assumption) (fun w' hw' K hK => by ((try unfold Same at hw'); (try go_split_ands); go_simp; exact hK)) ?_
            refine wpOrd_rd rfl rfl (by first | decide | simp) (by assumption) (fun w' hw' K hK => by ((try unfold Same at hw'); (try go_split_ands); go_simp; exact hK)) ?_
            refine wpOrd_rd rfl rfl (by first | decide | simp) (by assumption) (fun w' hw' K hK => by ((try unfold Same at hw'); (try go_split_ands); go_simp; exact hK)) ?_
            refine wpOrd_nil ?_
            clear y0 hS0 hz c0 g0 g1 g2 g3 g4 g5 g6 g7 g8 g9 g10 e0
            go_wp2_with fail
            go_roundw
            case rel => exact ⟨k + 1, by omega, by go_num, by rw [hend.out], by rw [hend.out], hid (HA.out.keep (Chg.refl _ _).drew)⟩
            case measure => simp [toN]; omega
          | false =>
            have hend : Hid (lo (l.take (k + 1)) t1 = (p1, p2)) := hid (by rw [hlo2.out, hi]; rfl)
            have hno : ¬ ((x.r.kind = 1 ∨ x.r.kind = 2 ∨ x.r.kind = 3 ∨ x.r.kind = 4) ∧ x.r.txn = t1) := fun h => by rw [isOf_iff.2 h] at hi; cases hi
            clear hi hlo2
            by_cases i3 : (1 : Int) ≤ x.r.kind
            · by_cases i4 : x.r.kind ≤ 4
              · have i5 : (x.r.txn == t1) = false := by simp; exact fun h => hno ⟨by omega, h⟩
                clear hno
                go_wp2_with fail
                go_roundw
                case rel => exact ⟨k + 1, by omega, by go_num, by rw [hend.out], by rw [hend.out], hid HA.out⟩
                case measure => simp [toN]; omega
              · clear hno
                go_wp2_with fail
                go_roundw
                case rel => exact ⟨k + 1, by omega, by go_num, by rw [hend.out], by rw [hend.out], hid HA.out⟩
                case measure => simp [toN]; omega
            · clear hno
              go_wp2_with fail
              go_roundw
              case rel => exact ⟨k + 1, by omega, by go_num, by rw [hend.out], by rw [hend.out], hid HA.out⟩
              case measure => simp [toN]; omega
        · obtain rfl : k = l.length := by omega
          rw [List.take_length, HL1.out]
          obtain ⟨p1, hp⟩ := named (lo l t1).1
          rw [← hp.out] at HL2 ⊢
          have hpl : p1 < l.length := (List.getElem?_eq_some_iff.1 HL2.out).1
          obtain ⟨x, b, off, v1, v2, hx, rfl, ht, hok, hE, hbl, hone⟩ := Ents.at H3.out hO.out.chg p1 hpl
          have hxl : x = le := by have := HL2.out; rw [List.getElem?_eq_getElem hpl, hx.out] at this; cases this; rfl
          have c0 : wr.cell? ⟨b, off + p1 * 12, none⟩ = some (.int .i64 t3) := by rw [hE.1, hxl, HL3.out]
          have d0 := hO.out.d0
          have d2 := hO.out.d2
          have hp0 : (0 : Int) ≤ (p1 : Int) := by omega
          have hp1 : (p1 : Int) < (l.length : Int) := by omega
          clear hE ht hxl
          have hne : (t3 != t3) = false := by simp
          rcases Nat.eq_zero_or_pos j with h0 | h0
          · have hd : decide ((0 : Int) < (j : Int)) = false := by simp; omega
            have hdN : (0 < j) = False := propext ⟨fun h => by omega, fun h => h.elim⟩
            clear h0
            go_upto_region 15 with fail
            refine wp_region_ord 26 (.rd 0 (.rd 1 (.rd 2 (.rd 3 (.rd 4 (.rd 5 (.rd 6 (.rd 7 (.rd 8 (.rd 9 (.rd 10 (.rd 11 (.rd 12 (.rd 13 (.rd 14 (.rd 15 (.rd 16 (.rd 17 (.rd 18 (.rd 19 (.rd 20 (.rd 21 (.rd 22 (.rd 23 (.rd 24 (.rd 25 (.done))))))))))))))))))))))))))) (Same wr) (by kernel_rfl) (by kernel_rfl) (by kernel_rfl) (by kernel_rfl) (by kernel_rfl) (fun _ _ d _ _ h => by cases d <;> exact h) (Same.of (Chg.refl _ _).drew) (fun hS0 => ?_)
            refine wpOrd_rd rfl rfl (by first | decide | simp) (by assumption) (fun w' hw' K hK => by ((try unfold Same at hw'); (try go_split_ands); go_simp; exact hK)) ?_
            refine wpOrd_rd rfl rfl (by first | decide | simp) (by assumption) (fun w' hw' K hK => by ((try unfold Same at hw'); (try go_split_ands); go_simp; exact hK)) ?_
            refine wpOrd_rd rfl rfl (by first | decide | simp) (by assumption) (fun w' hw' K hK => by ((try unfold Same at hw'); (try go_split_ands); go_simp; exact hK)) ?_
            refine wpOrd_rd rfl rfl (by first | decide | simp) (by assumption) (fun w' hw' K hK => by ((try unfold Same at hw'); (try go_split_ands); go_simp; exact hK)) ?_
            refine wpOrd_rd rfl rfl (by first | decide | simp) (by assumption) (fun w' hw' K hK => by ((try unfold Same at hw'); (try go_split_ands); go_simp; exact hK)) ?_
            refine wpOrd_rd rfl rfl (by first | decide | simp) (by assumption) (fun w' hw' K hK => by ((try unfold Same at hw'); (try go_split_ands); go_simp; exact hK)) ?_
            refine wpOrd_rd rfl rfl (by first | decide | simp) (by assumption) (fun w' hw' K hK => by ((try unfold Same at hw'); (try go_split_ands); go_simp; exact hK)) ?_
            refine wpOrd_rd rfl rfl (by first | decide | simp) (by assumption) (fun w' hw' K hK => by ((try unfold Same at hw'); (try go_split_ands); go_simp; exact hK)) ?_
            refine wpOrd_rd rfl rfl (by first | decide | simp) (by assumption) (fun w' hw' K hK => by ((try unfold Same at hw'); (try go_split_ands); go_simp; exact hK)) ?_
            refine wpOrd_rd rfl rfl (by first | decide | simp) (by assumption) (fun w' hw' K hK => by ((try unfold Same at hw'); (try go_split_ands); go_simp; exact hK)) ?_
            refine wpOrd_rd rfl rfl (by first | decide | simp) (by assumption) (fun w' hw' K hK => by ((try unfold Same at hw'); (try go_split_ands); go_simp; exact hK)) ?_
            refine wpOrd_rd rfl rfl (by first | decide | simp) (by assumption) (fun w' hw' K hK => by ((try unfold Same at hw'); (try go_split_ands); go_simp; exact hK)) ?_
            refine wpOrd_rd rfl rfl (by first | decide | simp) (by assumption) (fun w' hw' K hK => by ((try unfold Same at hw'); (try go_split_ands); go_simp; exact hK)) ?_
            refine wpOrd_rd rfl rfl (by first | decide | simp) (by assumption) (fun w' hw' K hK => by ((try unfold Same at hw'); (try go_split_ands); go_simp; exact hK)) ?_
            refine wpOrd_rd rfl rfl (by first | decide | simp) (by assumption) (fun w' hw' K hK => by ((try unfold Same at hw'); (try go_split_ands); go_simp; exact hK)) ?_
            refine wpOrd_rd rfl rfl (by first | decide | simp) (by assumption) (fun w' hw' K hK => by ((try unfold Same at hw'); (try go_split_ands); go_simp; exact hK)) ?_
            refine wpOrd_rd rfl rfl (by first | decide | simp) (by assumption) (fun w' hw' K hK => by ((try unfold Same at hw'); (try go_split_ands); go_simp; exact hK)) ?_
            refine wpOrd_rd rfl rfl (by first | decide | simp) (by assumption) (fun w' hw' K hK => by ((try unfold Same at hw'); (try go_split_ands); go_simp; exact hK)) ?_
            refine wpOrd_rd rfl rfl (by first | decide | simp) (by assumption) (fun w' hw' K hK => by ((try unfold Same at hw'); (try go_split_ands); go_simp; exact hK)) ?_
            refine wpOrd_rd rfl rfl (by first | decide | simp) (by assumption) (fun w' hw' K hK => by ((try unfold Same at hw'); (try go_split_ands); go_simp; exact hK)) ?_
            refine wpOrd_rd rfl rfl (by first | decide | simp) (by assumption) (fun w' hw' K hK => by ((try unfold Same at hw'); (try go_split_ands); go_simp; exact hK)) ?_
            refine wpOrd_rd rfl rfl (by first | decide | simp) (by assumption) (fun w' hw' K hK => by ((try unfold Same at hw'); (try go_split_ands); go_simp; exact hK)) ?_
            refine wpOrd_rd rfl rfl (by first | decide | simp) (by assumption) (fun w' hw' K hK => by ((try unfold Same at hw'); (try go_split_ands); go_simp; exact hK)) ?_
            refine wpOrd_rd rfl rfl (by first | decide | simp) (by assumption) (fun w' hw' K hK => by ((try unfold Same at hw'); (try go_split_ands); go_simp; exact hK)) ?_
            refine wpOrd_rd rfl rfl (by first | decide | simp) (by assumption) (fun w' hw' K hK => by ((try unfold Same at hw'); (try go_split_ands); go_simp; exact hK)) ?_
            refine wpOrd_rd rfl rfl (by first | decide | simp) (by assumption) (fun w' hw' K hK => by ((try unfold Same at hw'); (try go_split_ands); go_simp; exact hK)) ?_
            refine wpOrd_nil ?_
            clear hd hdN hne c0 d0 d2 hS0
            go_wp2_with fail
            go_roundw
            case rel => exact ⟨j + 1, by omega, by go_num, hid hO.out.ch2.drew⟩
            case measure => simp [toN]; omega
          · obtain ⟨m, rfl⟩ : ∃ m, j = m + 1 := ⟨j - 1, by omega⟩
            have hmR : m < R.length := by omega
            obtain ⟨s1, s2, s3, rb2, ro2, hrx2, e2, f0, _, _⟩ := row_at HRD.out hO.out.ch2 m hmR
            cases e2
            have hlt2 := HL4.out s1 s2 s3 (by omega) (by rw [show m + 1 - 1 = m by omega, ← hrx2.out]; exact List.getElem?_eq_getElem hmR)
            have hge : decide (t1 ≤ s1) = false := by simp; omega
            have hd : decide ((0 : Int) < (m : Int) + 1) = true := by rw [decide_eq_true_iff]; omega
            have hw : IntKind.i64.wrap (m : Int) = (m : Int) := by rw [IntKind.wrap_i64]; omega
            have hm0 : (0 : Int) ≤ (m : Int) := by omega
            have hm1 : (m : Int) < (R.length : Int) := by omega
            clear h0 hlt2
            go_upto_region 15 with fail
            refine wp_region_ord 26 (.rd 0 (.rd 1 (.rd 2 (.rd 3 (.rd 4 (.rd 5 (.rd 6 (.rd 7 (.rd 8 (.rd 9 (.rd 10 (.rd 11 (.rd 12 (.rd 13 (.rd 14 (.rd 15 (.rd 16 (.rd 17 (.rd 18 (.rd 19 (.rd 20 (.rd 21 (.rd 22 (.rd 23 (.rd 24 (.rd 25 (.done))))))))))))))))))))))))))) (Same wr) (by kernel_rfl) (by kernel_rfl) (by kernel_rfl) (by kernel_rfl) (by kernel_rfl) (fun _ _ d _ _ h => by cases d <;> exact h) (Same.of (Chg.refl _ _).drew) (fun hS0 => ?_)
            refine wpOrd_rd rfl rfl (by first | decide | simp) (by assumption) (fun w' hw' K hK => by ((try unfold Same at hw'); (try go_split_ands); go_simp; exact hK)) ?_
            refine wpOrd_rd rfl rfl (by first | decide | simp) (by assumption) (fun w' hw' K hK => by ((try unfold Same at hw'); (try go_split_ands); go_simp; exact hK)) ?_
            refine wpOrd_rd rfl rfl (by first | decide | simp) (by assumption) (fun w' hw' K hK => by ((try unfold Same at hw'); (try go_split_ands); go_simp; exact hK)) ?_
            refine wpOrd_rd rfl rfl (by first | decide | simp) (by assumption) (fun w' hw' K hK => by ((try unfold Same at hw'); (try go_split_ands); go_simp; exact hK)) ?_
            refine wpOrd_rd rfl rfl (by first | decide | simp) (by assumption) (fun w' hw' K hK => by ((try unfold Same at hw'); (try go_split_ands); go_simp; exact hK)) ?_
            refine wpOrd_rd rfl rfl (by first | decide | simp) (by assumption) (fun w' hw' K hK => by ((try unfold Same at hw'); (try go_split_ands); go_simp; exact hK)) ?_
            refine wpOrd_rd rfl rfl (by first | decide | simp) (by assumption) (fun w' hw' K hK => by ((try unfold Same at hw'); (try go_split_ands); go_simp; exact hK)) ?_
            refine wpOrd_rd rfl rfl (by first | decide | simp) (by assumption) (fun w' hw' K hK => by ((try unfold Same at hw'); (try go_split_ands); go_simp; exact hK)) ?_
            refine wpOrd_rd rfl rfl (by first | decide | simp) (by assumption) (fun w' hw' K hK => by ((try unfold Same at hw'); (try go_split_ands); go_simp; exact hK)) ?_
            refine wpOrd_rd rfl rfl (by first | decide | simp) (by assumption) (fun w' hw' K hK => by ((try unfold Same at hw'); (try go_split_ands); go_simp; exact hK)) ?_
            refine wpOrd_rd rfl rfl (by first | decide | simp) (by assumption) (fun w' hw' K hK => by ((try unfold Same at hw'); (try go_split_ands); go_simp; exact hK)) ?_
            refine wpOrd_rd rfl rfl (by first | decide | simp) (by assumption) (fun w' hw' K hK => by ((try unfold Same at hw'); (try go_split_ands); go_simp; exact hK)) ?_
            refine wpOrd_rd rfl rfl (by first | decide | simp) (by assumption) (fun w' hw' K hK => by ((try unfold Same at hw'); (try go_split_ands); go_simp; exact hK)) ?_
            refine wpOrd_rd rfl rfl (by first | decide | simp) (by assumption) (fun w' hw' K hK => by ((try unfold Same at hw'); (try go_split_ands); go_simp; exact hK)) ?_
            refine wpOrd_rd rfl rfl (by first | decide | simp) (by assumption) (fun w' hw' K hK => by ((try unfold Same at hw'); (try go_split_ands); go_simp; exact hK)) ?_
            refine wpOrd_rd rfl rfl (by first | decide | simp) (by assumption) (fun w' hw' K hK => by ((try unfold Same at hw'); (try go_split_ands); go_simp; exact hK)) ?_
            refine wpOrd_rd rfl rfl (by first | decide | simp) (by assumption) (fun w' hw' K hK => by ((try unfold Same at hw'); (try go_split_ands); go_simp; exact hK)) ?_
            refine wpOrd_rd rfl rfl (by first | decide | simp) (by assumption) (fun w' hw' K hK => by ((try unfold Same at hw'); (try go_split_ands); go_simp; exact hK)) ?_
            refine wpOrd_rd rfl rfl (by first | decide | simp) (by assumption) (fun w' hw' K hK => by ((try unfold Same at hw'); (try go_split_ands); go_simp; exact hK)) ?_
            refine wpOrd_rd rfl rfl (by first | decide | simp) (by assumption) (fun w' hw' K hK => by ((try unfold Same at hw'); (try go_split_ands); go_simp; exact hK)) ?_
            refine wpOrd_rd rfl rfl (by first | decide | simp) (by assumption) (fun w' hw' K hK => by ((try unfold Same at hw'); (try go_split_ands); go_simp; exact hK)) ?_
            refine wpOrd_rd rfl rfl (by first | decide | simp) (by assumption) (fun w' hw' K hK => by ((try unfold Same at hw'); (try go_split_ands); go_simp; exact hK)) ?_
            refine wpOrd_rd rfl rfl (by first | decide | simp) (by assumption) (fun w' hw' K hK => by ((try unfold Same at hw'); (try go_split_ands); go_simp; exact hK)) ?_
            refine wpOrd_rd rfl rfl (by first | decide | simp) (by assumption) (fun w' hw' K hK => by ((try unfold Same at hw'); (try go_split_ands); go_simp; exact hK)) ?_
            refine wpOrd_rd rfl rfl (by first | decide | simp) (by assumption) (fun w' hw' K hK => by ((try unfold Same at hw'); (try go_split_ands); go_simp; exact hK)) ?_
            refine wpOrd_rd rfl rfl (by first | decide | simp) (by assumption) (fun w' hw' K hK => by ((try unfold Same at hw'); (try go_split_ands); go_simp; exact hK)) ?_
            refine wpOrd_nil ?_
            clear hd hne hge hw c0 d0 d2 f0 hS0
            go_wp2_with fail
            go_roundw
            case rel => exact ⟨m + 2, by omega, by go_num, hid hO.out.ch2.drew⟩
            case measure => simp [toN]; omega
    · obtain rfl : j = R.length := by omega
      go_wp2_with fail
      go_ret
      exact ⟨rfl, HC.out.trans' hc.out⟩
end Go.Proofs.Ytobmaipjbepphaa
