import Derived.Test.YtlhblkpdfdpiaaaWtBkL
namespace Go.Proofs.Ytlhblkpdfdpiaaa.Wt
open Go.RowKit Go.ChangeMaps Go.MapKept Go.Shelf
set_option linter.unusedVariables false
set_option linter.unusedSimpArgs false
set_option linter.unnecessarySimpa false
set_option maxHeartbeats 16000000

/-- the state of the law's loop -/
structure PRel (w : World) (p : Nat) (rs : List Nat) (t : LTab) (q : Nat) (v : Value) (L : List RRow) (wr : World) : Prop where
  lk : LockAt wr p rs t
  rf : RefAt wr q v w.heap.size L
  rel : RelLR t L
  dis : ∀ i, RefB q v i → i ∉ p :: rs
  chg : Chg NoB w wr
  new : ∀ r ∈ p :: rs, w.heap.size ≤ r

theorem PRel.keep {w wr w' : World} {p q : Nat} {rs : List Nat} {t : LTab} {v : Value} {L : List RRow} (h : PRel w p rs t q v L wr) (hc : Chg NoB wr w') : PRel w p rs t q v L w' :=
  ⟨h.lk.keep hc (fun e => e) (fun _ _ e => e), h.rf.keep hc (fun e => e) (fun _ _ e => e), h.rel, h.dis, h.chg.trans' hc, h.new⟩

/-- One call to the lock's table, one to the reference's. -/
theorem PRel.both {w wr w1 w2 : World} {p q : Nat} {rs : List Nat} {t t' : LTab} {v v' : Value} {L L' : List RRow} {S : Nat → Prop} (h : PRel w p rs t q v L wr) (hl : LockAt w1 p rs t') (c1 : Chg (InB rs) wr w1) (hr : RefAt w2 q v' w.heap.size L') (c2 : Chg S w1 w2) (hS : ∀ i, S i → RefB q v i)
    (hv : ∀ i, OwnB v' i → OwnB v i ∨ w1.heap.size ≤ i) (hrel : RelLR t' L') : PRel w p rs t' q v' L' w2 := by
  have hd : ∀ i, S i → i ∉ p :: rs := fun i hi => h.dis i (hS i hi)
  refine ⟨hl.keep c2 (fun e => hd p e (by simp)) (fun r hr e => hd r e (List.mem_cons_of_mem _ hr)), hr, hrel, ?_, (h.chg.new c1 fun i hi => h.new i (List.mem_cons_of_mem _ hi)).new c2 fun i hi => ?_, h.new⟩
  · rintro i (rfl | hi) hm
    · exact h.dis i (.inl rfl) hm
    · rcases hv i hi with h1 | h1
      · exact h.dis i (.inr h1) hm
      · rcases List.mem_cons.1 hm with rfl | hm
        · have := hl.plt; omega
        · have := hl.rlt i hm; omega
  · rcases hS i hi with rfl | h1
    · exact h.rf.ge
    · exact (h.rf.vlt i h1).1

theorem PRel.rf1 {w wr w1 : World} {p q : Nat} {rs : List Nat} {t : LTab} {v : Value} {L : List RRow} (h : PRel w p rs t q v L wr) (c1 : Chg (InB rs) wr w1) : RefAt w1 q v w.heap.size L :=
  h.rf.keep c1 (fun e => h.dis q (.inl rfl) (List.mem_cons_of_mem _ e)) fun i hi e => h.dis i (.inr hi) (List.mem_cons_of_mem _ e)


/-- The state of the law's loop: both tables, and who took. -/
structure BkR (W : World) (p : Nat) (rs : List Nat) (q : Nat) (l : List Trip) (s7 : Value) (wr : World) : Prop where
  pr : ∃ tv, PRel W p rs (tkT l) q tv (tkL l) wr ∧ ∀ b, OwnB s7 b → b ∉ p :: rs ∧ ¬ RefB q tv b
  row : wr.ownsRow W.heap.size 3 1 s7 l.length ((l.map (·.txn)).map (Value.int .i64))

set_option maxRecDepth 100000 in
theorem waitsBlocked_walk (w : World) (v : Value) (l : List Trip) (hv0 : RdR w 3 (fun (x : Trip) cs => cs = encT x) v l) (ov : Value) (x : Int × Int × Int) (ho0 : ∃ x3 x4 x5 x6 x7, ov.cells.toList = [.int .i64 x.1, .int .i64 x.2.1, .int .i64 x.2.2, x3, x4, x5, x6, x7]) :
    Calls Try.prog 4 #[v, ov] w fun e w' => e = .returned (.bool true) ∧ Chg NoB w w' := by
  obtain ⟨kd, tx, pg⟩ := x
  obtain ⟨x3, x4, x5, x6, x7, ho⟩ := ho0
  have hov : ov = .agg #[.int .i64 kd, .int .i64 tx, .int .i64 pg, x3, x4, x5, x6, x7] := by
    cases ov with
    | agg cs =>
      have h : cs.toList = [.int .i64 kd, .int .i64 tx, .int .i64 pg, x3, x4, x5, x6, x7] := ho
      congr 1
      rw [← Array.toArray_toList (xs := cs), h]
    | _ => exfalso; simp [Value.cells] at ho
  subst hov
  clear ho
  obtain ⟨a, c, rfl, q1, q2, hr⟩ := hv0.rd
  clear hv0
  unfold maxLen at q2
  have HR := hid hr
  clear hr
  by_cases h100 : 100 < l.length
  · have h100i : (100 : Int) < (l.length : Int) := by omega
    go_enter Try.func4, Try.ntmps4
    go_upto_region 1 with fail
    have hc0 : Hid (Chg NoB w (w.alloc (.cells #[.int .i64 kd, .int .i64 tx, .int .i64 pg, x3, x4, x5, x6, x7] 37))) := hid ((Chg.refl NoB w).alloc _)
    refine wp_gen (fun W => Hid (Chg NoB w W)) hc0 ?_
    intro W HC
    go_upto_region 2 with (go_at_call 8; refine (awake W).mono ?_; rintro e w1 ⟨rfl, c1⟩)
    go_wp2_with fail
    refine (awake w1).mono ?_
    rintro e w2 ⟨rfl, c2⟩
    go_wp2
    go_ret
    exact ⟨rfl, HC.out.trans' (c1.out.trans' c2.out)⟩
  have h100i : ¬ (100 : Int) < (l.length : Int) := by omega
  have HLN : Hid (l.length ≤ 100) := hid (by omega)
  go_enter Try.func4, Try.ntmps4
  go_upto_region 1 with fail
  obtain ⟨nb, hnb⟩ := named w.heap.size
  have hw0 : Hid (Chg NoB w (w.alloc (.cells #[.int .i64 kd, .int .i64 tx, .int .i64 pg, x3, x4, x5, x6, x7] 37)) ∧ (w.alloc (.cells #[.int .i64 kd, .int .i64 tx, .int .i64 pg, x3, x4, x5, x6, x7] 37)).heap[nb]? = some (.cells #[.int .i64 kd, .int .i64 tx, .int .i64 pg, x3, x4, x5, x6, x7] 37 (0, 0))) := hid ⟨(Chg.refl NoB w).alloc _, by rw [hnb.out]; exact blk_new _ _⟩
  rw [← hnb.out]
  refine wp_gen (fun W => Hid (Chg NoB w W ∧ W.heap[nb]? = some (.cells #[.int .i64 kd, .int .i64 tx, .int .i64 pg, x3, x4, x5, x6, x7] 37 (0, 0)))) hw0 ?_
  intro W0 HW0
  clear hw0
  go_upto_region 3 with (go_at_call 8; refine (awake W0).mono ?_; rintro e W ⟨rfl, c1⟩)
  have HWB : Hid (Chg NoB w W ∧ W.heap[nb]? = some (.cells #[.int .i64 kd, .int .i64 tx, .int .i64 pg, x3, x4, x5, x6, x7] 37 (0, 0))) := hid ⟨HW0.out.1.trans' c1.out, c1.out.heap HW0.out.2 nob⟩
  clear c1 HW0
  go_upto_region 4 with (go_at_call 16; refine (lockNew' W).mono ?_; rintro e w2 ⟨⟨p, rs, rfl, hL, hn⟩, c2⟩)
  have hP0 : PRel W p rs lkEmpty w2.heap.size (.slice none 0 0) [] (w2.alloc (.cells #[.slice none 0 0] 43)) := by
    refine ⟨hL.keep ((Chg.refl NoB _).alloc _) (fun e => e) (fun _ _ e => e), ⟨blk_new _ _, World.ownsRow_nil _ _ _ _, by simp [OwnB, Value.ownBlock], c2.size, by simp⟩, RelLR.empty, ?_, c2.alloc _, hn⟩
    rintro i (rfl | hi) hm
    · rcases List.mem_cons.1 hm with e | hm
      · have := hL.plt; omega
      · have := hL.rlt _ hm; omega
    · simp [OwnB, Value.ownBlock] at hi
  generalize hq : w2.heap.size = q at hP0 ⊢
  have HP0 : Hid (BkR W p rs q (l.take 0) (.slice none 0 0) (w2.alloc (.cells #[.slice none 0 0] 43))) := hid ⟨⟨_, hP0, fun b hb => by simp [OwnB, Value.ownBlock] at hb⟩, World.ownsRow_nil _ _ _ _⟩
  clear hq hL hn c2 hP0
  refine wp_gen (fun W2 => Hid (BkR W p rs q (l.take 0) (.slice none 0 0) W2)) HP0 ?_
  intro W2 HW2
  clear HP0
  go_wp2_with fail
  go_loopw [7, 25] (fun s7 s25 wr => ∃ k : Nat, k ≤ l.length ∧ s25 = .int .i64 k ∧ Hid (BkR W p rs q (l.take k) s7 wr)) (fun _ k _ => l.length - (intOf k).toNat)
  case atStart => exact ⟨0, by omega, rfl, HW2⟩
  case round =>
    obtain ⟨k, hk, rfl, hI⟩ := hrel
    clear HW2
    obtain ⟨oa, oc, e1⟩ := ownsForm hI.out.row
    subst e1
    by_cases hlt : k < l.length
    · obtain ⟨x, hx⟩ := named l[k]
      obtain ⟨⟨tv, hP, hS⟩, hO⟩ := hI.out
      have HP := hid hP
      have HS := hid hS
      have HO := hid hO
      clear hP hS hO hI
      obtain ⟨b, off, hab, h2⟩ := Rd.cells HR.out (HWB.out.1.trans' HP.out.chg) k hlt
      rw [← hx.out] at h2
      subst hab
      have g0 := h2 0 _ rfl
      have g1 := h2 1 _ rfl
      have g2 := h2 2 _ rfl
      simp only [Nat.add_zero] at g0
      clear h2
      have hTN : Hid (tkT (l.take (k + 1)) = lkTake (tkT (l.take k)) x.txn x.page x.mode) := hid (by rw [List.take_succ_eq_append_getElem hlt, tkT_snoc, hx.out])
      have hLN : Hid (tkL (l.take (k + 1)) = rfTake (tkL (l.take k)) x.txn x.page x.mode) := hid (by rw [List.take_succ_eq_append_getElem hlt, tkL_snoc, hx.out])
      have hXN : Hid ((l.take (k + 1)).map (·.txn) = (l.take k).map (·.txn) ++ [x.txn] ∧ (l.take (k + 1)).length = (l.take k).length + 1) := hid (by rw [List.take_succ_eq_append_getElem hlt, hx.out, List.map_append, List.length_append]; exact ⟨rfl, rfl⟩)
      have hll : (l.take k).length ≤ 100 := by rw [List.length_take]; have := HLN.out; omega
      have hlr : (tkL (l.take k)).length ≤ 100 := by have := tkL_len (l.take k); omega
      obtain ⟨lk, hlk⟩ := named (l.take k)
      rw [← hlk.out] at HP HS HO hTN hLN hXN hll hlr
      rw [← hlk.out]
      go_upto_region 8 with fail
      obtain ⟨ob, hob⟩ := named wr.heap.size
      have hw3 : Hid (Chg NoB wr (wr.alloc (.cells #[.int .i64 x.txn, .int .i64 x.page, .int .i64 x.mode] 44)) ∧ (wr.alloc (.cells #[.int .i64 x.txn, .int .i64 x.page, .int .i64 x.mode] 44)).heap[ob]? = some (.cells #[.int .i64 x.txn, .int .i64 x.page, .int .i64 x.mode] 44 (0, 0))) := hid ⟨(Chg.refl NoB wr).alloc _, by rw [hob.out]; exact blk_new _ _⟩
      rw [← hob.out]
      refine wp_gen (fun W => Hid (Chg NoB wr W ∧ W.heap[ob]? = some (.cells #[.int .i64 x.txn, .int .i64 x.page, .int .i64 x.mode] 44 (0, 0)))) hw3 ?_
      intro w3 HW3
      clear hw3 g0 g1 g2
      have HP3 := hid (HP.out.keep HW3.out.1)
      have HO3 := hid (ownsRow.chg HO.out HW3.out.1 (fun _ _ => nob))
      have hobp : Hid (ob ∉ p :: rs ∧ ¬ RefB q tv ob ∧ ¬ OwnB (.slice oa lk.length oc) ob) := hid ⟨fun h => by
          rcases List.mem_cons.1 h with e | h
          · have := HP.out.lk.plt; rw [hob.out] at e; omega
          · have := HP.out.lk.rlt _ h; rw [hob.out] at this; omega, fun h => by
          rcases h with e | h
          · have := HP.out.rf.qlt; rw [hob.out] at e; omega
          · have := (HP.out.rf.vlt _ h).2; rw [hob.out] at this; omega, fun h => by have := (OwnB.ge HO.out _ h).2; rw [hob.out] at this; omega⟩
      have y0 : w3.cell? ⟨ob, 0, none⟩ = some (.int .i64 x.txn) := cell_blk HW3.out.2 0
      have y1 : w3.cell? ⟨ob, 1, none⟩ = some (.int .i64 x.page) := cell_blk HW3.out.2 1
      have y2 : w3.cell? ⟨ob, 2, none⟩ = some (.int .i64 x.mode) := cell_blk HW3.out.2 2
      go_upto_region 9 with (go_at_call 17; refine (lockTake p rs (tkT lk) x.txn x.page x.mode w3 HP3.out.lk _ (hid rfl) _ (hid rfl)).mono ?_; rintro e w4 ⟨rfl, h4, c4⟩)
      have H4 := hid h4
      have HC4 := hid c4
      clear h4 c4 y0 y1 y2
      have HB4 := hid (HC4.out.heap HW3.out.2 (fun h => hobp.out.1 (List.mem_cons_of_mem _ h)))
      have y0 : w4.cell? ⟨ob, 0, none⟩ = some (.int .i64 x.txn) := cell_blk HB4.out 0
      have y1 : w4.cell? ⟨ob, 1, none⟩ = some (.int .i64 x.page) := cell_blk HB4.out 1
      have y2 : w4.cell? ⟨ob, 2, none⟩ = some (.int .i64 x.mode) := cell_blk HB4.out 2
      go_upto_region 10 with (go_at_call 18; refine (refTake q tv W.heap.size (tkL lk) x.txn x.page x.mode w4 (HP3.out.rf1 HC4.out) (by omega) _ (hid rfl)).mono ?_; rintro e w5 ⟨rfl, tv5, h5, c5, n5⟩)
      have HP5 : Hid (PRel W p rs (tkT (l.take (k + 1))) q tv5 (tkL (l.take (k + 1))) w5) := hid (by
        rw [hTN.out, hLN.out]
        exact HP3.out.both H4.out HC4.out h5 c5 (fun i hi => hi) n5 (HP3.out.rel.take _ _ _))
      have HN5 := hid n5
      have HC5 := hid c5
      have HB5 := hid (HC5.out.heap HB4.out hobp.out.2.1)
      have HO5 := hid (ownsRow.chg (ownsRow.chg HO3.out HC4.out (fun b hb h => (HS.out b hb).1 (List.mem_cons_of_mem _ h))) HC5.out (fun b hb h => (HS.out b hb).2 h))
      have hs5 : w4.heap.size ≤ w5.heap.size := HC5.out.size
      have hs4 : w3.heap.size ≤ w4.heap.size := HC4.out.size
      clear h5 c5 n5 y0 y1 y2
      have y0 : w5.cell? ⟨ob, 0, none⟩ = some (.int .i64 x.txn) := cell_blk HB5.out 0
      have hbs := HP5.out.chg.size
      go_wp2_with (at_builtin; refine step_app1 slInt rfl _ _ rfl (World.ownsRow.alloc HO5.out _) rfl w5.heap.size [.int .i64 x.txn] rfl (blk_new _ _) rfl rfl (by simp [Value.oneCell']) (by omega) (by unfold maxLen; omega) (by simp; omega) ?_; intro v6 w6 hv6 hc6 hn6 hnil)
      obtain ⟨a6, n6, rfl⟩ := ownsForm hv6
      have HV6 := hid hv6
      have HN6 := hid hn6
      have HC6 : Hid (Chg (OwnB (.slice oa lk.length oc)) w5 w6) := hid (((Chg.refl (OwnB (.slice oa lk.length oc)) w5).alloc _).trans' hc6)
      clear hv6 hc6 hn6 hnil
      go_wp2_with fail
      go_roundw
      case rel =>
        refine ⟨k + 1, by omega, by go_num, hid ⟨⟨tv5, ?_, ?_⟩, ?_⟩⟩
        · have hd : ∀ i, OwnB (.slice oa lk.length oc) i → i ∉ p :: rs ∧ ¬ RefB q tv5 i := fun i hi => ⟨(HS.out i hi).1, fun h => by
            rcases h with rfl | h
            · exact (HS.out _ hi).2 (.inl rfl)
            · rcases HN5.out i h with h | h
              · exact (HS.out _ hi).2 (.inr h)
              · have := (OwnB.ge HO3.out _ hi).2; omega⟩
          obtain ⟨z1, z2, z3, z4, z5, z6⟩ := HP5.out
          exact ⟨z1.keep HC6.out (fun h => (hd _ h).1 (by simp)) (fun r hr h => (hd _ h).1 (List.mem_cons_of_mem _ hr)), z2.keep HC6.out (fun h => (hd _ h).2 (.inl rfl)) (fun i hi h => (hd _ h).2 (.inr hi)), z3, z4, z5.new HC6.out (fun i hi => (OwnB.ge HO5.out i hi).1), z6⟩
        · intro i hi
          rcases HN6.out i hi with h | h
          · refine ⟨(HS.out i h).1, fun h' => ?_⟩
            rcases h' with rfl | h'
            · exact (HS.out _ h).2 (.inl rfl)
            · rcases HN5.out i h' with h' | h'
              · exact (HS.out _ h).2 (.inr h')
              · have := (OwnB.ge HO3.out _ h).2; omega
          · simp at h
            refine ⟨fun h' => ?_, fun h' => ?_⟩
            · rcases List.mem_cons.1 h' with rfl | h'
              · have := HP5.out.lk.plt; omega
              · have := HP5.out.lk.rlt _ h'; omega
            · rcases h' with rfl | h'
              · have := HP5.out.rf.qlt; omega
              · have := (HP5.out.rf.vlt _ h').2; omega
        · rw [hXN.out.1, hXN.out.2]
          simpa using HV6.out
      case measure => simp [intOf]; omega
    · obtain rfl : l.length = k := by omega
      rw [List.take_length] at hI
      rw [List.take_length]
      have HI := hid hI.out
      obtain ⟨⟨tv, hP, _⟩, hO⟩ := hI.out
      have HP := hid hP
      have HO := hid hO
      have hcw := hid (HWB.out.1.trans' hP.chg)
      have z0 : ∀ i, wr.cell? ⟨nb, i, none⟩ = (#[.int .i64 kd, .int .i64 tx, .int .i64 pg, x3, x4, x5, x6, x7] : Array Value)[i]? := fun i => cell_blk (hP.chg.heap HWB.out.2 nob) i
      have y0 := z0 0
      have y1 := z0 1
      have y2 := z0 2
      have y3 := z0 3
      have y4 := z0 4
      have y5 := z0 5
      have y6 := z0 6
      have y7 := z0 7
      simp at y0 y1 y2 y3 y4 y5 y6 y7
      have HBW := hid (hP.chg.heap HWB.out.2 nob)
      have hlt2 := HLN.out
      have HRX := hid (Rd.ints_of (l := l.map (·.txn)) (by simpa using HO.out))
      clear z0 hI hP hO HI
      have HLM : (l.map (·.txn)).length ≤ 1000 := by rw [List.length_map]; omega
      obtain ⟨LB, hLB⟩ := named (pBl (tkT l) kd tx pg (l.map (·.txn)))
      have HEQ : Hid (rBl (tkL l) kd tx pg (l.map (·.txn)) = LB) := hid (by rw [hLB.out, pBl_rBl (rel_tk l)])
      go_upto_region 13 with (go_at_call 19; refine (pbl_calls wr p rs (tkT l) HP.out.lk kd tx pg x3 x4 x5 x6 x7 _ (l.map (·.txn)) HRX.out HLM).mono ?_; rintro e w4 ⟨v4, rfl, h4, c4⟩; rw [← hLB.out] at h4; obtain ⟨a4, n4, e4⟩ := ownsForm h4.out.1; subst e4)
      have HC4 := hid c4.out
      have HP4 := hid (HP.out.keep HC4.out)
      have HB4 := hid (HC4.out.heap HBW.out nob)
      have HRX4 := hid (HRX.out.keep HC4.out (fun _ _ _ => nob))
      have HRL4 := hid (Rd.ints_of h4.out.1)
      have z0 : ∀ i, w4.cell? ⟨nb, i, none⟩ = (#[.int .i64 kd, .int .i64 tx, .int .i64 pg, x3, x4, x5, x6, x7] : Array Value)[i]? := fun i => cell_blk HB4.out i
      clear y0 y1 y2 y3 y4 y5 y6 y7 c4
      have y0 := z0 0
      have y1 := z0 1
      have y2 := z0 2
      have y3 := z0 3
      have y4 := z0 4
      have y5 := z0 5
      have y6 := z0 6
      have y7 := z0 7
      simp at y0 y1 y2 y3 y4 y5 y6 y7
      clear z0
      go_upto_region 15 with (first
        | (go_at_call 20; refine (rbl_calls w4 q tv W.heap.size (tkL l) HP4.out.rf kd tx pg x3 x4 x5 x6 x7 _ (l.map (·.txn)) HRX4.out HLM).mono ?_; rintro e w5 ⟨v5, rfl, h5, c5⟩; rw [HEQ.out] at h5; obtain ⟨a5, n5, e5⟩ := ownsForm h5.out.1; subst e5)
        | (go_at_call 11; refine (sameC _ _ LB LB w5 (HRL4.out.keep c5.out (fun _ _ _ => nob)) (Rd.ints_of h5.out.1) true (hid (by simp))).mono ?_; rintro e w6 ⟨rfl, c6⟩))
      have HC6 := hid (c5.out.trans' c6.out)
      have HP6 := hid (HP4.out.keep HC6.out)
      have HB6 := hid (HC6.out.heap HB4.out nob)
      have HCE := hid ((HWB.out.1.trans' HP.out.chg).trans' (HC4.out.trans' HC6.out))
      clear y0 y1 y2 y3 y4 y5 y6 y7 h5 c5 c6 h4
      have y0 : w6.cell? ⟨nb, 0, none⟩ = some (.int .i64 kd) := cell_blk HB6.out 0
      have y1 : w6.cell? ⟨nb, 1, none⟩ = some (.int .i64 tx) := cell_blk HB6.out 1
      have y2 : w6.cell? ⟨nb, 2, none⟩ = some (.int .i64 pg) := cell_blk HB6.out 2
      have HNO : Hid (¬ opIn kd → LB.length = 0) := hid (fun h => by rw [hLB.out, pBl, if_neg h]; rfl)
      by_cases z1 : kd < 2
      · have hz0 := HNO.out (fun h => by have h : kd = 2 ∨ kd = 3 ∨ kd = 4 := h; omega)
        have hz1 : ((LB.length : Int) == 0) = true := by rw [hz0]; rfl
        have k2 : (kd == 2) = false := by simp; omega
        go_wp2_with fail
        go_ret
        exact ⟨rfl, HCE.out⟩
      by_cases z2 : kd > 4
      · have hz0 := HNO.out (fun h => by have h : kd = 2 ∨ kd = 3 ∨ kd = 4 := h; omega)
        have hz1 : ((LB.length : Int) == 0) = true := by rw [hz0]; rfl
        have k2 : (kd == 2) = false := by simp; omega
        go_wp2_with fail
        go_ret
        exact ⟨rfl, HCE.out⟩
      have hop : Hid (opIn kd) := hid (show kd = 2 ∨ kd = 3 ∨ kd = 4 by omega)
      by_cases z3 : tx < 1 ∨ tx > 100 ∨ pg < 0 ∨ pg > 7
      · have z5 : (2 : Int) ≤ kd := by omega
        have z6 : kd ≤ 4 := by omega
        have hgood : Hid True := hid trivial
        cases hz : ((LB.length : Int) == 0) <;> cases k2 : (kd == 2)
        all_goals
          by_cases z31 : tx < 1
          · clear z3
            go_wp2_with fail
            go_ret
            exact ⟨rfl, HCE.out⟩
          by_cases z32 : tx > 100
          · clear z3
            go_wp2_with fail
            go_ret
            exact ⟨rfl, HCE.out⟩
          by_cases z33 : pg < 0
          · clear z3
            go_wp2_with fail
            go_ret
            exact ⟨rfl, HCE.out⟩
          have z34 : pg > 7 := by omega
          clear z3
          go_wp2_with fail
          go_ret
          exact ⟨rfl, HCE.out⟩
      · have z31 : ¬ tx < 1 := by omega
        have z32 : ¬ tx > 100 := by omega
        have z33 : ¬ pg < 0 := by omega
        have z34 : ¬ pg > 7 := by omega
        have hmb := may_blk l kd tx pg hop.out (by omega) (by omega)
        rw [← hLB.out] at hmb
        obtain ⟨res, hres⟩ := named (lkMay (tkT l) tx pg (mdK kd))
        rw [← hres.out] at hmb
        have HM : ∃ b, decide ((0 : Int) < (LB.length : Int)) = b ∧ (res == 6) = b := by
          refine ⟨_, rfl, ?_⟩
          rw [Bool.eq_iff_iff, decide_eq_true_iff, beq_iff_eq, hmb]
          constructor
          · intro h; have : 0 < LB.length := List.length_pos_iff.2 h; omega
          · intro h e; rw [e] at h; simp at h
        obtain ⟨b, hb1, hb2⟩ := HM
        have hb0 : Hid (decide (0 < LB.length) = b) := hid (by
          rw [← hb1]
          simp)
        clear hmb z3
        by_cases k20 : kd = 2
        · subst k20
          have hres2 : Hid (res = lkMay (tkT l) tx pg 1) := hres
          cases b
          all_goals
            go_wp2_with (go_at_call 21; refine (lockMay p rs (tkT l) tx pg 1 w6 HP6.out.lk res hres2).mono ?_; rintro e w7 ⟨rfl, c7⟩)
            go_ret
            first
              | exact ⟨show Ending.returned (.bool (!decide (0 < LB.length))) = _ by rw [hb0.out]; rfl, HCE.out.trans' c7⟩
              | exact ⟨show Ending.returned (.bool (decide (0 < LB.length))) = _ by rw [hb0.out], HCE.out.trans' c7⟩
        · have k2 : (kd == 2) = false := by simp; omega
          have hres2 : Hid (res = lkMay (tkT l) tx pg 2) := hid (by rw [hres.out]; unfold mdK; rw [if_neg k20])
          cases b
          all_goals
            go_wp2_with (go_at_call 21; refine (lockMay p rs (tkT l) tx pg 2 w6 HP6.out.lk res hres2).mono ?_; rintro e w7 ⟨rfl, c7⟩)
            go_ret
            first
              | exact ⟨show Ending.returned (.bool (!decide (0 < LB.length))) = _ by rw [hb0.out]; rfl, HCE.out.trans' c7⟩
              | exact ⟨show Ending.returned (.bool (decide (0 < LB.length))) = _ by rw [hb0.out], HCE.out.trans' c7⟩
end Go.Proofs.Ytlhblkpdfdpiaaa.Wt
namespace Go.Proofs.Ytlhblkpdfdpiaaa
export Wt (waitsBlocked_walk)
end Go.Proofs.Ytlhblkpdfdpiaaa
