import Derived.Test.YtmhmlfdidnhaoaaLockRel
namespace Go.Proofs.Ytmhmlfdidnhaoaa
open Go.RowKit Go.ChangeMaps

theorem LockAt.drewN {w : World} {p : Nat} {rs : List Nat} {t : LTab} (h : LockAt w p rs t) (n : Nat) : LockAt (w.drewN n) p rs t := ⟨h.lr, h.lt, h.nd, h.blk, h.maps⟩
theorem RefAt.drewN {w : World} {q : Nat} {v : Value} {B : Nat} {L : List RRow} (h : RefAt w q v B L) (n : Nat) : RefAt (w.drewN n) q v B L := ⟨h.blk, h.own, h.ne, h.ge, h.len⟩

theorem quietSame {P : Program} {f : FuncId} {args : Array Value} {w : World} {n : Nat} {v : Value} (h : Calls P f args (w.drewN n) fun e w' => e = .returned v ∧ w.drewN n = w') :
    Calls P f args (w.drewN n) fun e w'' => e = .returned v ∧ ∃ m, w'' = w.drewN m := h.mono fun _ _ ⟨he, hm⟩ => ⟨he, n, hm.symm⟩

/-- the state of the law's loop -/
structure PRel (w : World) (p : Nat) (rs : List Nat) (t : LTab) (q : Nat) (v : Value) (L : List RRow) (wr : World) : Prop where
  lk : LockAt wr p rs t
  rf : RefAt wr q v w.heap.size L
  rel : RelLR t L
  dis : ∀ i, RefB q v i → i ∉ p :: rs
  chg : Chg NoB w wr
  new : ∀ r ∈ p :: rs, w.heap.size ≤ r

theorem PRel.keep {w wr w' : World} {p q : Nat} {rs : List Nat} {t : LTab} {v : Value} {L : List RRow} (h : PRel w p rs t q v L wr) (hc : Chg NoB wr w') : PRel w p rs t q v L w' :=
  ⟨h.lk.keep hc (fun e => e) (fun _ _ e => e), h.rf.keep hc (fun e => e) (fun _ _ e => e), h.rel, h.dis, h.chg.trans' hc, h.new⟩

/-- One call to the lock's table, one to the reference's. -/
theorem PRel.both {w wr w1 w2 : World} {p q : Nat} {rs : List Nat} {t t' : LTab} {v v' : Value} {L L' : List RRow} {S : Nat → Prop} (h : PRel w p rs t q v L wr) (hl : LockAt w1 p rs t') (c1 : Chg (InB rs) wr w1) (hr : RefAt w2 q v' w.heap.size L') (c2 : Chg S w1 w2) (hS : ∀ i, S i → RefB q v i)
    (hv : ∀ i, OwnB v' i → OwnB v i ∨ w1.heap.size ≤ i) (hrel : RelLR t' L') : PRel w p rs t' q v' L' w2 := by
  have hd : ∀ i, S i → i ∉ p :: rs := fun i hi => h.dis i (hS i hi)
  refine ⟨hl.keep c2 (fun e => hd p e (by simp)) (fun r hr e => hd r e (List.mem_cons_of_mem _ hr)), hr, hrel, ?_, (h.chg.new c1 fun i hi => h.new i (List.mem_cons_of_mem _ hi)).new c2 fun i hi => ?_, h.new⟩
  · rintro i (rfl | hi) hm
    · exact h.dis i (.inl rfl) hm
    · rcases hv i hi with h1 | h1
      · exact h.dis i (.inr h1) hm
      · rcases List.mem_cons.1 hm with rfl | hm
        · have := hl.plt; omega
        · have := hl.rlt i hm; omega
  · rcases hS i hi with rfl | h1
    · exact h.rf.ge
    · exact (h.rf.vlt i h1).1

theorem PRel.rf1 {w wr w1 : World} {p q : Nat} {rs : List Nat} {t : LTab} {v : Value} {L : List RRow} (h : PRel w p rs t q v L wr) (c1 : Chg (InB rs) wr w1) : RefAt w1 q v w.heap.size L :=
  h.rf.keep c1 (fun e => h.dis q (.inl rfl) (List.mem_cons_of_mem _ e)) fun i hi e => h.dis i (.inr hi) (List.mem_cons_of_mem _ e)

theorem rfUp_len (txn page mode : Int) (L : List RRow) : (rfUp txn page mode L).length ≤ L.length + 1 := by
  induction L with
  | nil => simp [rfUp]
  | cons x r ih => unfold rfUp; split <;> simp; omega
theorem rfTake_len (txn page mode : Int) (L : List RRow) : (rfTake L txn page mode).length ≤ L.length + 1 := by
  unfold rfTake
  split
  · exact rfUp_len _ _ _ _
  · omega
theorem rfFree_len (txn : Int) (L : List RRow) : (rfFree L txn).length ≤ L.length := List.length_filter_le _ _

/-- The copy goes on in the table's place. -/
theorem PRel.copy {w wr w1 w3 : World} {p q : Nat} {rs : List Nat} {t : LTab} {v : Value} {L : List RRow} (h : PRel w p rs t q v L wr) (hc : CopyRel wr t 8 w1) (c3 : Chg (InB rs) w1 w3) : PRel w wr.heap.size (newRs wr.heap.size) t q v L w3 := by
  have hl := hc.lock h.lk.lt
  have hge : ∀ i ∈ wr.heap.size :: newRs wr.heap.size, wr.heap.size ≤ i := by
    intro i hi
    rcases List.mem_cons.1 hi with rfl | hi
    · exact Nat.le_refl _
    · simp only [newRs, List.mem_map] at hi
      obtain ⟨j, _, rfl⟩ := hi
      omega
  have hno : ∀ i, wr.heap.size ≤ i → ¬ InB rs i := fun i hi e => by have := h.lk.rlt i e; omega
  have k := h.keep hc.chg
  refine ⟨hl.keep c3 (hno _ (Nat.le_refl _)) (fun r hr => hno r (hge r (List.mem_cons_of_mem _ hr))), k.rf1 c3, h.rel, ?_, k.chg.new c3 fun i hi => h.new i (List.mem_cons_of_mem _ hi), fun r hr => Nat.le_trans h.chg.size (hge r hr)⟩
  rintro i (rfl | hi) hm
  · have := hge _ hm; have := h.rf.qlt; omega
  · have := hge _ hm; have := (h.rf.vlt i hi).2; omega

theorem opc_keep {w w' : World} {ob : Nat} {a b c : Value} {S : Nat → Prop} (hc : Chg S w w') (h : ¬ S ob) (s : w.cell? ⟨ob, 1, none⟩ = some a ∧ w.cell? ⟨ob, 2, none⟩ = some b ∧ w.cell? ⟨ob, 3, none⟩ = some c) :
    w'.cell? ⟨ob, 1, none⟩ = some a ∧ w'.cell? ⟨ob, 2, none⟩ = some b ∧ w'.cell? ⟨ob, 3, none⟩ = some c := ⟨hc.cell s.1 h, hc.cell s.2.1 h, hc.cell s.2.2 h⟩

def haveK (t : LTab) (txn : Int) (m : Nat) : List Int := ((List.range m).map (fun x : Nat => (x : Int) - 1)).filter (fun i => decide (0 < lkMode t txn i))
theorem haveK_succ (t : LTab) (txn : Int) (m : Nat) : haveK t txn (m + 1) = haveK t txn m ++ if 0 < lkMode t txn ((m : Int) - 1) then [(m : Int) - 1] else [] := by
  unfold haveK
  rw [List.range_succ, List.map_append, List.filter_append]
  by_cases h : 0 < lkMode t txn ((m : Int) - 1) <;> simp [h]
theorem haveK_len (t : LTab) (txn : Int) (m : Nat) : (haveK t txn m).length ≤ m := by
  unfold haveK
  have := List.length_filter_le (fun i => decide (0 < lkMode t txn i)) ((List.range m).map (fun x : Nat => (x : Int) - 1))
  simpa using this
theorem haveK_all (t : LTab) (txn : Int) : haveK t txn 10 = lkPages t txn := by
  have h1 : ¬ 0 < lkMode t txn (-1) := by simp [lkMode]
  have h2 : ¬ 0 < lkMode t txn 8 := by simp [lkMode]
  unfold haveK lkPages lkPagesK
  have e1 : (List.range 10).map (fun x : Nat => (x : Int) - 1) = -1 :: ((List.range 8).map (fun x : Nat => (x : Int)) ++ [8]) := by rfl
  rw [e1, List.filter_cons, List.filter_append, List.filter_map]
  simp [h1, h2]
  rfl

set_option maxHeartbeats 8000000 in
set_option maxRecDepth 100000 in
theorem lockPlays_walk (w : World) (v : Value) (l : List LOp) (hv : RdR w 4 (fun (x : LOp) cs => cs = encLOp x) v l) :
    Calls Try.prog 6 #[v] w fun e w' => e = .returned (.bool true) ∧ Chg NoB w w' := by
  obtain ⟨a, c, rfl, h1, h2, h3⟩ := hv.rd
  clear hv
  unfold maxLen at h2
  by_cases hlen : 300 < l.length
  · have hl : (300 : Int) < (l.length : Int) := by omega
    go_enter Try.func6, Try.ntmps6
    go_wp2_with (go_at_call 8; refine (awake w).mono ?_; rintro e w1 ⟨rfl, c1⟩)
    refine (awake w1).mono ?_
    rintro e w2 ⟨rfl, c2⟩
    go_wp2
    go_ret
    exact ⟨rfl, c1.trans' c2⟩
  have hl : ¬ (300 : Int) < (l.length : Int) := by omega
  have HLN : Hid (l.length ≤ 300) := by unfold Hid; omega
  go_enter Try.func6, Try.ntmps6
  go_wp2_with (first | (go_at_call 8; refine (awake w).mono ?_; rintro e w1 ⟨rfl, c1⟩) | (go_at_call 9; refine (lockNew' w1).mono ?_; rintro e w2 ⟨⟨p, rs, rfl, hL, hn⟩, c2⟩))
  have hP0 : PRel w p rs lkEmpty w2.heap.size (.slice none 0 0) [] (w2.alloc (.cells #[.slice none 0 0] 40)) := by
    have cc : Chg NoB w w2 := c1.trans' c2
    refine ⟨hL.keep ((Chg.refl NoB _).alloc _) (fun e => e) (fun _ _ e => e), ⟨blk_new _ _, World.ownsRow_nil _ _ _ _, by simp [OwnB, Value.ownBlock], cc.size, by simp⟩, RelLR.empty, ?_, cc.alloc _, fun r hr => Nat.le_trans c1.size (hn r hr)⟩
    rintro i (rfl | hi) hm
    · rcases List.mem_cons.1 hm with e | hm
      · have := hL.plt; omega
      · have := hL.rlt _ hm; omega
    · simp [OwnB, Value.ownBlock] at hi
  generalize hq : w2.heap.size = q at hP0 ⊢
  clear hq hL hn c2
  have H3 := hid h3
  clear h3
  go_loopw [3, 23] (fun pv i wr => ∃ (k : Nat) (p : Nat) (rs : List Nat) (t : LTab) (vv : Value) (L : List RRow), k ≤ l.length ∧ i = .int .i64 k ∧ pv = .pointer (some ⟨p, 0, none⟩) ∧ L.length ≤ k ∧ PRel w p rs t q vv L wr) (fun _ i _ => l.length - (intOf i).toNat)
  case atStart => exact ⟨0, p, rs, _, _, _, by omega, rfl, rfl, by simp, hP0⟩
  case round =>
    clear hP0
    obtain ⟨k, p, rs, t, vv, L, hk, rfl, rfl, hLk, hP⟩ := hrel
    by_cases hlt : k < l.length
    · obtain ⟨b, off, rfl, hcs⟩ := Rd.cells H3.out hP.chg k hlt
      obtain ⟨x, hx⟩ := named l[k]
      rw [← hx.out] at hcs
      have g0 : wr.cell? ⟨b, off + k * 4, none⟩ = some (.int .i64 x.kind) := hcs 0 _ rfl
      have g1 : wr.cell? ⟨b, off + k * 4 + 1, none⟩ = some (.int .i64 x.txn) := hcs 1 _ rfl
      have g2 : wr.cell? ⟨b, off + k * 4 + 2, none⟩ = some (.int .i64 x.page) := hcs 2 _ rfl
      have g3 : wr.cell? ⟨b, off + k * 4 + 3, none⟩ = some (.int .i64 x.mode) := hcs 3 _ rfl
      clear hcs
      have hlt2 : (k : Int) < (l.length : Int) := by omega
      have hL1000 : L.length < 1000 := by have := HLN.out; omega
      obtain ⟨O, hO⟩ := named (Obj.cells #[Value.int IntKind.i64 x.kind, Value.int IntKind.i64 x.txn, Value.int IntKind.i64 x.page, Value.int IntKind.i64 x.mode] 27)
      have hP1 : PRel w p rs t q vv L (wr.alloc O).drew := (hP.keep ((Chg.refl NoB _).alloc O)).keep (Chg.refl NoB _).drew
      rw [hO.out] at hP1
      have S0 : (wr.alloc O).drew.cell? ⟨wr.heap.size, 1, none⟩ = some (.int .i64 x.txn) ∧ (wr.alloc O).drew.cell? ⟨wr.heap.size, 2, none⟩ = some (.int .i64 x.page) ∧ (wr.alloc O).drew.cell? ⟨wr.heap.size, 3, none⟩ = some (.int .i64 x.mode) := by
        rw [hO.out]
        exact ⟨cell_blk (blk_new wr _) 1, cell_blk (blk_new wr _) 2, cell_blk (blk_new wr _) 3⟩
      rw [hO.out] at S0
      have hob1 : ¬ InB rs wr.heap.size := fun h => by have := hP.lk.rlt _ h; omega
      have hob2 : ¬ RefB q vv wr.heap.size := by
        rintro (h | h)
        · have := hP.rf.qlt; omega
        · have := (hP.rf.vlt _ h).2; omega
      cases k1 : (x.kind == 1)
      case true =>
        go_wp2_with fail
        obtain ⟨res, hres⟩ := named (lkMay t x.txn x.page x.mode)
        have hres2 : Hid (res = rfMay L x.txn x.page x.mode) := by rw [← hP.rel.may]; exact hres
        have hbe : (res != res) = false := by simp
        go_region_held3 (fun w' => w'.cell? ⟨wr.heap.size, 1, none⟩ = some (.int .i64 x.txn) ∧ w'.cell? ⟨wr.heap.size, 2, none⟩ = some (.int .i64 x.page) ∧ w'.cell? ⟨wr.heap.size, 3, none⟩ = some (.int .i64 x.mode)) (first | exact S0 | exact opc_keep hC3 hob1 S0 | exact opc_keep hC4 hob2 (opc_keep hC3 hob1 S0) | exact opc_keep hC4 hob2' (opc_keep hC3 hob1 S0)) ((first | (go_at_call 11; refine (lockTake p rs t _ _ _ _ hP1.lk res hres _ (hid rfl)).mono ?_; rintro e w3 ⟨rfl, hL3, hC3⟩) | (go_at_call 15; refine (refTake q vv _ L _ _ _ _ (hP1.rf1 hC3) hL1000 res hres2).mono ?_; rintro e w4 ⟨rfl, v4, hR4, hC4, hV4⟩)))
        have hP4 := hP1.both hL3 hC3 hR4 hC4 (fun i hi => hi) hV4 (hP.rel.take x.txn x.page x.mode)
        have S4 := opc_keep hC4 hob2 (opc_keep hC3 hob1 S0)
        have hLn : (rfTake L x.txn x.page x.mode).length ≤ k + 1 := by have := rfTake_len x.txn x.page x.mode L; omega
        clear hL3 hC3 hR4 hC4 hV4
        generalize lkTake t x.txn x.page x.mode = t4 at hP4
        generalize rfTake L x.txn x.page x.mode = L4 at hP4 hLn

        have o1 := S4.1
        clear S4 S0 hob1 hob2 g0 g1 g2 g3 hP1 hP
        have HP4 := hid hP4
        clear hP4
        go_wp2_with fail
        go_loopw [8, 9] (fun hv i w' => ∃ m : Nat, m ≤ 10 ∧ i = .int .i64 ((m : Int) - 1) ∧ IntsAt w' w4.heap.size hv (haveK t4 x.txn m) ∧ Chg NoB w4 w') (fun _ i _ => (9 - intOf i).toNat)
        case atStart => exact ⟨0, by omega, rfl, by simpa [IntsAt, haveK] using World.ownsRow_nil _ _ _ _, Chg.refl _ _⟩
        case round =>
          obtain ⟨m, hm, rfl, hI, hC⟩ := hrel
          have hPm := HP4.out.keep hC
          have om := hC.cell o1 (fun e => e)
          by_cases hm10 : m < 10
          · have hlk := hPm.lk
            have hrf := hPm.rf
            obtain ⟨res, hres⟩ := named (lkMode t4 x.txn ((m : Int) - 1))
            have hres2 : Hid (res = rfMode L4 x.txn ((m : Int) - 1)) := by rw [← hPm.rel.mode]; exact hres
            have HS := hid (haveK_succ t4 x.txn m)
            have hIl := haveK_len t4 x.txn m
            rw [← hres.out] at HS
            clear hPm
            go_wp2_with fail
            go_quiet (first | (go_at_call 12; exact quietSame (lockMode _ _ _ _ _ _ (hlk.drewN _) res hres)) | (go_at_call 19; exact quietSame (refMode _ _ _ _ _ _ _ (hrf.drewN _) res hres2)))
            have hrf2 := hrf.drewN nq
            have hC2 := hC.drewN nq
            have hI2 : IntsAt (wr.drewN nq) w4.heap.size u8 (haveK t4 x.txn m) := hI
            by_cases hpos : 0 < res
            · have HP := hid hpos
              go_wp2_with (first | (go_at_call 19; refine (refMode _ _ _ _ _ _ _ hrf2 res hres2).mono ?_; rintro e w6 ⟨rfl, rfl⟩) | (at_builtin; refine step_app1 slInt rfl _ _ rfl (World.ownsRow.alloc hI2 _) rfl wr.heap.size [.int .i64 ((m : Int) - 1)] rfl (blk_new (wr.drewN nq) _) rfl rfl (by simp [Value.oneCell']) ?_ ?_ ?_ ?_))
              case _ => omega
              case _ => unfold maxLen; omega
              case _ => have := hC2.size; simp at this ⊢; omega
              intro v' w7 hv7 hc7 _ hnil
              have hv8 := IntsAt.snoc hv7
              have hc8 : Chg NoB w4 w7 := (hC2.alloc _).new hc7 fun i hi => (OwnB.ge hI2 i hi).1
              clear hv7 hc7 hI hI2 hlk hrf hrf2 om
              go_wp2
              go_roundw
              case rel => exact ⟨m + 1, by omega, by go_num, by rw [HS.out, if_pos HP.out]; exact hv8, hc8⟩
              case measure => simp [intOf]; omega
            · have HP := hid hpos
              go_wp2_with (go_at_call 19; refine (refMode _ _ _ _ _ _ _ hrf2 res hres2).mono ?_; rintro e w6 ⟨rfl, rfl⟩)
              go_roundw
              case rel => exact ⟨m + 1, by omega, by go_num, by rw [HS.out, if_neg (by have := HP.out; omega), List.append_nil]; exact hI2, hC2⟩
              case measure => simp [intOf]; omega
          · obtain rfl : m = 10 := by omega
            have hlk := hPm.lk
            go_wp2_with fail
            refine (lockPages _ _ _ _ _ hlk).mono ?_
            rintro e w5 ⟨⟨v5, rfl, hv5⟩, c5⟩
            have hI5 := ownsRow.chg hI c5 (fun _ _ e => e)
            go_wp2_with fail
            refine (refSame _ _ _ _ _ (Rd.ints_of hv5) (Rd.ints_of hI5) true (hid (by rw [haveK_all]; simp))).mono ?_
            rintro e w6 ⟨rfl, n6, rfl⟩
            have hfin := HP4.out.keep ((hC.trans' c5).drewN n6)
            clear hI hI5 hv5 hPm hlk om
            go_wp2
            go_roundw
            case rel => exact ⟨k + 1, p, rs, t4, v4, L4, by omega, by go_num, rfl, hLn, hfin⟩
            case measure => simp [intOf]; omega
      cases k2 : (x.kind == 2)
      case true =>
        go_wp2_with fail
        have hN := hid (hP.rel.count x.txn)
        have hob3 : ¬ OneB q wr.heap.size := fun h => hob2 (.inl h)
        go_region_held3 (fun w' => w'.cell? ⟨wr.heap.size, 1, none⟩ = some (.int .i64 x.txn) ∧ w'.cell? ⟨wr.heap.size, 2, none⟩ = some (.int .i64 x.page) ∧ w'.cell? ⟨wr.heap.size, 3, none⟩ = some (.int .i64 x.mode)) (first | exact S0 | exact opc_keep hC3 hob1 S0 | exact opc_keep hC4 hob3 (opc_keep hC3 hob1 S0)) ((first | (go_at_call 10; refine (lockFree p rs t _ _ hP1.lk).mono ?_; rintro e w3 ⟨rfl, hL3, hC3⟩) | (go_at_call 16; refine (refFree q vv _ L _ _ (hP1.rf1 hC3) (lkCount t x.txn) hN).mono ?_; rintro e w4 ⟨rfl, v4, hR4, hC4, hV4⟩)))
        have hP4 := hP1.both hL3 hC3 hR4 hC4 (fun i hi => .inl hi) (fun i hi => .inr (hV4 i hi)) (hP.rel.free x.txn)
        have S4 := opc_keep hC4 hob3 (opc_keep hC3 hob1 S0)
        have hLn : (rfFree L x.txn).length ≤ k + 1 := by have := rfFree_len x.txn L; omega
        clear hL3 hC3 hR4 hC4 hV4
        generalize lkFree t x.txn = t4 at hP4
        generalize rfFree L x.txn = L4 at hP4 hLn

        have o1 := S4.1
        clear S4 S0 hob1 hob2 g0 g1 g2 g3 hP1 hP
        have HP4 := hid hP4
        clear hP4
        go_wp2_with fail
        go_loopw [8, 9] (fun hv i w' => ∃ m : Nat, m ≤ 10 ∧ i = .int .i64 ((m : Int) - 1) ∧ IntsAt w' w4.heap.size hv (haveK t4 x.txn m) ∧ Chg NoB w4 w') (fun _ i _ => (9 - intOf i).toNat)
        case atStart => exact ⟨0, by omega, rfl, by simpa [IntsAt, haveK] using World.ownsRow_nil _ _ _ _, Chg.refl _ _⟩
        case round =>
          obtain ⟨m, hm, rfl, hI, hC⟩ := hrel
          have hPm := HP4.out.keep hC
          have om := hC.cell o1 (fun e => e)
          by_cases hm10 : m < 10
          · have hlk := hPm.lk
            have hrf := hPm.rf
            obtain ⟨res, hres⟩ := named (lkMode t4 x.txn ((m : Int) - 1))
            have hres2 : Hid (res = rfMode L4 x.txn ((m : Int) - 1)) := by rw [← hPm.rel.mode]; exact hres
            have HS := hid (haveK_succ t4 x.txn m)
            have hIl := haveK_len t4 x.txn m
            rw [← hres.out] at HS
            clear hPm
            go_wp2_with fail
            go_quiet (first | (go_at_call 12; exact quietSame (lockMode _ _ _ _ _ _ (hlk.drewN _) res hres)) | (go_at_call 19; exact quietSame (refMode _ _ _ _ _ _ _ (hrf.drewN _) res hres2)))
            have hrf2 := hrf.drewN nq
            have hC2 := hC.drewN nq
            have hI2 : IntsAt (wr.drewN nq) w4.heap.size u8 (haveK t4 x.txn m) := hI
            by_cases hpos : 0 < res
            · have HP := hid hpos
              go_wp2_with (first | (go_at_call 19; refine (refMode _ _ _ _ _ _ _ hrf2 res hres2).mono ?_; rintro e w6 ⟨rfl, rfl⟩) | (at_builtin; refine step_app1 slInt rfl _ _ rfl (World.ownsRow.alloc hI2 _) rfl wr.heap.size [.int .i64 ((m : Int) - 1)] rfl (blk_new (wr.drewN nq) _) rfl rfl (by simp [Value.oneCell']) ?_ ?_ ?_ ?_))
              case _ => omega
              case _ => unfold maxLen; omega
              case _ => have := hC2.size; simp at this ⊢; omega
              intro v' w7 hv7 hc7 _ hnil
              have hv8 := IntsAt.snoc hv7
              have hc8 : Chg NoB w4 w7 := (hC2.alloc _).new hc7 fun i hi => (OwnB.ge hI2 i hi).1
              clear hv7 hc7 hI hI2 hlk hrf hrf2 om
              go_wp2
              go_roundw
              case rel => exact ⟨m + 1, by omega, by go_num, by rw [HS.out, if_pos HP.out]; exact hv8, hc8⟩
              case measure => simp [intOf]; omega
            · have HP := hid hpos
              go_wp2_with (go_at_call 19; refine (refMode _ _ _ _ _ _ _ hrf2 res hres2).mono ?_; rintro e w6 ⟨rfl, rfl⟩)
              go_roundw
              case rel => exact ⟨m + 1, by omega, by go_num, by rw [HS.out, if_neg (by have := HP.out; omega), List.append_nil]; exact hI2, hC2⟩
              case measure => simp [intOf]; omega
          · obtain rfl : m = 10 := by omega
            have hlk := hPm.lk
            go_wp2_with fail
            refine (lockPages _ _ _ _ _ hlk).mono ?_
            rintro e w5 ⟨⟨v5, rfl, hv5⟩, c5⟩
            have hI5 := ownsRow.chg hI c5 (fun _ _ e => e)
            go_wp2_with fail
            refine (refSame _ _ _ _ _ (Rd.ints_of hv5) (Rd.ints_of hI5) true (hid (by rw [haveK_all]; simp))).mono ?_
            rintro e w6 ⟨rfl, n6, rfl⟩
            have hfin := HP4.out.keep ((hC.trans' c5).drewN n6)
            clear hI hI5 hv5 hPm hlk om
            go_wp2
            go_roundw
            case rel => exact ⟨k + 1, p, rs, t4, v4, L4, by omega, by go_num, rfl, hLn, hfin⟩
            case measure => simp [intOf]; omega
      cases k3 : (x.kind == 3)
      case true =>
        go_wp2_with fail
        obtain ⟨res, hres⟩ := named (lkMay t x.txn x.page x.mode)
        have hres2 : Hid (res = rfMay L x.txn x.page x.mode) := by rw [← hP.rel.may]; exact hres
        go_region_held3 (fun w' => w'.cell? ⟨wr.heap.size, 1, none⟩ = some (.int .i64 x.txn) ∧ w'.cell? ⟨wr.heap.size, 2, none⟩ = some (.int .i64 x.page) ∧ w'.cell? ⟨wr.heap.size, 3, none⟩ = some (.int .i64 x.mode)) (first | exact S0 | exact opc_keep hC3 (fun e => e) S0 | exact opc_keep hC4 (fun e => e) (opc_keep hC3 (fun e => e) S0)) ((first | (go_at_call 13; refine (lockMay p rs t _ _ _ _ hP1.lk res hres).mono ?_; rintro e w3 ⟨rfl, hC3⟩) | (go_at_call 17; refine (refMay q vv _ L _ _ _ _ (hP1.keep hC3).rf res hres2).mono ?_; rintro e w4 ⟨rfl, hC4⟩)))
        obtain ⟨t4, ht4⟩ := named t
        obtain ⟨L4, hL4⟩ := named L
        obtain ⟨v4, hv4⟩ := named vv
        have hP4 : PRel w p rs t4 q v4 L4 w4 := by rw [ht4.out, hL4.out, hv4.out]; exact hP1.keep (hC3.trans' hC4)
        have S4 := opc_keep hC4 (fun e => e) (opc_keep hC3 (fun e => e) S0)
        have hLn : L4.length ≤ k + 1 := by rw [hL4.out]; omega
        clear hC3 hC4

        have o1 := S4.1
        clear S4 S0 hob1 hob2 g0 g1 g2 g3 hP1 hP
        have HP4 := hid hP4
        clear hP4
        go_wp2_with fail
        go_loopw [8, 9] (fun hv i w' => ∃ m : Nat, m ≤ 10 ∧ i = .int .i64 ((m : Int) - 1) ∧ IntsAt w' w4.heap.size hv (haveK t4 x.txn m) ∧ Chg NoB w4 w') (fun _ i _ => (9 - intOf i).toNat)
        case atStart => exact ⟨0, by omega, rfl, by simpa [IntsAt, haveK] using World.ownsRow_nil _ _ _ _, Chg.refl _ _⟩
        case round =>
          obtain ⟨m, hm, rfl, hI, hC⟩ := hrel
          have hPm := HP4.out.keep hC
          have om := hC.cell o1 (fun e => e)
          by_cases hm10 : m < 10
          · have hlk := hPm.lk
            have hrf := hPm.rf
            obtain ⟨res, hres⟩ := named (lkMode t4 x.txn ((m : Int) - 1))
            have hres2 : Hid (res = rfMode L4 x.txn ((m : Int) - 1)) := by rw [← hPm.rel.mode]; exact hres
            have HS := hid (haveK_succ t4 x.txn m)
            have hIl := haveK_len t4 x.txn m
            rw [← hres.out] at HS
            clear hPm
            go_wp2_with fail
            go_quiet (first | (go_at_call 12; exact quietSame (lockMode _ _ _ _ _ _ (hlk.drewN _) res hres)) | (go_at_call 19; exact quietSame (refMode _ _ _ _ _ _ _ (hrf.drewN _) res hres2)))
            have hrf2 := hrf.drewN nq
            have hC2 := hC.drewN nq
            have hI2 : IntsAt (wr.drewN nq) w4.heap.size u8 (haveK t4 x.txn m) := hI
            by_cases hpos : 0 < res
            · have HP := hid hpos
              go_wp2_with (first | (go_at_call 19; refine (refMode _ _ _ _ _ _ _ hrf2 res hres2).mono ?_; rintro e w6 ⟨rfl, rfl⟩) | (at_builtin; refine step_app1 slInt rfl _ _ rfl (World.ownsRow.alloc hI2 _) rfl wr.heap.size [.int .i64 ((m : Int) - 1)] rfl (blk_new (wr.drewN nq) _) rfl rfl (by simp [Value.oneCell']) ?_ ?_ ?_ ?_))
              case _ => omega
              case _ => unfold maxLen; omega
              case _ => have := hC2.size; simp at this ⊢; omega
              intro v' w7 hv7 hc7 _ hnil
              have hv8 := IntsAt.snoc hv7
              have hc8 : Chg NoB w4 w7 := (hC2.alloc _).new hc7 fun i hi => (OwnB.ge hI2 i hi).1
              clear hv7 hc7 hI hI2 hlk hrf hrf2 om
              go_wp2
              go_roundw
              case rel => exact ⟨m + 1, by omega, by go_num, by rw [HS.out, if_pos HP.out]; exact hv8, hc8⟩
              case measure => simp [intOf]; omega
            · have HP := hid hpos
              go_wp2_with (go_at_call 19; refine (refMode _ _ _ _ _ _ _ hrf2 res hres2).mono ?_; rintro e w6 ⟨rfl, rfl⟩)
              go_roundw
              case rel => exact ⟨m + 1, by omega, by go_num, by rw [HS.out, if_neg (by have := HP.out; omega), List.append_nil]; exact hI2, hC2⟩
              case measure => simp [intOf]; omega
          · obtain rfl : m = 10 := by omega
            have hlk := hPm.lk
            go_wp2_with fail
            refine (lockPages _ _ _ _ _ hlk).mono ?_
            rintro e w5 ⟨⟨v5, rfl, hv5⟩, c5⟩
            have hI5 := ownsRow.chg hI c5 (fun _ _ e => e)
            go_wp2_with fail
            refine (refSame _ _ _ _ _ (Rd.ints_of hv5) (Rd.ints_of hI5) true (hid (by rw [haveK_all]; simp))).mono ?_
            rintro e w6 ⟨rfl, n6, rfl⟩
            have hfin := HP4.out.keep ((hC.trans' c5).drewN n6)
            clear hI hI5 hv5 hPm hlk om
            go_wp2
            go_roundw
            case rel => exact ⟨k + 1, p, rs, t4, v4, L4, by omega, by go_num, rfl, hLn, hfin⟩
            case measure => simp [intOf]; omega
      case false =>
        have hP2 : PRel w p rs t q vv L (wr.alloc O) := hP.keep ((Chg.refl NoB _).alloc O)
        rw [hO.out] at hP2
        go_wp2_with fail
        refine (lockCopy p rs t _ hP2.lk).mono ?_
        rintro e w3 ⟨rfl, hCp⟩
        have hL3 := hP2.lk.keep hCp.chg (fun e => e) (fun _ _ e => e)
        have s3 := opc_keep hCp.chg (fun e => e) (w := wr.alloc _) S0
        go_wp2_with fail
        obtain ⟨res, hres⟩ := named (lkMay t 9 1 2)
        refine (lockTake p rs t 9 1 2 w3 hL3 res hres _ (hid rfl)).mono ?_
        rintro e w5 ⟨rfl, hL5, hC5⟩
        go_wp2_with fail
        refine (lockFree p rs _ 1 w5 hL5).mono ?_
        rintro e w4 ⟨rfl, hL6, hC6⟩
        obtain ⟨t4, ht4⟩ := named t
        obtain ⟨L4, hL4⟩ := named L
        obtain ⟨v4, hv4⟩ := named vv
        have hP4 := hP2.copy hCp (hC5.trans' hC6)
        rw [← ht4.out, ← hL4.out, ← hv4.out, World.size_alloc] at hP4
        have S4 := opc_keep hC6 hob1 (opc_keep hC5 hob1 s3)
        have hLn : L4.length ≤ k + 1 := by rw [hL4.out]; omega
        clear hL3 hL5 hL6 hC5 hC6 hCp s3 hP2

        have o1 := S4.1
        clear S4 S0 hob1 hob2 g0 g1 g2 g3 hP1 hP
        have HP4 := hid hP4
        clear hP4
        go_wp2_with fail
        go_loopw [8, 9] (fun hv i w' => ∃ m : Nat, m ≤ 10 ∧ i = .int .i64 ((m : Int) - 1) ∧ IntsAt w' w4.heap.size hv (haveK t4 x.txn m) ∧ Chg NoB w4 w') (fun _ i _ => (9 - intOf i).toNat)
        case atStart => exact ⟨0, by omega, rfl, by simpa [IntsAt, haveK] using World.ownsRow_nil _ _ _ _, Chg.refl _ _⟩
        case round =>
          obtain ⟨m, hm, rfl, hI, hC⟩ := hrel
          have hPm := HP4.out.keep hC
          have om := hC.cell o1 (fun e => e)
          by_cases hm10 : m < 10
          · have hlk := hPm.lk
            have hrf := hPm.rf
            obtain ⟨res, hres⟩ := named (lkMode t4 x.txn ((m : Int) - 1))
            have hres2 : Hid (res = rfMode L4 x.txn ((m : Int) - 1)) := by rw [← hPm.rel.mode]; exact hres
            have HS := hid (haveK_succ t4 x.txn m)
            have hIl := haveK_len t4 x.txn m
            rw [← hres.out] at HS
            clear hPm
            go_wp2_with fail
            go_quiet (first | (go_at_call 12; exact quietSame (lockMode _ _ _ _ _ _ (hlk.drewN _) res hres)) | (go_at_call 19; exact quietSame (refMode _ _ _ _ _ _ _ (hrf.drewN _) res hres2)))
            have hrf2 := hrf.drewN nq
            have hC2 := hC.drewN nq
            have hI2 : IntsAt (wr.drewN nq) w4.heap.size u8 (haveK t4 x.txn m) := hI
            by_cases hpos : 0 < res
            · have HP := hid hpos
              go_wp2_with (first | (go_at_call 19; refine (refMode _ _ _ _ _ _ _ hrf2 res hres2).mono ?_; rintro e w6 ⟨rfl, rfl⟩) | (at_builtin; refine step_app1 slInt rfl _ _ rfl (World.ownsRow.alloc hI2 _) rfl wr.heap.size [.int .i64 ((m : Int) - 1)] rfl (blk_new (wr.drewN nq) _) rfl rfl (by simp [Value.oneCell']) ?_ ?_ ?_ ?_))
              case _ => omega
              case _ => unfold maxLen; omega
              case _ => have := hC2.size; simp at this ⊢; omega
              intro v' w7 hv7 hc7 _ hnil
              have hv8 := IntsAt.snoc hv7
              have hc8 : Chg NoB w4 w7 := (hC2.alloc _).new hc7 fun i hi => (OwnB.ge hI2 i hi).1
              clear hv7 hc7 hI hI2 hlk hrf hrf2 om
              go_wp2
              go_roundw
              case rel => exact ⟨m + 1, by omega, by go_num, by rw [HS.out, if_pos HP.out]; exact hv8, hc8⟩
              case measure => simp [intOf]; omega
            · have HP := hid hpos
              go_wp2_with (go_at_call 19; refine (refMode _ _ _ _ _ _ _ hrf2 res hres2).mono ?_; rintro e w6 ⟨rfl, rfl⟩)
              go_roundw
              case rel => exact ⟨m + 1, by omega, by go_num, by rw [HS.out, if_neg (by have := HP.out; omega), List.append_nil]; exact hI2, hC2⟩
              case measure => simp [intOf]; omega
          · obtain rfl : m = 10 := by omega
            have hlk := hPm.lk
            go_wp2_with fail
            refine (lockPages _ _ _ _ _ hlk).mono ?_
            rintro e w5 ⟨⟨v5, rfl, hv5⟩, c5⟩
            have hI5 := ownsRow.chg hI c5 (fun _ _ e => e)
            go_wp2_with fail
            refine (refSame _ _ _ _ _ (Rd.ints_of hv5) (Rd.ints_of hI5) true (hid (by rw [haveK_all]; simp))).mono ?_
            rintro e w6 ⟨rfl, n6, rfl⟩
            have hfin := HP4.out.keep ((hC.trans' c5).drewN n6)
            clear hI hI5 hv5 hPm hlk om
            go_wp2
            go_roundw
            case rel => exact ⟨k + 1, _, _, t4, v4, L4, by omega, by go_num, rfl, hLn, hfin⟩
            case measure => simp [intOf]; omega
    · obtain rfl : k = l.length := by omega
      have hfin := hP.chg
      clear hP
      go_wp2
      go_ret
      exact ⟨rfl, hfin⟩
end Go.Proofs.Ytmhmlfdidnhaoaa
