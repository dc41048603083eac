import Derived.Test.YtekjchphlphecaaA3
namespace Go.Proofs.Ytekjchphlphecaa
open Go.RowKit Go.ChangeMaps Go.MapKept
attribute [local go_sem] Go.Oper.rdK
set_option linter.unusedVariables false
set_option linter.unusedSimpArgs false
set_option maxHeartbeats 8000000

/-- A record of a transaction's own. -/
def ofT (x : Ent) : Bool := decide (1 ≤ x.r.kind) && decide (x.r.kind ≤ 4)
def ofTx (t : Int) (x : Ent) : Bool := ofT x && (x.r.txn == t)
/-- The open transactions, by the greatest last record first. -/
def rowsS : List Ent → List (Int × Int)
  | [] => []
  | x :: xs => rowsS xs ++ (if ofT x && !(xs.any (ofTx x.r.txn)) && decide (x.r.kind ≤ 2) then [(x.r.txn, x.at_)] else [])
theorem rowsS_len : ∀ l : List Ent, (rowsS l).length ≤ l.length
  | [] => by simp [rowsS]
  | x :: xs => by
    have := rowsS_len xs
    rw [rowsS, List.length_append]
    split <;> simp <;> omega
theorem rowsS_drop {L : List Ent} {k : Nat} (h : k < L.length) : rowsS (L.drop k) = rowsS (L.drop (k + 1)) ++ (if ofT L[k] && !((L.drop (k + 1)).any (ofTx L[k].r.txn)) && decide (L[k].r.kind ≤ 2) then [(L[k].r.txn, L[k].at_)] else []) := by
  rw [List.drop_eq_getElem_cons h, rowsS]
def encRw (x : Int × Int) : List Value := [.int .i64 x.1, .int .i64 0, .int .i64 x.2]
theorem slRow : SlT Try.prog 52 78 (.agg #[.int .i64 0, .int .i64 0, .int .i64 0]) 3 24 := ⟨Try.underlying52, by kernel_rfl, rfl, by decide⟩
theorem slPg2 : SlT Try.prog 49 48 (.agg #[.int .i64 0, .string ⟨#[]⟩]) 2 24 := ⟨Try.underlying49, by kernel_rfl, rfl, by decide⟩

/-- The reference's standby lies in its blocks, all made behind w0. -/
structure RfAt (w0 w : World) (p : Nat) (pv lv : Value) (P : List Pg) (L : List Ent) : Prop where
  blk : w.heap[p]? = some (.cells #[pv, lv] 51 (0, 0))
  pgs : w.ownsRow w0.heap.size 48 2 pv P.length (pgsC P)
  lst : OwnE (NewK w0) w w0.heap.size lv L
  ne : ¬ OwnB lv p ∧ ¬ OwnB pv p ∧ ∀ k, OwnB pv k → ¬ OwnB lv k
  ge : w0.heap.size ≤ p
  l8 : P.length ≤ 8
  sz : ∀ q ∈ P, q.data.size ≤ 220
def rfFp (p : Nat) (pv lv : Value) : Nat → Prop := fun k => k = p ∨ OwnB pv k ∨ OwnB lv k
theorem RfAt.keep {w0 w w' : World} {p : Nat} {pv lv : Value} {P : List Pg} {L : List Ent} (h : RfAt w0 w p pv lv P L) {S : Nat → Prop} (hc : Chg S w w') (hs : ∀ k, S k → ¬ rfFp p pv lv k ∧ (w0.heap.size ≤ k ∨ w.heap.size ≤ k)) : RfAt w0 w' p pv lv P L :=
  ⟨hc.heap h.blk (fun e => (hs _ e).1 (.inl rfl)), ownsRow.chg h.pgs hc (fun k hk e => (hs k e).1 (.inr (.inl hk))), h.lst.keep hc (fun k hk => (hs k hk).2) (fun k hk e => (hs k e).1 (.inr (.inr hk))), h.ne, h.ge, h.l8, h.sz⟩
theorem RfAt.keep0 {w0 w w' : World} {p : Nat} {pv lv : Value} {P : List Pg} {L : List Ent} (h : RfAt w0 w p pv lv P L) (hc : Chg NoB w w') : RfAt w0 w' p pv lv P L := h.keep hc fun _ e => e.elim
theorem RfAt.cells {w0 w : World} {p : Nat} {pv lv : Value} {P : List Pg} {L : List Ent} (h : RfAt w0 w p pv lv P L) : w.cell? ⟨p, 0, none⟩ = some pv ∧ w.cell? ⟨p, 1, none⟩ = some lv :=
  ⟨by rw [cell_blk h.blk]; rfl, by rw [cell_blk h.blk]; rfl⟩

/-- What stands within Rows. -/
structure RwI (w wr : World) (bt : Nat) (x : Ent) : Prop where
  chg : Chg NoB w wr
  d0 : wr.cell? ⟨bt, 0, none⟩ = some (.int .i64 x.r.kind)
  d1 : wr.cell? ⟨bt, 1, none⟩ = some (.int .i64 x.r.txn)
theorem RwI.keep {w wr w' : World} {bt : Nat} {x : Ent} (h : RwI w wr bt x) (hc : Chg NoB wr w') : RwI w w' bt x := ⟨h.chg.trans' hc, hc.cell h.d0 nob, hc.cell h.d1 nob⟩
theorem take_drop_snoc {L : List Ent} {i m : Nat} (h1 : i ≤ m) (h2 : m < L.length) : (L.take (m + 1)).drop i = (L.take m).drop i ++ [L[m]] := by
  rw [take_snoc' h2, List.drop_append_of_le_length (by rw [List.length_take]; omega)]

set_option maxRecDepth 100000 in
theorem rRows_calls (w0 : World) (p : Nat) (pv lv : Value) (P : List Pg) (L : List Ent) (w : World) (h : RfAt w0 w p pv lv P L) (hl : L.length ≤ 1000000) (res : List (Int × Int)) (hres : Hid (res = rowsS L)) :
    Calls Try.prog 32 #[.pointer (some ⟨p, 0, none⟩)] w fun e w' => ∃ vo, e = .returned vo ∧ Hid (w'.ownsRow w.heap.size 78 3 vo res.length (res.flatMap encRw)) ∧ Hid (Chg NoB w w') := by
  obtain ⟨c0, c1⟩ := h.cells
  have hpl := lt_of_block h.blk
  obtain ⟨a, c, rfl, q1, q2, h3⟩ := h.lst.ents
  have H3 := hid h3
  unfold maxLen at q2
  have hw0 : IntKind.i64.wrap ((L.length : Int) - 1) = (L.length : Int) - 1 := by rw [IntKind.wrap_i64]; omega
  have C1 := hid c1
  have HH := hid h
  clear h3 h c0
  go_enter Try.func32, Try.ntmps32
  go_wp2
  go_loopw [3, 4] (fun o i wr => ∃ k : Nat, k ≤ L.length ∧ i = .int .i64 ((k : Int) - 1) ∧ Hid (wr.ownsRow w.heap.size 78 3 o (rowsS (L.drop k)).length ((rowsS (L.drop k)).flatMap encRw)) ∧ Hid (Chg NoB w wr)) (fun _ i _ => (intOf i + 1).toNat)
  case atStart => exact ⟨L.length, by omega, rfl, by rw [List.drop_length]; exact World.ownsRow_nil _ _ _ _, Chg.refl _ _⟩
  case round =>
    obtain ⟨k, hk, rfl, hO, hc⟩ := hrel
    obtain ⟨ao, co, rfl⟩ := ownsForm hO.out
    rcases Nat.eq_zero_or_pos k with h0 | h0
    · subst h0
      rw [List.drop_zero, ← hres.out] at hO
      rw [List.drop_zero, ← hres.out]
      go_wp2_with fail
      go_ret
      exact ⟨_, rfl, hO, hc⟩
    · obtain ⟨j, rfl⟩ : ∃ j, k = j + 1 := ⟨k - 1, by omega⟩
      rw [show (((j + 1 : Nat) : Int) - 1) = (j : Int) by omega]
      have hj : j < L.length := by omega
      have hw1 : IntKind.i64.wrap ((j : Int) - 1) = (j : Int) - 1 := by rw [IntKind.wrap_i64]; omega
      obtain ⟨x, b, off, v1, v2, hx, rfl, ht, hok, hE, hbl, hone⟩ := Ents.at H3.out hc.out j hj
      obtain ⟨⟨a1, n1, rfl, _, _, _⟩, ⟨a2, n2, rfl, _, _, _⟩⟩ := ht
      obtain ⟨z0, g0, g1, g2, g3, g4, g5, g6, g7, g8, g9, g10⟩ := hE.cells
      have hlen := rowsS_len (L.drop (j + 1))
      rw [List.length_drop] at hlen
      obtain ⟨R, hR⟩ := named (rowsS (L.drop (j + 1)))
      rw [← hR.out] at hO hlen ⊢
      have hstep : Hid (rowsS (L.drop j) = R ++ (if ofT x && !((L.drop (j + 1)).any (ofTx x.r.txn)) && decide (x.r.kind ≤ 2) then [(x.r.txn, x.at_)] else [])) := hid (by
        rw [rowsS_drop hj, hR.out, hx.out])
      have c1 := hc.out.cell C1.out nob
      have hj0 : (0 : Int) ≤ (j : Int) := by omega
      have hj1 : (j : Int) < (L.length : Int) := by omega
      clear hE hR h0
      by_cases hT : ofT x = true
      · have hT' := hT
        simp only [ofT, Bool.and_eq_true, decide_eq_true_eq] at hT'
        obtain ⟨i3, i4⟩ := hT'
        have hwj : IntKind.i64.wrap ((j : Int) + 1) = ((j + 1 : Nat) : Int) := by rw [IntKind.wrap_i64]; omega
        have HT := hid hT
        clear hT
        go_wp2_with fail
        have HO : Hid (RwI w (wr.alloc (.cells #[.int .i64 x.r.kind, .int .i64 x.r.txn, .int .i64 x.r.page, .int .i64 x.r.off, .int .i64 x.r.prev, .int .i64 x.r.next, .int .i64 x.r.beg, .string x.r.before, .string x.r.after, .slice a1 x.r.txns.length n1, .slice a2 x.r.pages.length n2] 55)) wr.heap.size x) := hid ⟨hc.out.alloc _, by rw [cell_blk (blk_new _ _)]; rfl, by rw [cell_blk (blk_new _ _)]; rfl⟩
        have hOw := hid (World.ownsRow.alloc hO.out (.cells #[.int .i64 x.r.kind, .int .i64 x.r.txn, .int .i64 x.r.page, .int .i64 x.r.off, .int .i64 x.r.prev, .int .i64 x.r.next, .int .i64 x.r.beg, .string x.r.before, .string x.r.after, .slice a1 x.r.txns.length n1, .slice a2 x.r.pages.length n2] 55))
        have hown : Hid (∀ k, OwnB (.slice ao R.length co) k → w.heap.size ≤ k ∧ k < wr.heap.size) := hid (fun k hk => OwnB.ge hO.out k hk)
        obtain ⟨bt, hbt⟩ := named wr.heap.size
        rw [← hbt.out] at HO hown ⊢
        obtain ⟨wA, hwA⟩ := named (wr.alloc (.cells #[.int .i64 x.r.kind, .int .i64 x.r.txn, .int .i64 x.r.page, .int .i64 x.r.off, .int .i64 x.r.prev, .int .i64 x.r.next, .int .i64 x.r.beg, .string x.r.before, .string x.r.after, .slice a1 x.r.txns.length n1, .slice a2 x.r.pages.length n2] 55))
        rw [← hwA.out] at HO hOw ⊢
        clear z0 g0 g1 g2 g3 g4 g5 g6 g7 g8 g9 g10 c1 hO hc
        go_loopw [6, 7] (fun s6 s7 w2 => ∃ m : Nat, j + 1 ≤ m ∧ m ≤ L.length ∧ s7 = .int .i64 m ∧ s6 = .bool (((L.take m).drop (j + 1)).any (ofTx x.r.txn)) ∧ Hid (RwI w w2 bt x) ∧ Hid (Chg NoB wA w2)) (fun _ i _ => L.length - (intOf i).toNat)
        case atStart => exact ⟨j + 1, by omega, by omega, rfl, by rw [List.drop_of_length_le (by rw [List.length_take]; omega)]; rfl, HO, Chg.refl _ _⟩
        case round =>
          obtain ⟨m, hm1, hm2, rfl, rfl, hI, hcI⟩ := hrel
          obtain ⟨sn, hsn⟩ := named (((L.take m).drop (j + 1)).any (ofTx x.r.txn))
          rw [← hsn.out]
          clear HO
          have c1 := hI.out.chg.cell C1.out nob
          have d0 := hI.out.d0
          have d1 := hI.out.d1
          by_cases hml : m < L.length
          · obtain ⟨y, yb, yo, u1, u2, hy, ey, _, _, hE, _, _⟩ := Ents.at H3.out hI.out.chg m hml
            cases ey
            obtain ⟨_, g0, g1, _⟩ := hE.cells
            have hnx : Hid (((L.take (m + 1)).drop (j + 1)).any (ofTx x.r.txn) = (sn || ofTx x.r.txn y)) := hid (by
              rw [take_drop_snoc hm1 hml, List.any_append, ← hsn.out, hy.out]; simp)
            clear hE
            have hm0 : (0 : Int) ≤ (m : Int) := by omega
            have hml' : (m : Int) < (L.length : Int) := by omega
            cases sn
            · by_cases k1 : (1 : Int) ≤ y.r.kind
              · by_cases k4 : y.r.kind ≤ 4
                · obtain ⟨eb, heb⟩ := named (y.r.txn == x.r.txn)
                  have heq := heb.out.symm
                  have hfin : Hid (((L.take (m + 1)).drop (j + 1)).any (ofTx x.r.txn) = eb) := hid (by rw [hnx.out]; simp [ofTx, ofT, k1, k4, heb.out])
                  clear hnx
                  go_wp2_with fail
                  go_quiet (fail)
                  clear g0 g1 c1 d0 d1 heq
                  go_wp2_with fail
                  go_roundw
                  case rel => exact ⟨m + 1, by omega, by omega, by go_num, by rw [hfin.out], hid (hI.out.keep ((Chg.refl _ _).drewN _)), hid (hcI.out.drewN _)⟩
                  case measure => simp [intOf] <;> omega
                · have hfin : Hid (((L.take (m + 1)).drop (j + 1)).any (ofTx x.r.txn) = false) := hid (by rw [hnx.out]; simp [ofTx, ofT, k4])
                  have hd4 : decide (y.r.kind ≤ 4) = false := decide_eq_false k4
                  clear hnx k4
                  go_wp2_with fail
                  go_quiet (fail)
                  clear g0 g1 c1 d0 d1
                  go_wp2_with fail
                  go_roundw
                  case rel => exact ⟨m + 1, by omega, by omega, by go_num, by rw [hfin.out], hid (hI.out.keep ((Chg.refl _ _).drewN _)), hid (hcI.out.drewN _)⟩
                  case measure => simp [intOf] <;> omega
              · have hfin : Hid (((L.take (m + 1)).drop (j + 1)).any (ofTx x.r.txn) = false) := hid (by rw [hnx.out]; simp [ofTx, ofT, k1])
                have hd1 : decide (1 ≤ y.r.kind) = false := decide_eq_false k1
                clear hnx k1
                go_wp2_with fail
                go_quiet (fail)
                clear g0 g1 c1 d0 d1
                go_wp2_with fail
                go_roundw
                case rel => exact ⟨m + 1, by omega, by omega, by go_num, by rw [hfin.out], hid (hI.out.keep ((Chg.refl _ _).drewN _)), hid (hcI.out.drewN _)⟩
                case measure => simp [intOf] <;> omega
            · have hfin : Hid (((L.take (m + 1)).drop (j + 1)).any (ofTx x.r.txn) = true) := hid (by rw [hnx.out]; simp)
              clear hnx
              go_wp2_with fail
              go_quiet (fail)
              clear g0 g1 c1 d0 d1
              go_wp2_with fail
              go_roundw
              case rel => exact ⟨m + 1, by omega, by omega, by go_num, by rw [hfin.out], hid (hI.out.keep ((Chg.refl _ _).drewN _)), hid (hcI.out.drewN _)⟩
              case measure => simp [intOf] <;> omega
          · obtain rfl : m = L.length := by omega
            rw [List.take_length] at hsn
            have hst : Hid (rowsS (L.drop j) = R ++ (if !sn && decide (x.r.kind ≤ 2) then [(x.r.txn, x.at_)] else [])) := hid (by rw [hstep.out, HT.out, ← hsn.out]; rfl)
            have hO2 := hid (ownsRow.chg hOw.out hcI.out (fun _ _ => nob))
            clear hstep hml hOw
            cases sn
            · by_cases k2 : x.r.kind ≤ 2
              · have hfin : Hid (rowsS (L.drop j) = R ++ [(x.r.txn, x.at_)]) := hid (by rw [hst.out]; simp [k2])
                clear hst
                go_upto_region 13 with fail
                obtain ⟨y, yb, yo, u1, u2, hy, ey, _, _, hE, hyl, _⟩ := Ents.at H3.out hI.out.chg j hj
                cases ey
                rw [hx.out] at hy
                have z0 := hE.cells.1
                rw [← hy.out] at z0
                clear hE
                have hb2 : w.heap.size ≤ wr.heap.size := hI.out.chg.size
                have hnp : ¬ OwnB (.slice ao R.length co) p ∧ ¬ OwnB (.slice ao R.length co) b ∧ ¬ OwnB (.slice ao R.length co) bt := ⟨fun h => by have := (hown.out _ h).1; omega, fun h => by have := (hown.out _ h).1; omega, fun h => by have := (hown.out _ h).2; omega⟩
                refine wp_region_ord 15 (.rd 0 (.rd 1 (.rd 2 (.rd 3 (.rd 4 (.rd 5 (.rd 6 (.rd 7 (.rd 8 (.rd 9 (.rd 10 (.rd 11 (.one 12 (.one 13 (.rd 14 (.done)))))))))))))))) (fun w' => w'.cell? ⟨p, 1, none⟩ = some (.slice (some ⟨b, off, none⟩) L.length c) ∧ w'.cell? ⟨b, off + j * 12, none⟩ = some (.int .i64 x.at_) ∧ w'.cell? ⟨bt, 1, none⟩ = some (.int .i64 x.r.txn)) (by kernel_rfl) (by kernel_rfl) (by kernel_rfl) (by kernel_rfl) (by kernel_rfl) (fun _ _ d _ _ h => by cases d <;> exact h) (⟨c1, z0, d1⟩) (fun hS0 => ?_)
                refine wpOrd_rd rfl rfl (by first | decide | simp) (by assumption) (fun w' hw' K hK => by ((try unfold Same at hw'); (try go_split_ands); go_simp; exact hK)) ?_
                refine wpOrd_rd rfl rfl (by first | decide | simp) (by assumption) (fun w' hw' K hK => by ((try unfold Same at hw'); (try go_split_ands); go_simp; exact hK)) ?_
                refine wpOrd_rd rfl rfl (by first | decide | simp) (by assumption) (fun w' hw' K hK => by ((try unfold Same at hw'); (try go_split_ands); go_simp; exact hK)) ?_
                refine wpOrd_rd rfl rfl (by first | decide | simp) (by assumption) (fun w' hw' K hK => by ((try unfold Same at hw'); (try go_split_ands); go_simp; exact hK)) ?_
                refine wpOrd_rd rfl rfl (by first | decide | simp) (by assumption) (fun w' hw' K hK => by ((try unfold Same at hw'); (try go_split_ands); go_simp; exact hK)) ?_
                refine wpOrd_rd rfl rfl (by first | decide | simp) (by assumption) (fun w' hw' K hK => by ((try unfold Same at hw'); (try go_split_ands); go_simp; exact hK)) ?_
                refine wpOrd_rd rfl rfl (by first | decide | simp) (by assumption) (fun w' hw' K hK => by ((try unfold Same at hw'); (try go_split_ands); go_simp; exact hK)) ?_
                refine wpOrd_rd rfl rfl (by first | decide | simp) (by assumption) (fun w' hw' K hK => by ((try unfold Same at hw'); (try go_split_ands); go_simp; exact hK)) ?_
                refine wpOrd_rd rfl rfl (by first | decide | simp) (by assumption) (fun w' hw' K hK => by ((try unfold Same at hw'); (try go_split_ands); go_simp; exact hK)) ?_
                refine wpOrd_rd rfl rfl (by first | decide | simp) (by assumption) (fun w' hw' K hK => by ((try unfold Same at hw'); (try go_split_ands); go_simp; exact hK)) ?_
                refine wpOrd_rd rfl rfl (by first | decide | simp) (by assumption) (fun w' hw' K hK => by ((try unfold Same at hw'); (try go_split_ands); go_simp; exact hK)) ?_
                refine wpOrd_rd rfl rfl (by first | decide | simp) (by assumption) (fun w' hw' K hK => by ((try unfold Same at hw'); (try go_split_ands); go_simp; exact hK)) ?_
                refine wpOrd_do rfl ?_
                (first | refine wpList_plain rfl (fun K hK => ?_) | refine wpList_step (fun K hK => ?_))
                go_simp
                refine hK _ _ ?_
                clear hK K
                (try dsimp only [Act.put])
                refine wpOrd_done (⟨((Chg.refl NoB wr).drew.alloc _).cell c1 nob, ((Chg.refl NoB wr).drew.alloc _).cell z0 nob, ((Chg.refl NoB wr).drew.alloc _).cell d1 nob⟩) (fun hS1 => ?_)
                refine wpOrd_do rfl ?_
                refine step_app1 slRow rfl _ _ rfl (World.ownsRow.alloc (ownsRow.chg hO2.out (Chg.refl NoB wr).drew (fun _ _ => nob)) _) rfl wr.heap.size (encRw (x.r.txn, x.at_)) rfl (blk_new _ _) rfl rfl (by simp [encRw, Value.oneCell']) (by omega) (by unfold maxLen; omega) (by simp; omega) ?_; intro v5 w5 hv5 hc5 hvo hnil
                (try dsimp only [Act.put])
                (try simp only [List.setIfInBounds_toArray, List.set_cons_zero, List.set_cons_succ])
                refine wpOrd_done (⟨hc5.cell (((Chg.refl NoB wr).drew.alloc _).cell c1 nob) hnp.1, hc5.cell (((Chg.refl NoB wr).drew.alloc _).cell z0 nob) hnp.2.1, hc5.cell (((Chg.refl NoB wr).drew.alloc _).cell d1 nob) hnp.2.2⟩) (fun hS2 => ?_)
                refine wpOrd_rd rfl rfl (by first | decide | simp) (by assumption) (fun w' hw' K hK => by ((try unfold Same at hw'); (try go_split_ands); go_simp; exact hK)) ?_
                refine wpOrd_nil ?_
                obtain ⟨a5, n5, rfl⟩ := ownsForm hv5
                have HV := hid hv5
                have HC := hid (((hI.out.chg.drew).alloc (.cells (encRw (x.r.txn, x.at_)).toArray 78)).trans hc5 (fun i hi => .inr (OwnB.ge hO2.out i hi).1))
                clear hv5 hc5 hvo hnil hS0 z0 c1 d0 d1
                go_wp2_with fail
                go_roundw
                case rel => exact ⟨j, by omega, by go_num, hid (by rw [hfin.out]; simpa using HV.out), HC⟩
                case measure => simp [intOf] <;> omega
              · have hfin : Hid (rowsS (L.drop j) = R) := hid (by rw [hst.out]; simp [k2])
                clear hst
                go_wp2_with fail
                go_roundw
                case rel => exact ⟨j, by omega, by go_num, hid (by rw [hfin.out]; exact hO2.out), hid hI.out.chg⟩
                case measure => simp [intOf] <;> omega
            · have hfin : Hid (rowsS (L.drop j) = R) := hid (by rw [hst.out]; simp)
              clear hst
              go_wp2_with fail
              go_roundw
              case rel => exact ⟨j, by omega, by go_num, hid (by rw [hfin.out]; exact hO2.out), hid hI.out.chg⟩
              case measure => simp [intOf] <;> omega
      · have i34 : x.r.kind < 1 ∨ 4 < x.r.kind := by
          simp only [ofT, Bool.and_eq_true, decide_eq_true_eq] at hT; omega
        have hno : Hid (rowsS (L.drop j) = R) := hid (by rw [hstep.out]; simp [hT])
        clear hT hstep
        rcases i34 with i3 | i3
        · go_wp2_with fail
          go_roundw
          case rel => exact ⟨j, by omega, by go_num, hid (by rw [hno.out]; exact World.ownsRow.alloc hO.out _), hc.out.alloc _⟩
          case measure => simp [intOf] <;> omega
        · have i4 : ¬ x.r.kind < 1 := by omega
          go_wp2_with fail
          go_roundw
          case rel => exact ⟨j, by omega, by go_num, hid (by rw [hno.out]; exact World.ownsRow.alloc hO.out _), hc.out.alloc _⟩
          case measure => simp [intOf] <;> omega
end Go.Proofs.Ytekjchphlphecaa
