import Derived.Test.YtmikbjlgcndmeaaTbOp
namespace Go.Proofs.Ytmikbjlgcndmeaa
open Go.RowKit Go.ChangeMaps
set_option linter.unusedVariables false
set_option linter.unusedSimpArgs false
set_option linter.unnecessarySimpa false

theorem tFind_txn {T : TTab} {n : Int} {s : TxS} (h : tFind T n = some s) : s.txn = n ∧ s ∈ T := by
  unfold tFind at h
  exact ⟨by simpa using List.find?_some h, List.mem_of_find?_eq_some h⟩
theorem tUpd_mem {T : TTab} {n : Int} {s s' : TxS} (h : s ∈ tUpd T n s') (hs : s'.txn = n) : s.txn = n ∨ s ∈ T := by
  unfold tUpd at h
  obtain ⟨x, hx, rfl⟩ := List.mem_map.1 h
  split
  · exact .inl hs
  · exact .inr hx
theorem tBegin_mem {T : TTab} {n : Int} {s : TxS} (h : s ∈ (tBegin T n).2) : s.txn = n ∨ s ∈ T := by
  unfold tBegin at h
  split at h
  · exact .inr h
  · split at h
    · exact .inr h
    · split at h
      · exact .inr h
      · rcases List.mem_append.1 h with h | h
        · exact .inr h
        · left
          have : s = ⟨n, 0, 0, 0, []⟩ := by simpa using h
          rw [this]
theorem tLeft_mem {T : TTab} {n d : Int} {s : TxS} (h : s ∈ (tLeft T n d).2) : s.txn = n ∨ s ∈ T := by
  unfold tLeft at h
  split at h
  · exact .inr h
  · rename_i s0 hf
    split at h
    · exact .inr h
    · exact tUpd_mem h (tFind_txn hf).1
theorem tEnd_mem {T : TTab} {n : Int} {s : TxS} (h : s ∈ (tEnd T n).2) : s.txn = n ∨ s ∈ T := by
  unfold tEnd at h
  split at h
  · exact .inr h
  · exact .inr (List.mem_filter.1 h).1

theorem lsum_append (a b : List Int) : lsum (a ++ b) = lsum a + lsum b := by
  induction a with
  | nil => simp [lsum]
  | cons x a ih => simp only [List.cons_append, lsum, ih]; omega
def needAt (T : TTab) (n : Int) : Int := match tFind T n with | some s => 1 + s.left | none => 0
def needK (T : TTab) (k : Nat) : Int := lsum ((List.range k).map fun i : Nat => needAt T (i : Int))
theorem needK_succ (T : TTab) (k : Nat) : needK T (k + 1) = needK T k + needAt T (k : Int) := by
  unfold needK
  rw [List.range_succ, List.map_append, lsum_append]
  simp [lsum]
theorem needAt_cons (s : TxS) (T : TTab) (n : Int) : needAt (s :: T) n = if s.txn = n then 1 + s.left else needAt T n := by
  unfold needAt tFind
  rw [List.find?_cons]
  by_cases h : s.txn = n
  · simp [h]
  · have : (s.txn == n) = false := by simpa using h
    rw [this, if_neg h]
theorem needAt_no {T : TTab} {n : Int} (h : ∀ s ∈ T, s.txn ≠ n) : needAt T n = 0 := by
  unfold needAt tFind
  have : T.find? (fun s => s.txn == n) = none := List.find?_eq_none.2 fun s hs => by simpa using h s hs
  rw [this]
theorem needK_cons (s : TxS) (T : TTab) (h0 : 0 ≤ s.txn) (hn : ∀ t ∈ T, t.txn ≠ s.txn) (k : Nat) : needK (s :: T) k = needK T k + if s.txn < k then 1 + s.left else 0 := by
  induction k with
  | zero => simp [needK, lsum]; try omega
  | succ k ih =>
    rw [needK_succ, needK_succ, ih, needAt_cons]
    by_cases h : s.txn = (k : Int)
    · rw [if_pos h, if_neg (by omega), if_pos (by omega), ← h, needAt_no hn]
      all_goals omega
    · rw [if_neg h]
      by_cases h2 : s.txn < (k : Int)
      · rw [if_pos h2, if_pos (by omega)]; omega
      · rw [if_neg h2, if_neg (by omega)]; omega
theorem needK_all {T : TTab} (hn : (T.map (·.txn)).Nodup) (hb : ∀ s ∈ T, 0 ≤ s.txn ∧ s.txn ≤ 9) : needK T 10 = tNeed' T := by
  induction T with
  | nil => rfl
  | cons s T ih =>
    simp only [List.map_cons, List.nodup_cons] at hn
    have h1 := hb s (by simp)
    rw [needK_cons s T h1.1 (fun t ht e => hn.1 (e ▸ List.mem_map.2 ⟨t, ht, rfl⟩)), ih hn.2 (fun t ht => hb t (by simp [ht])), if_pos (by omega)]
    simp only [tNeed', List.map_cons, lsum]
    omega
theorem needAt_bd {T : TTab} (h : tOk T) (n : Int) : 0 ≤ needAt T n ∧ needAt T n ≤ 1048577 := by
  unfold needAt
  cases hf : tFind T n with
  | none => simp
  | some s =>
    have := h.2.2 s (tFind_txn hf).2
    simp only
    omega
theorem needK_bd {T : TTab} (h : tOk T) (k : Nat) : 0 ≤ needK T k ∧ needK T k ≤ 1048577 * k := by
  induction k with
  | zero => simp [needK, lsum]
  | succ k ih =>
    rw [needK_succ]
    have := needAt_bd h (k : Int)
    omega

theorem tRow_need (T : TTab) (n : Int) : needAt T n = if (tRow T n).2.2 = 0 then 1 + (tRow T n).2.1 else 0 := by
  unfold needAt tRow
  cases tFind T n with
  | none => simp
  | some s => simp

theorem tbRow2 {w0 w : World} {p : Nat} {T : TTab} (h : TB w0 w p T) (n : Int) (x y z left er : Int) (hr : Hid (((x, y, z), left, er) = tRow T n)) : Calls Try.prog 22 #[.pointer (some ⟨p, 0, none⟩), .int .i64 n] w fun e w' => e = .returned (.tuple #[.agg #[.int .i64 x, .int .i64 y, .int .i64 z], .int .i64 left, .int .i64 er]) ∧ Chg NoB w w' := by
  obtain ⟨⟨r, E, rfl, h2, h3⟩, h4⟩ := h
  exact tabRow p r E n w h2 x y z left er hr

def small (T : TTab) : Prop := ∀ s ∈ T, s.txn ≤ 9

set_option maxRecDepth 100000 in
set_option maxHeartbeats 8000000 in
theorem tableNeed_walk (w : World) (v : Value) (l : List TOp) (hv : RdR w 3 TOpR v l) :
    Calls Try.prog 6 #[v] w fun e w' => e = .returned (.bool true) ∧ Chg NoB w w' := by
  obtain ⟨a, c, rfl, q1, q2, hr⟩ := hv
  unfold maxLen at q2
  by_cases hlen : 300 < l.length
  · have hl : (300 : Int) < (l.length : Int) := by omega
    go_enter Try.func6, Try.ntmps6
    go_wp2_with (go_at_call 8; refine (awake w).mono ?_; rintro e w1 ⟨rfl, c1⟩)
    refine (awake w1).mono ?_
    rintro e w2 ⟨rfl, c2⟩
    go_wp2
    go_ret
    exact ⟨rfl, c1.trans' c2⟩
  have hl : ¬ (300 : Int) < (l.length : Int) := by omega
  have HR := hid hr
  clear hr
  go_enter Try.func6, Try.ntmps6
  go_wp2_with (first
    | (go_at_call 8; refine (awake w).mono ?_; rintro e w1 ⟨rfl, c1⟩)
    | (go_at_call 9; refine (tbNew w w1 c1).mono ?_; rintro e w2 ⟨p, rfl, hT0⟩))
  go_loopw [22] (fun i wr => ∃ k : Nat, k ≤ l.length ∧ i = .int .i64 k ∧ Hid (∃ T, TB w wr p T ∧ small T)) (fun i _ => l.length - toN i)
  case atStart => exact ⟨0, by omega, rfl, _, hT0, by simp [small]⟩
  case round =>
    obtain ⟨k, hk, rfl, hI⟩ := hrel
    clear hT0
    obtain ⟨T, hT, hS⟩ := hI.out
    have HT := hid hT
    have HS := hid hS
    clear hI hS
    by_cases hlt : k < l.length
    · obtain ⟨x, b, off, hx, hwf, rfl, g0, g1, g2⟩ := top_at HR.out hT.chg k hlt
      obtain ⟨⟨r, E, hE, h2, h3⟩, h4⟩ := hT
      have H2 := hid h2
      have H3 := hid h3
      have H4 := hid h4
      have hfar : Hid (¬ tabFp p r E wr.heap.size) := hid (fun hq => Nat.lt_irrefl _ (h2.lt _ hq))
      clear h2 h3 h4
      have HWF := hid hwf
      clear hwf
      obtain ⟨W, hW⟩ : ∃ W, Hid (W = wr.alloc (.cells #[.int .i64 x.kind, .int .i64 x.txn, .int .i64 x.n] 41)) := named _
      have hTW : Hid (TabAt W p r E) := by rw [hW.out]; exact H2.out.keep0 ((Chg.refl _ _).alloc _)
      have hCW : Hid (Chg NoB w W) := by rw [hW.out]; exact H4.out.alloc _
      have hcq : W.cell? ⟨wr.heap.size, 1, none⟩ = some (.int .i64 x.txn) := by rw [hW.out, cell_blk (blk_new _ _)]; rfl
      cases k1 : (x.kind == 1)
      case true =>
        obtain ⟨⟨res, T'⟩, hr⟩ := named (tBegin (E.map (·.s)) x.txn)
        have hmem : Hid (∀ s ∈ T', s.txn = x.txn ∨ s ∈ T) := hid (fun s hs => by rw [← hE]; exact tBegin_mem (by rw [← hr.out]; exact hs))
        have hTW2 := hTW.out
        rw [hW.out] at hTW2
        go_wp2_with (go_at_call 10; refine (tabBegin p r E x.txn _ hTW2 res T' hr).mono ?_; rintro e w4 ⟨rfl, hp⟩)
        rw [← hW.out] at hp
        have HTB4 : TB w w4 p T' := TB.post H3.out hCW.out hp
        have hq4 : w4.cell? ⟨wr.heap.size, 1, none⟩ = some (.int .i64 x.txn) := hp.chg.cell hcq (fun e => hfar.out e)
        clear hp hTW2
        have hTB : Hid (TB w w4 p T') := hid (HTB4)
        generalize wr.heap.size = q at hq4 ⊢
        clear hcq
        go_wp2_with fail
        go_loopw [6, 48] (fun n i wr => ∃ j : Nat, j ≤ 10 ∧ i = .int .i64 j ∧ n = .int .i64 (needK T' j) ∧ Hid (TB w wr p T') ∧ wr.cell? ⟨q, 1, none⟩ = some (.int .i64 x.txn)) (fun _ i _ => 10 - toN i)
        case atStart => exact ⟨0, by omega, rfl, rfl, hTB, hq4⟩
        case round =>
          obtain ⟨j, hj, rfl, rfl, hT4, hq5⟩ := hrel
          clear hq4
          have hok := hT4.out.ok
          obtain ⟨hb1, hb2⟩ := needK_bd hok j
          by_cases hlj : j < 10
          · obtain ⟨⟨⟨x1, y1, z1⟩, lf, er⟩, hrow⟩ := named (tRow T' (j : Int))
            have hsucc := hid (needK_succ T' j)
            have hat := tRow_need T' (j : Int)
            rw [← hrow.out] at hat
            obtain ⟨hb3, hb4⟩ := needAt_bd hok (j : Int)
            simp only at hat
            clear hok
            cases he : (er == 0)
            · have he2 : ¬ er = 0 := by simpa using he
              rw [if_neg he2] at hat
              have HAT := hid hat
              clear hat
              go_wp2_with (go_at_call 22; refine (tbRow2 hT4.out _ x1 y1 z1 lf er hrow).mono ?_; rintro e w5 ⟨rfl, c5⟩; have hq6 := c5.cell hq5 (fun e => e))
              go_roundw
              case rel => exact ⟨j + 1, by omega, by go_num, by first | (rw [hsucc.out, HAT.out]; done) | (rw [hsucc.out, HAT.out]; go_num), hid ((hT4.out.keep c5).keep ((Chg.refl _ _).alloc _)), ((Chg.refl NoB w5).alloc _).cell hq6 (fun e => e)⟩
              case measure => simp [toN]; omega
            · have he2 : er = 0 := by simpa using he
              rw [if_pos he2] at hat
              have hlf : lf = needAt T' (j : Int) - 1 := by omega
              have HAT := hid hat
              have hl1 : -1 ≤ lf := by omega
              have hl2 : lf ≤ 1048577 := by omega
              have hjb : needK T' j ≤ 10485770 := by omega
              clear hat hlf
              go_wp2_with (go_at_call 22; refine (tbRow2 hT4.out _ x1 y1 z1 lf er hrow).mono ?_; rintro e w5 ⟨rfl, c5⟩; have hq6 := c5.cell hq5 (fun e => e))
              go_roundw
              case rel => exact ⟨j + 1, by omega, by go_num, by first | (rw [hsucc.out, HAT.out]; done) | (rw [hsucc.out, HAT.out]; go_num), hid ((hT4.out.keep c5).keep ((Chg.refl _ _).alloc _)), ((Chg.refl NoB w5).alloc _).cell hq6 (fun e => e)⟩
              case measure => simp [toN]; omega
          · obtain rfl : 10 = j := by omega
            by_cases hx9 : x.txn < 0 ∨ 9 < x.txn
            · go_wp2_with fail
              all_goals first
                | (go_ret; exact ⟨rfl, hT4.out.chg⟩)
                | (exfalso; omega)
            · have hx1 : 0 ≤ x.txn := by omega
              have hx2 : x.txn ≤ 9 := by omega
              clear hx9
              have hS2 : Hid (small T') := hid (fun s hs => by
                rcases hmem.out s hs with h | h
                · omega
                · exact HS.out s h)
              have hall := hid (needK_all hok.1 (fun s hs => ⟨by have := (hok.2.2 s hs).1; omega, hS2.out s hs⟩))
              obtain ⟨nd, hnd⟩ := named (tNeed' T')
              have hnd2 : needK T' 10 = nd := by rw [hall.out, hnd.out]
              rw [hnd2] at hb1 hb2 ⊢
              clear hok
              go_wp2_with (go_at_call 27; refine (tbNeed hT4.out nd hnd).mono ?_; rintro e w6 ⟨rfl, hT6⟩)
              go_roundw
              case rel => exact ⟨k + 1, by omega, by go_num, hid ⟨T', hT6, hS2.out⟩⟩
              case measure => simp [toN]; omega
      cases k3 : (x.kind == 3)
      case true =>
        obtain ⟨⟨res, T'⟩, hr⟩ := named (tLeft (E.map (·.s)) x.txn x.n)
        have hmem : Hid (∀ s ∈ T', s.txn = x.txn ∨ s ∈ T) := hid (fun s hs => by rw [← hE]; exact tLeft_mem (by rw [← hr.out]; exact hs))
        have hTW2 := hTW.out
        rw [hW.out] at hTW2
        go_wp2_with (go_at_call 12; refine (tabLeft p r E x.txn x.n _ hTW2 HWF.out res T' hr).mono ?_; rintro e w4 ⟨rfl, hp⟩)
        rw [← hW.out] at hp
        have HTB4 : TB w w4 p T' := TB.post H3.out hCW.out hp
        have hq4 : w4.cell? ⟨wr.heap.size, 1, none⟩ = some (.int .i64 x.txn) := hp.chg.cell hcq (fun e => hfar.out e)
        clear hp hTW2
        have hTB : Hid (TB w w4 p T') := hid (HTB4)
        generalize wr.heap.size = q at hq4 ⊢
        clear hcq
        go_wp2_with fail
        go_loopw [6, 48] (fun n i wr => ∃ j : Nat, j ≤ 10 ∧ i = .int .i64 j ∧ n = .int .i64 (needK T' j) ∧ Hid (TB w wr p T') ∧ wr.cell? ⟨q, 1, none⟩ = some (.int .i64 x.txn)) (fun _ i _ => 10 - toN i)
        case atStart => exact ⟨0, by omega, rfl, rfl, hTB, hq4⟩
        case round =>
          obtain ⟨j, hj, rfl, rfl, hT4, hq5⟩ := hrel
          clear hq4
          have hok := hT4.out.ok
          obtain ⟨hb1, hb2⟩ := needK_bd hok j
          by_cases hlj : j < 10
          · obtain ⟨⟨⟨x1, y1, z1⟩, lf, er⟩, hrow⟩ := named (tRow T' (j : Int))
            have hsucc := hid (needK_succ T' j)
            have hat := tRow_need T' (j : Int)
            rw [← hrow.out] at hat
            obtain ⟨hb3, hb4⟩ := needAt_bd hok (j : Int)
            simp only at hat
            clear hok
            cases he : (er == 0)
            · have he2 : ¬ er = 0 := by simpa using he
              rw [if_neg he2] at hat
              have HAT := hid hat
              clear hat
              go_wp2_with (go_at_call 22; refine (tbRow2 hT4.out _ x1 y1 z1 lf er hrow).mono ?_; rintro e w5 ⟨rfl, c5⟩; have hq6 := c5.cell hq5 (fun e => e))
              go_roundw
              case rel => exact ⟨j + 1, by omega, by go_num, by first | (rw [hsucc.out, HAT.out]; done) | (rw [hsucc.out, HAT.out]; go_num), hid ((hT4.out.keep c5).keep ((Chg.refl _ _).alloc _)), ((Chg.refl NoB w5).alloc _).cell hq6 (fun e => e)⟩
              case measure => simp [toN]; omega
            · have he2 : er = 0 := by simpa using he
              rw [if_pos he2] at hat
              have hlf : lf = needAt T' (j : Int) - 1 := by omega
              have HAT := hid hat
              have hl1 : -1 ≤ lf := by omega
              have hl2 : lf ≤ 1048577 := by omega
              have hjb : needK T' j ≤ 10485770 := by omega
              clear hat hlf
              go_wp2_with (go_at_call 22; refine (tbRow2 hT4.out _ x1 y1 z1 lf er hrow).mono ?_; rintro e w5 ⟨rfl, c5⟩; have hq6 := c5.cell hq5 (fun e => e))
              go_roundw
              case rel => exact ⟨j + 1, by omega, by go_num, by first | (rw [hsucc.out, HAT.out]; done) | (rw [hsucc.out, HAT.out]; go_num), hid ((hT4.out.keep c5).keep ((Chg.refl _ _).alloc _)), ((Chg.refl NoB w5).alloc _).cell hq6 (fun e => e)⟩
              case measure => simp [toN]; omega
          · obtain rfl : 10 = j := by omega
            by_cases hx9 : x.txn < 0 ∨ 9 < x.txn
            · go_wp2_with fail
              all_goals first
                | (go_ret; exact ⟨rfl, hT4.out.chg⟩)
                | (exfalso; omega)
            · have hx1 : 0 ≤ x.txn := by omega
              have hx2 : x.txn ≤ 9 := by omega
              clear hx9
              have hS2 : Hid (small T') := hid (fun s hs => by
                rcases hmem.out s hs with h | h
                · omega
                · exact HS.out s h)
              have hall := hid (needK_all hok.1 (fun s hs => ⟨by have := (hok.2.2 s hs).1; omega, hS2.out s hs⟩))
              obtain ⟨nd, hnd⟩ := named (tNeed' T')
              have hnd2 : needK T' 10 = nd := by rw [hall.out, hnd.out]
              rw [hnd2] at hb1 hb2 ⊢
              clear hok
              go_wp2_with (go_at_call 27; refine (tbNeed hT4.out nd hnd).mono ?_; rintro e w6 ⟨rfl, hT6⟩)
              go_roundw
              case rel => exact ⟨k + 1, by omega, by go_num, hid ⟨T', hT6, hS2.out⟩⟩
              case measure => simp [toN]; omega
      cases k6 : (x.kind == 6)
      case true =>
        obtain ⟨⟨res, T'⟩, hr⟩ := named (tEnd (E.map (·.s)) x.txn)
        have hmem : Hid (∀ s ∈ T', s.txn = x.txn ∨ s ∈ T) := hid (fun s hs => by rw [← hE]; exact tEnd_mem (by rw [← hr.out]; exact hs))
        have hTW2 := hTW.out
        rw [hW.out] at hTW2
        go_wp2_with (go_at_call 20; refine (tabEnd p r E x.txn _ hTW2 res T' hr).mono ?_; rintro e w4 ⟨rfl, hp⟩)
        rw [← hW.out] at hp
        have HTB4 : TB w w4 p T' := TB.post H3.out hCW.out hp
        have hq4 : w4.cell? ⟨wr.heap.size, 1, none⟩ = some (.int .i64 x.txn) := hp.chg.cell hcq (fun e => hfar.out e)
        clear hp hTW2
        have hTB : Hid (TB w w4 p T') := hid (HTB4)
        generalize wr.heap.size = q at hq4 ⊢
        clear hcq
        go_wp2_with fail
        go_loopw [6, 48] (fun n i wr => ∃ j : Nat, j ≤ 10 ∧ i = .int .i64 j ∧ n = .int .i64 (needK T' j) ∧ Hid (TB w wr p T') ∧ wr.cell? ⟨q, 1, none⟩ = some (.int .i64 x.txn)) (fun _ i _ => 10 - toN i)
        case atStart => exact ⟨0, by omega, rfl, rfl, hTB, hq4⟩
        case round =>
          obtain ⟨j, hj, rfl, rfl, hT4, hq5⟩ := hrel
          clear hq4
          have hok := hT4.out.ok
          obtain ⟨hb1, hb2⟩ := needK_bd hok j
          by_cases hlj : j < 10
          · obtain ⟨⟨⟨x1, y1, z1⟩, lf, er⟩, hrow⟩ := named (tRow T' (j : Int))
            have hsucc := hid (needK_succ T' j)
            have hat := tRow_need T' (j : Int)
            rw [← hrow.out] at hat
            obtain ⟨hb3, hb4⟩ := needAt_bd hok (j : Int)
            simp only at hat
            clear hok
            cases he : (er == 0)
            · have he2 : ¬ er = 0 := by simpa using he
              rw [if_neg he2] at hat
              have HAT := hid hat
              clear hat
              go_wp2_with (go_at_call 22; refine (tbRow2 hT4.out _ x1 y1 z1 lf er hrow).mono ?_; rintro e w5 ⟨rfl, c5⟩; have hq6 := c5.cell hq5 (fun e => e))
              go_roundw
              case rel => exact ⟨j + 1, by omega, by go_num, by first | (rw [hsucc.out, HAT.out]; done) | (rw [hsucc.out, HAT.out]; go_num), hid ((hT4.out.keep c5).keep ((Chg.refl _ _).alloc _)), ((Chg.refl NoB w5).alloc _).cell hq6 (fun e => e)⟩
              case measure => simp [toN]; omega
            · have he2 : er = 0 := by simpa using he
              rw [if_pos he2] at hat
              have hlf : lf = needAt T' (j : Int) - 1 := by omega
              have HAT := hid hat
              have hl1 : -1 ≤ lf := by omega
              have hl2 : lf ≤ 1048577 := by omega
              have hjb : needK T' j ≤ 10485770 := by omega
              clear hat hlf
              go_wp2_with (go_at_call 22; refine (tbRow2 hT4.out _ x1 y1 z1 lf er hrow).mono ?_; rintro e w5 ⟨rfl, c5⟩; have hq6 := c5.cell hq5 (fun e => e))
              go_roundw
              case rel => exact ⟨j + 1, by omega, by go_num, by first | (rw [hsucc.out, HAT.out]; done) | (rw [hsucc.out, HAT.out]; go_num), hid ((hT4.out.keep c5).keep ((Chg.refl _ _).alloc _)), ((Chg.refl NoB w5).alloc _).cell hq6 (fun e => e)⟩
              case measure => simp [toN]; omega
          · obtain rfl : 10 = j := by omega
            by_cases hx9 : x.txn < 0 ∨ 9 < x.txn
            · go_wp2_with fail
              all_goals first
                | (go_ret; exact ⟨rfl, hT4.out.chg⟩)
                | (exfalso; omega)
            · have hx1 : 0 ≤ x.txn := by omega
              have hx2 : x.txn ≤ 9 := by omega
              clear hx9
              have hS2 : Hid (small T') := hid (fun s hs => by
                rcases hmem.out s hs with h | h
                · omega
                · exact HS.out s h)
              have hall := hid (needK_all hok.1 (fun s hs => ⟨by have := (hok.2.2 s hs).1; omega, hS2.out s hs⟩))
              obtain ⟨nd, hnd⟩ := named (tNeed' T')
              have hnd2 : needK T' 10 = nd := by rw [hall.out, hnd.out]
              rw [hnd2] at hb1 hb2 ⊢
              clear hok
              go_wp2_with (go_at_call 27; refine (tbNeed hT4.out nd hnd).mono ?_; rintro e w6 ⟨rfl, hT6⟩)
              go_roundw
              case rel => exact ⟨k + 1, by omega, by go_num, hid ⟨T', hT6, hS2.out⟩⟩
              case measure => simp [toN]; omega
      case false =>
        obtain ⟨T', hT'⟩ := named T
        have hmem : Hid (∀ s ∈ T', s.txn = x.txn ∨ s ∈ T) := hid (fun s hs => .inr (by rw [hT'.out] at hs; exact hs))
        obtain ⟨w4, hw4⟩ := named W
        have HTB4 : TB w w4 p T' := by rw [hw4.out, hT'.out, hW.out]; exact HT.out.keep ((Chg.refl _ _).alloc _)
        have hq4 : w4.cell? ⟨wr.heap.size, 1, none⟩ = some (.int .i64 x.txn) := by rw [hw4.out]; exact hcq
        have hTB : Hid (TB w w4 p T') := hid (HTB4)
        rw [hW.out] at hw4
        go_wp2_with fail
        rw [← hw4.out]
        generalize wr.heap.size = q at hq4 ⊢
        clear hcq
        go_loopw [6, 48] (fun n i wr => ∃ j : Nat, j ≤ 10 ∧ i = .int .i64 j ∧ n = .int .i64 (needK T' j) ∧ Hid (TB w wr p T') ∧ wr.cell? ⟨q, 1, none⟩ = some (.int .i64 x.txn)) (fun _ i _ => 10 - toN i)
        case atStart => exact ⟨0, by omega, rfl, rfl, hTB, hq4⟩
        case round =>
          obtain ⟨j, hj, rfl, rfl, hT4, hq5⟩ := hrel
          clear hq4
          have hok := hT4.out.ok
          obtain ⟨hb1, hb2⟩ := needK_bd hok j
          by_cases hlj : j < 10
          · obtain ⟨⟨⟨x1, y1, z1⟩, lf, er⟩, hrow⟩ := named (tRow T' (j : Int))
            have hsucc := hid (needK_succ T' j)
            have hat := tRow_need T' (j : Int)
            rw [← hrow.out] at hat
            obtain ⟨hb3, hb4⟩ := needAt_bd hok (j : Int)
            simp only at hat
            clear hok
            cases he : (er == 0)
            · have he2 : ¬ er = 0 := by simpa using he
              rw [if_neg he2] at hat
              have HAT := hid hat
              clear hat
              go_wp2_with (go_at_call 22; refine (tbRow2 hT4.out _ x1 y1 z1 lf er hrow).mono ?_; rintro e w5 ⟨rfl, c5⟩; have hq6 := c5.cell hq5 (fun e => e))
              go_roundw
              case rel => exact ⟨j + 1, by omega, by go_num, by first | (rw [hsucc.out, HAT.out]; done) | (rw [hsucc.out, HAT.out]; go_num), hid ((hT4.out.keep c5).keep ((Chg.refl _ _).alloc _)), ((Chg.refl NoB w5).alloc _).cell hq6 (fun e => e)⟩
              case measure => simp [toN]; omega
            · have he2 : er = 0 := by simpa using he
              rw [if_pos he2] at hat
              have hlf : lf = needAt T' (j : Int) - 1 := by omega
              have HAT := hid hat
              have hl1 : -1 ≤ lf := by omega
              have hl2 : lf ≤ 1048577 := by omega
              have hjb : needK T' j ≤ 10485770 := by omega
              clear hat hlf
              go_wp2_with (go_at_call 22; refine (tbRow2 hT4.out _ x1 y1 z1 lf er hrow).mono ?_; rintro e w5 ⟨rfl, c5⟩; have hq6 := c5.cell hq5 (fun e => e))
              go_roundw
              case rel => exact ⟨j + 1, by omega, by go_num, by first | (rw [hsucc.out, HAT.out]; done) | (rw [hsucc.out, HAT.out]; go_num), hid ((hT4.out.keep c5).keep ((Chg.refl _ _).alloc _)), ((Chg.refl NoB w5).alloc _).cell hq6 (fun e => e)⟩
              case measure => simp [toN]; omega
          · obtain rfl : 10 = j := by omega
            by_cases hx9 : x.txn < 0 ∨ 9 < x.txn
            · go_wp2_with fail
              all_goals first
                | (go_ret; exact ⟨rfl, hT4.out.chg⟩)
                | (exfalso; omega)
            · have hx1 : 0 ≤ x.txn := by omega
              have hx2 : x.txn ≤ 9 := by omega
              clear hx9
              have hS2 : Hid (small T') := hid (fun s hs => by
                rcases hmem.out s hs with h | h
                · omega
                · exact HS.out s h)
              have hall := hid (needK_all hok.1 (fun s hs => ⟨by have := (hok.2.2 s hs).1; omega, hS2.out s hs⟩))
              obtain ⟨nd, hnd⟩ := named (tNeed' T')
              have hnd2 : needK T' 10 = nd := by rw [hall.out, hnd.out]
              rw [hnd2] at hb1 hb2 ⊢
              clear hok
              go_wp2_with (go_at_call 27; refine (tbNeed hT4.out nd hnd).mono ?_; rintro e w6 ⟨rfl, hT6⟩)
              go_roundw
              case rel => exact ⟨k + 1, by omega, by go_num, hid ⟨T', hT6, hS2.out⟩⟩
              case measure => simp [toN]; omega
    · obtain rfl : k = l.length := by omega
      go_wp2
      go_ret
      exact ⟨rfl, hT.chg⟩
end Go.Proofs.Ytmikbjlgcndmeaa
