import Derived.Test.YtobmaipjbepphaaJuSpec
namespace Go.Proofs.Ytobmaipjbepphaa
open Go.RowKit Go.ChangeMaps Go.MapKept
attribute [local go_sem] Go.Oper.rdK
set_option linter.unusedVariables false
set_option maxHeartbeats 8000000

/-- A record's cells lie at an address. -/
def RcAt (w : World) (b o : Nat) (r : Rec) (v1 v2 : Value) : Prop := ∀ j u, (r.cs v1 v2)[j]? = some u → w.cell? ⟨b, o + j, none⟩ = some u
theorem RcAt.cells {w : World} {b o : Nat} {r : Rec} {v1 v2 : Value} (h : RcAt w b o r v1 v2) :
    w.cell? ⟨b, o, none⟩ = some (.int .i64 r.kind) ∧ w.cell? ⟨b, o + 1, none⟩ = some (.int .i64 r.txn) ∧ w.cell? ⟨b, o + 2, none⟩ = some (.int .i64 r.page) ∧ w.cell? ⟨b, o + 3, none⟩ = some (.int .i64 r.off) ∧ w.cell? ⟨b, o + 4, none⟩ = some (.int .i64 r.prev) ∧
    w.cell? ⟨b, o + 5, none⟩ = some (.int .i64 r.next) ∧ w.cell? ⟨b, o + 6, none⟩ = some (.int .i64 r.beg) ∧ w.cell? ⟨b, o + 7, none⟩ = some (.string r.before) ∧ w.cell? ⟨b, o + 8, none⟩ = some (.string r.after) :=
  ⟨h 0 _ rfl, h 1 _ rfl, h 2 _ rfl, h 3 _ rfl, h 4 _ rfl, h 5 _ rfl, h 6 _ rfl, h 7 _ rfl, h 8 _ rfl⟩
theorem RcAt.keep {w w' : World} {b o : Nat} {r : Rec} {v1 v2 : Value} {S : Nat → Prop} (h : RcAt w b o r v1 v2) (hc : Chg S w w') (hs : ¬ S b) : RcAt w' b o r v1 v2 := fun j u hu => hc.cell (h j u hu) hs

/-- A page among others, in a block. -/
theorem pg_cells {w : World} {g : Nat} {t : TypeId} {pre post : List Value} {PL : List Pg} {f : Nat × Nat} (hg : w.heap[g]? = some (.cells (pre ++ pgsC PL ++ post).toArray t f)) (k : Nat) (hk : k < PL.length) :
    w.cell? ⟨g, pre.length + k * 2, none⟩ = some (.int .i64 PL[k].at_) ∧ w.cell? ⟨g, pre.length + k * 2 + 1, none⟩ = some (.string PL[k].data) := by
  obtain ⟨h1, h2⟩ := pgsC_get PL k hk
  have hl := pgsC_len PL
  rw [cell_blk hg, cell_blk hg]
  constructor
  · rw [List.getElem?_toArray, List.append_assoc, List.getElem?_append_right (by omega), List.getElem?_append_left (by omega), Nat.add_sub_cancel_left]; exact h1
  · rw [List.getElem?_toArray, List.append_assoc, List.getElem?_append_right (by omega), List.getElem?_append_left (by omega), show pre.length + k * 2 + 1 - pre.length = k * 2 + 1 by omega]; exact h2
theorem pg_splice (pre post : List Value) (PL : List Pg) (k : Nat) (p : Pg) (hk : k < PL.length) :
    (pre ++ pgsC PL ++ post).take (pre.length + k * 2) ++ encP p ++ (pre ++ pgsC PL ++ post).drop (pre.length + k * 2 + (encP p).length) = pre ++ pgsC (PL.set k p) ++ post := by
  have e1 : (encP p).length = 2 := rfl
  have hl := pgsC_len PL
  rw [← pgsC_set PL k p hk, e1, Nat.add_assoc, List.append_assoc pre, List.take_length_add_append, List.drop_length_add_append, List.take_append_of_le_length (by omega), List.drop_append_of_le_length (by omega)]
  simp
theorem getD_at (PL : List Pg) (k : Nat) (hk : k < PL.length) : PL.getD k Pg.none = PL[k] := by simp [hk]

theorem put_lit (p : Pg) (off at_ : Int) (s : ByteArray) (w : World) (res : Pg × Int) (hres : Hid (res = p.put off s at_)) (hf : p.data.size ≤ 2 ^ 62) (hs : s.size ≤ 2 ^ 62) (ho : fits off) (hn : fits at_) :
    Calls Try.prog 31 #[.agg #[.int .i64 p.at_, .string p.data], .int .i64 off, .string s, .int .i64 at_] w fun e w' => e = .returned (.tuple #[.agg #[.int .i64 res.1.at_, .string res.1.data], .int .i64 res.2]) ∧ Chg NoB w w' := put_calls p off at_ s w res hres hf hs ho hn
theorem get_lit (p : Pg) (off n : Int) (w : World) (res : ByteArray × Int) (hres : Hid (res = p.get off n)) (hf : p.data.size ≤ 2 ^ 62) (ho : fits off) (hn : fits n) :
    Calls Try.prog 40 #[.agg #[.int .i64 p.at_, .string p.data], .int .i64 off, .int .i64 n] w fun e w' => e = .returned (.tuple #[.string res.1, .int .i64 res.2]) ∧ Chg NoB w w' := get_calls p off n w res hres hf ho hn

set_option maxRecDepth 100000 in
theorem set_calls (g : Nat) (pre post : List Value) (PL : List Pg) (b o c : Nat) (r : Rec) (v1 v2 : Value) (t : TypeId) (w : World) (hg : w.heap[g]? = some (.cells (pre ++ pgsC PL ++ post).toArray t (0, 0))) (hr : RcAt w b o r v1 v2)
    (hrk : r.ok) (has : r.after.size ≤ 2 ^ 62) (hPL : ∀ q ∈ PL, q.data.size ≤ 220) (hl : PL.length ≤ 8) (hlc : PL.length ≤ c) :
    Calls Try.prog 24 #[.slice (some ⟨g, pre.length, none⟩) PL.length c, .pointer (some ⟨b, o, none⟩)] w fun e w' => e = .returned (.tuple #[]) ∧ w'.heap[g]? = some (.cells (pre ++ pgsC (jPut PL r) ++ post).toArray t (0, 0)) ∧ Chg (OneB g) w w' := by
  obtain ⟨c0, c1, c2, c3, c4, c5, c6, c7, c8⟩ := hr.cells
  clear c0 c1 c4 c5 c6 c7
  have HG := hid hg
  by_cases hp : r.page < 0 ∨ (PL.length : Int) ≤ r.page
  · have HE := hid (show jPut PL r = PL by unfold jPut; rw [if_pos hp])
    go_enter Try.func24, Try.ntmps24
    by_cases h0 : r.page < 0
    · go_wp2
      ((try simp only [Exit.inBlock, Exit.then]); refine bodyPost_ret (results_none rfl _ _ _) rfl ?_)
      exact ⟨rfl, by rw [HE.out]; simpa using HG.out, Chg.refl _ _⟩
    · have h1 : (PL.length : Int) ≤ r.page := by omega
      go_wp2
      ((try simp only [Exit.inBlock, Exit.then]); refine bodyPost_ret (results_none rfl _ _ _) rfl ?_)
      exact ⟨rfl, by rw [HE.out]; simpa using HG.out, Chg.refl _ _⟩
  · obtain ⟨k, hk⟩ := Int.eq_ofNat_of_zero_le (show 0 ≤ r.page by omega)
    have hkl : k < PL.length := by omega
    obtain ⟨d1, d2⟩ := pg_cells hg k hkl
    obtain ⟨q, hq⟩ := named PL[k]
    obtain ⟨res, hres⟩ := named (q.put r.off r.after 0)
    have hqs : q.data.size ≤ 2 ^ 62 := by rw [hq.out]; have := hPL _ (List.getElem_mem hkl); omega
    have hof := hrk.2.2.2.1
    have HJ : Hid (jPut PL r = if res.2 = 0 then PL.set k res.1 else PL) := hid (by unfold jPut; rw [if_neg hp, hk, Int.toNat_natCast, getD_at PL k hkl, hres.out, hq.out])
    rw [← hq.out] at d1 d2
    rw [hk] at c2
    have HK := hid hk
    have HP := hid (fun j (hj : j < PL.length) => hPL _ (List.getElem_mem hj))
    clear hk hp hPL hrk hg
    have hk0 : (0 : Int) ≤ (k : Int) := by omega
    have hk1 : (k : Int) < (PL.length : Int) := by omega
    go_enter Try.func24, Try.ntmps24
    go_upto_region 1 with fail
    go_cut [4, 5] (fun s4 s5 wx => ∃ h : Nat, s4 = .pointer (some ⟨h, 0, none⟩) ∧ s5 = .int .i64 res.2 ∧ Hid (Chg NoB w wx ∧ wx.heap[h]? = some (.cells #[.int .i64 res.1.at_, .string res.1.data] 58 (0, 0)) ∧ w.heap.size ≤ h))
    case first =>
      have hfit : fits 0 := by unfold fits; omega
      refine wp_region_ord 22 (.rd 0 (.rd 1 (.rd 2 (.rd 3 (.rd 4 (.rd 5 (.rd 6 (.rd 7 (.rd 8 (.rd 9 (.rd 10 (.rd 11 (.rd 12 (.rd 13 (.rd 14 (.two 15 (.rd 16 (.rd 17 (.rd 18 (.one 19 (.one 20 (.rd 21 (.done))))))) 19 (.one 15 (.rd 16 (.rd 17 (.rd 18 (.one 20 (.rd 21 (.done))))))))))))))))))))))) (Same w) (by kernel_rfl) (by kernel_rfl) (by kernel_rfl) (by kernel_rfl) (by kernel_rfl) (fun _ _ d _ _ h => by cases d <;> exact h) (Same.of (Chg.refl _ _).drew) (fun hS0 => ?_)
      refine wpOrd_rd rfl rfl (by first | decide | simp) (by assumption) (fun w' hw' K hK => by ((try unfold Same at hw'); (try go_split_ands); go_simp; exact hK)) ?_
      refine wpOrd_rd rfl rfl (by first | decide | simp) (by assumption) (fun w' hw' K hK => by ((try unfold Same at hw'); (try go_split_ands); go_simp; exact hK)) ?_
      refine wpOrd_rd rfl rfl (by first | decide | simp) (by assumption) (fun w' hw' K hK => by ((try unfold Same at hw'); (try go_split_ands); go_simp; exact hK)) ?_
      refine wpOrd_rd rfl rfl (by first | decide | simp) (by assumption) (fun w' hw' K hK => by ((try unfold Same at hw'); (try go_split_ands); go_simp; exact hK)) ?_
      refine wpOrd_rd rfl rfl (by first | decide | simp) (by assumption) (fun w' hw' K hK => by ((try unfold Same at hw'); (try go_split_ands); go_simp; exact hK)) ?_
      refine wpOrd_rd rfl rfl (by first | decide | simp) (by assumption) (fun w' hw' K hK => by ((try unfold Same at hw'); (try go_split_ands); go_simp; exact hK)) ?_
      refine wpOrd_rd rfl rfl (by first | decide | simp) (by assumption) (fun w' hw' K hK => by ((try unfold Same at hw'); (try go_split_ands); go_simp; exact hK)) ?_
      refine wpOrd_rd rfl rfl (by first | decide | simp) (by assumption) (fun w' hw' K hK => by ((try unfold Same at hw'); (try go_split_ands); go_simp; exact hK)) ?_
      refine wpOrd_rd rfl rfl (by first | decide | simp) (by assumption) (fun w' hw' K hK => by ((try unfold Same at hw'); (try go_split_ands); go_simp; exact hK)) ?_
      refine wpOrd_rd rfl rfl (by first | decide | simp) (by assumption) (fun w' hw' K hK => by ((try unfold Same at hw'); (try go_split_ands); go_simp; exact hK)) ?_
      refine wpOrd_rd rfl rfl (by first | decide | simp) (by assumption) (fun w' hw' K hK => by ((try unfold Same at hw'); (try go_split_ands); go_simp; exact hK)) ?_
      refine wpOrd_rd rfl rfl (by first | decide | simp) (by assumption) (fun w' hw' K hK => by ((try unfold Same at hw'); (try go_split_ands); go_simp; exact hK)) ?_
      refine wpOrd_rd rfl rfl (by first | decide | simp) (by assumption) (fun w' hw' K hK => by ((try unfold Same at hw'); (try go_split_ands); go_simp; exact hK)) ?_
      refine wpOrd_rd rfl rfl (by first | decide | simp) (by assumption) (fun w' hw' K hK => by ((try unfold Same at hw'); (try go_split_ands); go_simp; exact hK)) ?_
      refine wpOrd_rd rfl rfl (by first | decide | simp) (by assumption) (fun w' hw' K hK => by ((try unfold Same at hw'); (try go_split_ands); go_simp; exact hK)) ?_
      refine wpOrd_two rfl rfl ?_ ?_
      · refine wpList_plain rfl (fun K hK => ?_)
        go_simp
        ((with_reducible refine (put_lit q r.off 0 r.after _ res hres hqs has hof hfit).mono ?_); rintro e w2 ⟨rfl, hc2⟩)
        refine hK _ _ ?_
        clear hK K
        (try dsimp only [Act.put])
        (try simp only [List.setIfInBounds_toArray, List.set_cons_zero, List.set_cons_succ])
        refine wpOrd_done (Same.of ((Chg.refl NoB w).drew.trans' hc2)) (fun hS1 => ?_)
        refine wpOrd_rd rfl rfl (by first | decide | simp) (by assumption) (fun w' hw' K hK => by ((try unfold Same at hw'); (try go_split_ands); go_simp; exact hK)) ?_
        refine wpOrd_rd rfl rfl (by first | decide | simp) (by assumption) (fun w' hw' K hK => by ((try unfold Same at hw'); (try go_split_ands); go_simp; exact hK)) ?_
        refine wpOrd_rd rfl rfl (by first | decide | simp) (by assumption) (fun w' hw' K hK => by ((try unfold Same at hw'); (try go_split_ands); go_simp; exact hK)) ?_
        refine wpOrd_do rfl ?_
        refine wpList_plain rfl (fun K hK => ?_)
        go_simp
        refine hK _ _ ?_
        clear hK K
        (try dsimp only [Act.put])
        (try simp only [List.setIfInBounds_toArray, List.set_cons_zero, List.set_cons_succ])
        refine wpOrd_done (Same.of (((Chg.refl NoB w).drew.trans' hc2).alloc _)) (fun hS2 => ?_)
        refine wpOrd_do rfl ?_
        refine step_storeRow rfl rfl w2.heap.size rfl rfl (blk_new _ _) (by kernel_rfl) rfl (by simp [Value.oneCell']) ?_; intro w3 hb3 hc3 hs3
        (try dsimp only [Act.put])
        (try simp only [List.setIfInBounds_toArray, List.set_cons_zero, List.set_cons_succ])
        refine wpOrd_done (Same.of ((((Chg.refl NoB w).drew.trans' hc2).alloc _).new hc3 (fun i e => by have h' : i = w2.heap.size := e; have := hc2.size; simp at this; omega))) (fun hS3 => ?_)
        refine wpOrd_rd rfl rfl (by first | decide | simp) (by assumption) (fun w' hw' K hK => by ((try unfold Same at hw'); (try go_split_ands); go_simp; exact hK)) ?_
        refine wpOrd_nil ?_
        have hz := hc2.size
        simp only [World.size_drew] at hz
        go_wp2_with fail
        go_meet
        exact ⟨_, rfl, rfl, (((Chg.refl NoB w).drew.trans' hc2).alloc _).new hc3 (fun i e => by have h' : i = w2.heap.size := e; omega), hb3, hz⟩
      · refine wpList_plain rfl (fun K hK => ?_)
        go_simp
        refine hK _ _ ?_
        clear hK K
        (try dsimp only [Act.put])
        (try simp only [List.setIfInBounds_toArray, List.set_cons_zero, List.set_cons_succ])
        refine wpOrd_done (Same.of ((Chg.refl NoB w).drew.alloc _)) (fun hS4 => ?_)
        refine wpOrd_do rfl ?_
        refine wpList_plain rfl (fun K hK => ?_)
        go_simp
        ((with_reducible refine (put_lit q r.off 0 r.after _ res hres hqs has hof hfit).mono ?_); rintro e w2 ⟨rfl, hc2⟩)
        refine hK _ _ ?_
        clear hK K
        (try dsimp only [Act.put])
        (try simp only [List.setIfInBounds_toArray, List.set_cons_zero, List.set_cons_succ])
        refine wpOrd_done (Same.of (((Chg.refl NoB w).drew.alloc _).trans' hc2)) (fun hS5 => ?_)
        refine wpOrd_rd rfl rfl (by first | decide | simp) (by assumption) (fun w' hw' K hK => by ((try unfold Same at hw'); (try go_split_ands); go_simp; exact hK)) ?_
        refine wpOrd_rd rfl rfl (by first | decide | simp) (by assumption) (fun w' hw' K hK => by ((try unfold Same at hw'); (try go_split_ands); go_simp; exact hK)) ?_
        refine wpOrd_rd rfl rfl (by first | decide | simp) (by assumption) (fun w' hw' K hK => by ((try unfold Same at hw'); (try go_split_ands); go_simp; exact hK)) ?_
        refine wpOrd_do rfl ?_
        refine step_storeRow rfl rfl w.heap.size rfl rfl (hc2.heap (blk_new _ _) nob) (by kernel_rfl) rfl (by simp [Value.oneCell']) ?_; intro w3 hb3 hc3 hs3
        (try dsimp only [Act.put])
        (try simp only [List.setIfInBounds_toArray, List.set_cons_zero, List.set_cons_succ])
        refine wpOrd_done (Same.of ((((Chg.refl NoB w).drew.alloc _).trans' hc2).new hc3 (fun i e => by have h' : i = w.heap.size := e; omega))) (fun hS6 => ?_)
        refine wpOrd_rd rfl rfl (by first | decide | simp) (by assumption) (fun w' hw' K hK => by ((try unfold Same at hw'); (try go_split_ands); go_simp; exact hK)) ?_
        refine wpOrd_nil ?_
        go_wp2_with fail
        go_meet
        exact ⟨_, rfl, rfl, (((Chg.refl NoB w).drew.alloc _).trans' hc2).new hc3 (fun i e => by have h' : i = w.heap.size := e; omega), hb3, Nat.le_refl _⟩
    case rest =>
      obtain ⟨h, rfl, rfl, hcut⟩ := hcut
      have c2' := hcut.out.1.cell c2 nob
      have e1 : wc.cell? ⟨h, 0, none⟩ = some (.int .i64 res.1.at_) := by rw [cell_blk hcut.out.2.1]; rfl
      have e2 : wc.cell? ⟨h, 1, none⟩ = some (.string res.1.data) := by rw [cell_blk hcut.out.2.1]; rfl
      clear c2 c3 c8 d1 d2
      obtain ⟨er, her⟩ := named res.2
      rw [← her.out]
      by_cases h0 : er = 0
      · subst h0
        have HJ2 := hid (show jPut PL r = PL.set k res.1 by rw [HJ.out, ← her.out]; rfl)
        go_upto_region 3 with fail
        have hb := hcut.out.1.heap HG.out nob
        have hlen : Hid ((pre ++ pgsC PL ++ post).length = pre.length + PL.length * 2 + post.length) := hid (by simp [pgsC_len]; omega)
        refine wp_region_ord 7 (.rd 0 (.rd 1 (.rd 2 (.rd 3 (.rd 4 (.rd 5 (.rd 6 (.one 7 (.done))))))))) (Same wc) (by kernel_rfl) (by kernel_rfl) (by kernel_rfl) (by kernel_rfl) (by kernel_rfl) (fun _ _ d _ _ h => by cases d <;> exact h) (Same.of (Chg.refl _ _).drew) (fun hS0 => ?_)
        refine wpOrd_rd rfl rfl (by first | decide | simp) (by assumption) (fun w' hw' K hK => by ((try unfold Same at hw'); (try go_split_ands); go_simp; exact hK)) ?_
        refine wpOrd_rd rfl rfl (by first | decide | simp) (by assumption) (fun w' hw' K hK => by ((try unfold Same at hw'); (try go_split_ands); go_simp; exact hK)) ?_
        refine wpOrd_rd rfl rfl (by first | decide | simp) (by assumption) (fun w' hw' K hK => by ((try unfold Same at hw'); (try go_split_ands); go_simp; exact hK)) ?_
        refine wpOrd_rd rfl rfl (by first | decide | simp) (by assumption) (fun w' hw' K hK => by ((try unfold Same at hw'); (try go_split_ands); go_simp; exact hK)) ?_
        refine wpOrd_rd rfl rfl (by first | decide | simp) (by assumption) (fun w' hw' K hK => by ((try unfold Same at hw'); (try go_split_ands); go_simp; exact hK)) ?_
        refine wpOrd_rd rfl rfl (by first | decide | simp) (by assumption) (fun w' hw' K hK => by ((try unfold Same at hw'); (try go_split_ands); go_simp; exact hK)) ?_
        refine wpOrd_rd rfl rfl (by first | decide | simp) (by assumption) (fun w' hw' K hK => by ((try unfold Same at hw'); (try go_split_ands); go_simp; exact hK)) ?_
        refine wpOrd_do rfl ?_
        refine step_storeAt rfl rfl g (pre.length + k * 2) (cells := encP res.1) rfl rfl (show (World.drew wc).heap[g]? = _ from hb) (by kernel_rfl) (by rw [hlen.out]; simp [encP]; omega) (by simp [encP, Value.oneCell']) ?_; intro w3 hb3 hc3 hs3
        (try dsimp only [Act.put])
        (try simp only [List.setIfInBounds_toArray, List.set_cons_zero, List.set_cons_succ])
        refine wpOrd_last ?_
        refine wpOrd_nil ?_
        go_wp2_with fail
        go_end0
        have hc4 : Chg (OneB g) w w3 := (hcut.out.1.drew.mono fun _ e => e.elim).trans' hc3
        exact ⟨rfl, by rw [hb3, HJ2.out, pg_splice pre post PL k res.1 hkl], hc4⟩
      · have HJ2 := hid (show jPut PL r = PL by rw [HJ.out, if_neg (by rw [← her.out]; exact h0)])
        go_wp2_with fail
        go_end0
        exact ⟨rfl, by rw [HJ2.out]; exact hcut.out.1.heap HG.out nob, hcut.out.1.mono fun _ e => e.elim⟩
end Go.Proofs.Ytobmaipjbepphaa
