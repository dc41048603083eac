import Derived.Test.YtekjchphlphecaaSb15
import Derived.Test.YtekjchphlphecaaB1
namespace Go.Proofs.Ytekjchphlphecaa
open Go.RowKit Go.ChangeMaps Go.MapKept
set_option linter.unusedVariables false
set_option linter.unusedSimpArgs false
set_option maxHeartbeats 8000000

theorem put_bad (p : Pg) (h : p.right = false) (off : Int) (s : ByteArray) (a : Int) : (p.put off s a).2 ≠ 0 := by
  unfold Pg.put; rw [if_pos h]; simp
/-- The parameters' blocks. -/
structure RaI (w wA : World) (b0 b5 b6 : Nat) (p : Pg) (kd : Int) (r : Rec) (v1 v2 : Value) : Prop where
  pg : wA.heap[b0]? = some (.cells #[.int .i64 p.at_, .string p.data] 48 (0, 0))
  rc : wA.heap[b5]? = some (.cells #[.int .i64 kd, .int .i64 r.txn, .int .i64 r.page, .int .i64 r.off, .int .i64 r.prev, .int .i64 r.next, .int .i64 r.beg, .string r.before, .string r.after, v1, v2] 55 (0, 0))
  out : wA.heap[b6]? = some (.cells #[.int .i64 0, .string ⟨#[]⟩] 48 (0, 0))
  ne : b0 ≠ b6 ∧ w.heap.size ≤ b6
  chg : Chg NoB w wA
theorem RaI.keep {w wA wB : World} {b0 b5 b6 : Nat} {p : Pg} {kd : Int} {r : Rec} {v1 v2 : Value} (h : RaI w wA b0 b5 b6 p kd r v1 v2) (hc : Chg NoB wA wB) : RaI w wB b0 b5 b6 p kd r v1 v2 :=
  ⟨hc.heap h.pg nob, hc.heap h.rc nob, hc.heap h.out nob, h.ne, h.chg.trans' hc⟩

set_option maxRecDepth 100000 in
theorem rApply_calls (p : Pg) (at_ : Int) (r : Rec) (v1 v2 : Value) (w : World) (res : Pg) (hres : Hid (res = p.apply at_ r)) (hp : p.data.size ≤ 2 ^ 62) (hs : r.after.size ≤ 2 ^ 62) (ho : fits r.off) (hn : fits at_) :
    Calls Try.prog 29 #[.agg #[.int .i64 p.at_, .string p.data], .int .i64 at_, .agg #[.int .i64 r.kind, .int .i64 r.txn, .int .i64 r.page, .int .i64 r.off, .int .i64 r.prev, .int .i64 r.next, .int .i64 r.beg, .string r.before, .string r.after, v1, v2]] w fun e w' => e = .returned (.agg #[.int .i64 res.at_, .string res.data]) ∧ Chg NoB w w' := by
  obtain ⟨kd, hkd⟩ := named r.kind
  have hr := hres.out
  unfold Pg.apply at hr
  rw [← hkd.out] at hr ⊢
  obtain ⟨f, hf⟩ := named p.right
  have HR := hid hr
  clear hr hres
  go_enter Try.func29, Try.ntmps29
  go_upto_region 1 with fail
  have HA : Hid (RaI w (((w.alloc (.cells #[.int .i64 p.at_, .string p.data] 48)).alloc (.cells #[.int .i64 kd, .int .i64 r.txn, .int .i64 r.page, .int .i64 r.off, .int .i64 r.prev, .int .i64 r.next, .int .i64 r.beg, .string r.before, .string r.after, v1, v2] 55)).alloc (.cells #[.int .i64 0, .string ⟨#[]⟩] 48)) w.heap.size (w.heap.size + 1) (w.heap.size + 1 + 1) p kd r v1 v2) := hid (by
    refine ⟨blk_alloc (blk_alloc (blk_new _ _) _) _, ?_, ?_, ⟨by omega, by omega⟩, (((Chg.refl _ _).alloc _).alloc _).alloc _⟩
    · have := blk_alloc (blk_new (w.alloc (.cells #[.int .i64 p.at_, .string p.data] 48)) (.cells #[.int .i64 kd, .int .i64 r.txn, .int .i64 r.page, .int .i64 r.off, .int .i64 r.prev, .int .i64 r.next, .int .i64 r.beg, .string r.before, .string r.after, v1, v2] 55)) (.cells #[.int .i64 0, .string ⟨#[]⟩] 48)
      rw [World.size_alloc] at this; exact this
    · have := blk_new ((w.alloc (.cells #[.int .i64 p.at_, .string p.data] 48)).alloc (.cells #[.int .i64 kd, .int .i64 r.txn, .int .i64 r.page, .int .i64 r.off, .int .i64 r.prev, .int .i64 r.next, .int .i64 r.beg, .string r.before, .string r.after, v1, v2] 55)) (.cells #[.int .i64 0, .string ⟨#[]⟩] 48)
      rw [World.size_alloc, World.size_alloc] at this; exact this)
  obtain ⟨b0, hb0⟩ := named w.heap.size
  obtain ⟨b5, hb5⟩ := named (w.heap.size + 1)
  obtain ⟨b6, hb6⟩ := named (w.heap.size + 1 + 1)
  obtain ⟨wA, hwA⟩ := named (((w.alloc (.cells #[.int .i64 p.at_, .string p.data] 48)).alloc (.cells #[.int .i64 kd, .int .i64 r.txn, .int .i64 r.page, .int .i64 r.off, .int .i64 r.prev, .int .i64 r.next, .int .i64 r.beg, .string r.before, .string r.after, v1, v2] 55)).alloc (.cells #[.int .i64 0, .string ⟨#[]⟩] 48))
  rw [← hb6.out, ← hb5.out, ← hb0.out] at HA ⊢
  rw [← hwA.out] at HA ⊢
  have HP := hid HA.out.pg
  by_cases hc : f = true ∧ (kd = 1 ∨ kd = 2) ∧ p.at_ < at_
  · obtain ⟨rfl, hk, hlt⟩ := hc
    have hge : ¬ at_ ≤ p.at_ := by omega
    obtain ⟨⟨q, er⟩, hq⟩ := named (p.put r.off r.after at_)
    have hr : res = if er = 0 then q else p := by rw [HR.out, if_pos ⟨hk, hlt⟩, ← hq.out]
    clear HR
    by_cases h0 : er = 0
    · subst h0
      rw [if_pos rfl] at hr
      subst hr
      rcases hk with rfl | rfl
      all_goals
        go_wp2_with (first
          | ((fail_if_success (fail_if_success (with_reducible change wpList _ _ _ (Oper.mk _ (.load 48 _) _ _ _ _ :: _) _ _))); refine step_loadRow rfl rfl b0 rfl HP.out Try.underlying48 (by kernel_rfl) ?_)
          | (go_at_call 47; refine (rRight_calls p _ _ hf hp).mono ?_; rintro e w1 ⟨rfl, hc1⟩; have HB := hid (HA.out.keep hc1); have HP1 := hid HB.out.pg; have HO1 := hid HB.out.out; have HRC := hid HB.out.rc; have hp0 : w1.cell? ⟨b0, 0, none⟩ = some (.int .i64 p.at_) := (by rw [cell_blk HP1.out]; rfl); have hk0 := (cell_blk HRC.out 0).trans rfl; have hk3 := (cell_blk HRC.out 3).trans rfl; have hk8 := (cell_blk HRC.out 8).trans rfl)
          | ((fail_if_success (fail_if_success (with_reducible change wpList _ _ _ (Oper.mk _ (.load 48 _) _ _ _ _ :: _) _ _))); refine step_loadRow rfl rfl b0 rfl HP1.out Try.underlying48 (by kernel_rfl) ?_)
          | (go_at_call 43; refine (rPut_calls p r.off at_ r.after _ (res, 0) hq hp hs ho hn).mono ?_; rintro en w2 ⟨rfl, hc2⟩; have HC := hid (HB.out.keep hc2); have HP2 := hid HC.out.pg; have HO2 := hid HC.out.out; have hb62 := lt_of_block HO2.out; have hb02 := lt_of_block HP2.out; simp only [Pg.val])
          | ((fail_if_success (fail_if_success (with_reducible change wpList _ _ _ (Oper.mk _ (.store 48 _ _) _ _ _ _ :: _) _ _))); refine step_storeRow rfl rfl w2.heap.size rfl rfl (blk_new _ _) (by kernel_rfl) rfl (by simp [Value.oneCell']) ?_; intro w3 hb3 hc3 hs3; have HD := hid (HC.out.chg.alloc (.cells #[.int .i64 0, .string ⟨#[]⟩] 48) |>.new hc3 (fun i x => by have h' : i = w2.heap.size := x; have := HC.out.chg.size; omega)))
          | ((fail_if_success (fail_if_success (with_reducible change wpList _ _ _ (Oper.mk _ (.load 48 _) _ _ _ _ :: _) _ _))); refine step_loadRow rfl rfl w2.heap.size rfl hb3 Try.underlying48 (by kernel_rfl) ?_)
          | ((fail_if_success (fail_if_success (with_reducible change wpList _ _ _ (Oper.mk _ (.store 48 _ _) _ _ _ _ :: _) _ _))); refine step_storeRow rfl rfl b6 rfl rfl (hc3.heap (blk_alloc HO2.out _) (fun x => by have h' : b6 = w2.heap.size := x; omega)) (by kernel_rfl) rfl (by simp [Value.oneCell']) ?_; intro w4 hb4 hc4 hs4))
        refine bodyPost_ret (results_cell_row rfl _ _ b6 _ _ _ _ rfl hb4 Try.underlying48 rfl (by kernel_rfl)) rfl ?_
        exact ⟨rfl, HD.out.new hc4 (fun i x => by have h' : i = b6 := x; have := HA.out.ne.2; omega)⟩
    · rw [if_neg h0] at hr
      subst hr
      rcases hk with rfl | rfl
      all_goals
        go_wp2_with (first
          | ((fail_if_success (fail_if_success (with_reducible change wpList _ _ _ (Oper.mk _ (.load 48 _) _ _ _ _ :: _) _ _))); refine step_loadRow rfl rfl b0 rfl HP.out Try.underlying48 (by kernel_rfl) ?_)
          | (go_at_call 47; refine (rRight_calls res _ _ hf hp).mono ?_; rintro e w1 ⟨rfl, hc1⟩; have HB := hid (HA.out.keep hc1); have HP1 := hid HB.out.pg; have HO1 := hid HB.out.out; have HRC := hid HB.out.rc; have hp0 : w1.cell? ⟨b0, 0, none⟩ = some (.int .i64 res.at_) := (by rw [cell_blk HP1.out]; rfl); have hk0 := (cell_blk HRC.out 0).trans rfl; have hk3 := (cell_blk HRC.out 3).trans rfl; have hk8 := (cell_blk HRC.out 8).trans rfl)
          | ((fail_if_success (fail_if_success (with_reducible change wpList _ _ _ (Oper.mk _ (.load 48 _) _ _ _ _ :: _) _ _))); refine step_loadRow rfl rfl b0 rfl HP1.out Try.underlying48 (by kernel_rfl) ?_)
          | (go_at_call 43; refine (rPut_calls res r.off at_ r.after _ (q, er) hq hp hs ho hn).mono ?_; rintro en w2 ⟨rfl, hc2⟩; have HC := hid (HB.out.keep hc2); have HP2 := hid HC.out.pg; have HO2 := hid HC.out.out; have hb62 := lt_of_block HO2.out; have hb02 := lt_of_block HP2.out; simp only [Pg.val])
          | ((fail_if_success (fail_if_success (with_reducible change wpList _ _ _ (Oper.mk _ (.store 48 _ _) _ _ _ _ :: _) _ _))); refine step_storeRow rfl rfl w2.heap.size rfl rfl (blk_new _ _) (by kernel_rfl) rfl (by simp [Value.oneCell']) ?_; intro w3 hb3 hc3 hs3; have HD := hid (HC.out.chg.alloc (.cells #[.int .i64 0, .string ⟨#[]⟩] 48) |>.new hc3 (fun i x => by have h' : i = w2.heap.size := x; have := HC.out.chg.size; omega)))
          | ((fail_if_success (fail_if_success (with_reducible change wpList _ _ _ (Oper.mk _ (.load 48 _) _ _ _ _ :: _) _ _))); refine step_loadRow rfl rfl b0 rfl (hc3.heap (blk_alloc HP2.out _) (fun x => by have h' : b0 = w2.heap.size := x; omega)) Try.underlying48 (by kernel_rfl) ?_)
          | ((fail_if_success (fail_if_success (with_reducible change wpList _ _ _ (Oper.mk _ (.store 48 _ _) _ _ _ _ :: _) _ _))); refine step_storeRow rfl rfl b6 rfl rfl (hc3.heap (blk_alloc HO2.out _) (fun x => by have h' : b6 = w2.heap.size := x; omega)) (by kernel_rfl) rfl (by simp [Value.oneCell']) ?_; intro w4 hb4 hc4 hs4))
        refine bodyPost_ret (results_cell_row rfl _ _ b6 _ _ _ _ rfl hb4 Try.underlying48 rfl (by kernel_rfl)) rfl ?_
        exact ⟨rfl, HD.out.new hc4 (fun i x => by have h' : i = b6 := x; have := HA.out.ne.2; omega)⟩
  · have hr : res = p := by
      rw [HR.out]
      split
      · rename_i h1
        have hff : f = false := by cases f; rfl; exact absurd ⟨rfl, h1⟩ hc
        have := put_bad p (by rw [← hf.out, hff]) r.off r.after at_
        rw [if_neg this]
      · rfl
    subst hr
    have hcs : f = false ∨ (f = true ∧ kd ≠ 1 ∧ kd ≠ 2) ∨ (f = true ∧ kd = 1 ∧ at_ ≤ res.at_) ∨ (f = true ∧ kd = 2 ∧ at_ ≤ res.at_) := by
      cases f
      · exact .inl rfl
      · by_cases h1 : kd = 1 ∨ kd = 2
        · have : ¬ res.at_ < at_ := fun h => hc ⟨rfl, h1, h⟩
          rcases h1 with h1 | h1
          · exact .inr (.inr (.inl ⟨rfl, h1, by omega⟩))
          · exact .inr (.inr (.inr ⟨rfl, h1, by omega⟩))
        · exact .inr (.inl ⟨rfl, by omega, by omega⟩)
    clear hc HR
    rcases hcs with rfl | ⟨rfl, h1, h2⟩ | ⟨rfl, rfl, h2⟩ | ⟨rfl, rfl, h2⟩
    all_goals
      go_wp2_with (first
        | ((fail_if_success (fail_if_success (with_reducible change wpList _ _ _ (Oper.mk _ (.load 48 _) _ _ _ _ :: _) _ _))); refine step_loadRow rfl rfl b0 rfl HP.out Try.underlying48 (by kernel_rfl) ?_)
        | (go_at_call 47; refine (rRight_calls res _ _ hf hp).mono ?_; rintro e w1 ⟨rfl, hc1⟩; have HB := hid (HA.out.keep hc1); have HP1 := hid HB.out.pg; have HO1 := hid HB.out.out; have HRC := hid HB.out.rc; have hp0 : w1.cell? ⟨b0, 0, none⟩ = some (.int .i64 res.at_) := (by rw [cell_blk HP1.out]; rfl); have hk0 := (cell_blk HRC.out 0).trans rfl; have hk3 := (cell_blk HRC.out 3).trans rfl; have hk8 := (cell_blk HRC.out 8).trans rfl)
        | ((fail_if_success (fail_if_success (with_reducible change wpList _ _ _ (Oper.mk _ (.load 48 _) _ _ _ _ :: _) _ _))); refine step_loadRow rfl rfl b0 rfl HP1.out Try.underlying48 (by kernel_rfl) ?_)
        | ((fail_if_success (fail_if_success (with_reducible change wpList _ _ _ (Oper.mk _ (.store 48 _ _) _ _ _ _ :: _) _ _))); refine step_storeRow rfl rfl b6 rfl rfl HO1.out (by kernel_rfl) rfl (by simp [Value.oneCell']) ?_; intro w4 hb4 hc4 hs4))
      refine bodyPost_ret (results_cell_row rfl _ _ b6 _ _ _ _ rfl hb4 Try.underlying48 rfl (by kernel_rfl)) rfl ?_
      exact ⟨rfl, HB.out.chg.new hc4 (fun i x => by have h' : i = b6 := x; have := HA.out.ne.2; omega)⟩
end Go.Proofs.Ytekjchphlphecaa
