import Derived.Test.YtekjchphlphecaaA3
import Derived.Test.YtekjchphlphecaaA1
namespace Go.Proofs.Ytekjchphlphecaa
open Go.RowKit Go.ChangeMaps Go.MapKept
set_option linter.unusedVariables false
set_option linter.unusedSimpArgs false
set_option maxHeartbeats 8000000

set_option maxRecDepth 100000 in
theorem apply_calls (p : Pg) (at_ : Int) (r : Rec) (v1 v2 : Value) (w : World) (res : Pg) (hres : Hid (res = p.apply at_ r)) (hp : p.data.size ≤ 2 ^ 62) (hs : r.after.size ≤ 2 ^ 62) (ho : fits r.off) (hn : fits at_) :
    Calls Try.prog 46 #[.agg #[.int .i64 p.at_, .string p.data], .int .i64 at_, .agg #[.int .i64 r.kind, .int .i64 r.txn, .int .i64 r.page, .int .i64 r.off, .int .i64 r.prev, .int .i64 r.next, .int .i64 r.beg, .string r.before, .string r.after, v1, v2]] w fun e w' => e = .returned (.agg #[.int .i64 res.at_, .string res.data]) ∧ Chg NoB w w' := by
  obtain ⟨kd, hkd⟩ := named r.kind
  have hr := hres.out
  unfold Pg.apply at hr
  rw [← hkd.out] at hr ⊢
  have hb0 : ((((w.alloc (.cells #[.int .i64 p.at_, .string p.data] 48)).alloc (.cells #[.int .i64 kd, .int .i64 r.txn, .int .i64 r.page, .int .i64 r.off, .int .i64 r.prev, .int .i64 r.next, .int .i64 r.beg, .string r.before, .string r.after, v1, v2] 55)).alloc (.cells #[.int .i64 0, .string ⟨#[]⟩] 48)).heap[w.heap.size]? = some (.cells #[.int .i64 p.at_, .string p.data] 48 (0, 0))) := blk_alloc (blk_alloc (blk_new _ _) _) _
  have hb6 : ((((w.alloc (.cells #[.int .i64 p.at_, .string p.data] 48)).alloc (.cells #[.int .i64 kd, .int .i64 r.txn, .int .i64 r.page, .int .i64 r.off, .int .i64 r.prev, .int .i64 r.next, .int .i64 r.beg, .string r.before, .string r.after, v1, v2] 55)).alloc (.cells #[.int .i64 0, .string ⟨#[]⟩] 48)).heap[w.heap.size + 1 + 1]? = some (.cells #[.int .i64 0, .string ⟨#[]⟩] 48 (0, 0))) := by
    have := blk_new ((w.alloc (.cells #[.int .i64 p.at_, .string p.data] 48)).alloc (.cells #[.int .i64 kd, .int .i64 r.txn, .int .i64 r.page, .int .i64 r.off, .int .i64 r.prev, .int .i64 r.next, .int .i64 r.beg, .string r.before, .string r.after, v1, v2] 55)) (.cells #[.int .i64 0, .string ⟨#[]⟩] 48)
    rw [World.size_alloc, World.size_alloc] at this; exact this
  replace hb0 := hid hb0
  replace hb6 := hid hb6
  have hcA : Chg NoB w (((w.alloc (.cells #[.int .i64 p.at_, .string p.data] 48)).alloc (.cells #[.int .i64 kd, .int .i64 r.txn, .int .i64 r.page, .int .i64 r.off, .int .i64 r.prev, .int .i64 r.next, .int .i64 r.beg, .string r.before, .string r.after, v1, v2] 55)).alloc (.cells #[.int .i64 0, .string ⟨#[]⟩] 48)) := (((Chg.refl _ _).alloc _).alloc _).alloc _
  replace hcA := hid hcA
  by_cases hc : (kd = 1 ∨ kd = 2) ∧ p.at_ < at_
  · obtain ⟨⟨q, er⟩, hq⟩ := named (p.put r.off r.after at_)
    rw [if_pos hc, ← hq.out] at hr
    obtain ⟨hk, hlt⟩ := hc
    have hge : ¬ at_ ≤ p.at_ := by omega
    by_cases h0 : er = 0
    · subst h0
      have hrq : res = q := hr
      subst hrq
      clear hr hres hkd
      rcases hk with rfl | rfl
      all_goals
        go_enter Try.func46, Try.ntmps46
        go_wp2_with (first
          | (go_at_call 40; refine (put_calls p r.off at_ r.after _ (res, 0) hq hp hs ho hn).mono ?_; rintro en w1 ⟨rfl, hc1⟩; have hb1 := hc1.heap hb6.out nob; have hz1 := hc1.size; simp only [World.size_alloc] at hz1; simp only [Pg.val])
          | ((fail_if_success (fail_if_success (with_reducible change wpList _ _ _ (Oper.mk _ (.store 48 _ _) _ _ _ _ :: _) _ _))); refine step_storeRow rfl rfl w1.heap.size rfl rfl (blk_new _ _) (by kernel_rfl) rfl (by simp [Value.oneCell']) ?_; intro w2 hb2 hc2 hs2)
          | ((fail_if_success (fail_if_success (with_reducible change wpList _ _ _ (Oper.mk _ (.load 48 _) _ _ _ _ :: _) _ _))); refine step_loadRow rfl rfl w1.heap.size rfl hb2 Try.underlying48 (by kernel_rfl) ?_)
          | ((fail_if_success (fail_if_success (with_reducible change wpList _ _ _ (Oper.mk _ (.store 48 _ _) _ _ _ _ :: _) _ _))); refine step_storeRow rfl rfl (w.heap.size + 1 + 1) rfl rfl (hc2.heap (blk_alloc hb1 _) (fun x => by have h' : w.heap.size + 1 + 1 = w1.heap.size := x; omega)) (by kernel_rfl) rfl (by simp [Value.oneCell']) ?_; intro w3 hb3 hc3 hs3))
        refine bodyPost_ret (results_cell_row rfl _ _ (w.heap.size + 1 + 1) _ _ _ _ rfl hb3 Try.underlying48 rfl (by kernel_rfl)) rfl ?_
        exact ⟨rfl, (((hcA.out.trans' hc1).alloc _).new hc2 (fun i x => by have h' : i = w1.heap.size := x; omega)).new hc3 (fun i x => by have h' : i = w.heap.size + 1 + 1 := x; omega)⟩
    · rw [if_neg h0] at hr
      subst hr
      clear hres hkd
      rcases hk with rfl | rfl
      all_goals
        go_enter Try.func46, Try.ntmps46
        go_wp2_with (first
          | (go_at_call 40; refine (put_calls res r.off at_ r.after _ (q, er) hq hp hs ho hn).mono ?_; rintro en w1 ⟨rfl, hc1⟩; have hb1 := hc1.heap hb6.out nob; have hb9 := hc1.heap hb0.out nob; have hz1 := hc1.size; simp only [World.size_alloc] at hz1; simp only [Pg.val])
          | ((fail_if_success (fail_if_success (with_reducible change wpList _ _ _ (Oper.mk _ (.store 48 _ _) _ _ _ _ :: _) _ _))); refine step_storeRow rfl rfl w1.heap.size rfl rfl (blk_new _ _) (by kernel_rfl) rfl (by simp [Value.oneCell']) ?_; intro w2 hb2 hc2 hs2)
          | ((fail_if_success (fail_if_success (with_reducible change wpList _ _ _ (Oper.mk _ (.load 48 _) _ _ _ _ :: _) _ _))); refine step_loadRow rfl rfl w.heap.size rfl (hc2.heap (blk_alloc hb9 _) (fun x => by have h' : w.heap.size = w1.heap.size := x; omega)) Try.underlying48 (by kernel_rfl) ?_)
          | ((fail_if_success (fail_if_success (with_reducible change wpList _ _ _ (Oper.mk _ (.store 48 _ _) _ _ _ _ :: _) _ _))); refine step_storeRow rfl rfl (w.heap.size + 1 + 1) rfl rfl (hc2.heap (blk_alloc hb1 _) (fun x => by have h' : w.heap.size + 1 + 1 = w1.heap.size := x; omega)) (by kernel_rfl) rfl (by simp [Value.oneCell']) ?_; intro w3 hb3 hc3 hs3))
        refine bodyPost_ret (results_cell_row rfl _ _ (w.heap.size + 1 + 1) _ _ _ _ rfl hb3 Try.underlying48 rfl (by kernel_rfl)) rfl ?_
        exact ⟨rfl, (((hcA.out.trans' hc1).alloc _).new hc2 (fun i x => by have h' : i = w1.heap.size := x; omega)).new hc3 (fun i x => by have h' : i = w.heap.size + 1 + 1 := x; omega)⟩
  · rw [if_neg hc] at hr
    subst hr
    clear hres hkd
    have hcs : (¬ kd = 1 ∧ ¬ kd = 2) ∨ (kd = 1 ∧ at_ ≤ res.at_) ∨ (kd = 2 ∧ at_ ≤ res.at_) := by omega
    clear hc
    rcases hcs with ⟨h1, h2⟩ | ⟨rfl, h1⟩ | ⟨rfl, h1⟩
    all_goals
      go_enter Try.func46, Try.ntmps46
      go_wp2_with ((fail_if_success (fail_if_success (with_reducible change wpList _ _ _ (Oper.mk _ (.store 48 _ _) _ _ _ _ :: _) _ _))); refine step_storeRow rfl rfl (w.heap.size + 1 + 1) rfl rfl hb6.out (by kernel_rfl) rfl (by simp [Value.oneCell']) ?_; intro w3 hb3 hc3 hs3)
      refine bodyPost_ret (results_cell_row rfl _ _ (w.heap.size + 1 + 1) _ _ _ _ rfl hb3 Try.underlying48 rfl (by kernel_rfl)) rfl ?_
      exact ⟨rfl, hcA.out.new hc3 (fun i x => by have h' : i = w.heap.size + 1 + 1 := x; omega)⟩
end Go.Proofs.Ytekjchphlphecaa

namespace Go.Proofs.Ytekjchphlphecaa
open Go.RowKit Go.ChangeMaps Go.MapKept
set_option linter.unusedVariables false
set_option linter.unusedSimpArgs false
set_option maxHeartbeats 8000000

/-- A record's cells are its value's. -/
theorem ent_cells {w : World} {eb : Nat} {x : Ent} {v1 v2 : Value} {t : TypeId} (h : w.heap[eb]? = some (.cells (encE (x, v1, v2)).toArray t (0, 0))) :
    w.cell? ⟨eb, 0, none⟩ = some (.int .i64 x.at_) ∧ ∀ j v, (x.r.cs v1 v2)[j]? = some v → w.cell? ⟨eb, 1 + j, none⟩ = some v := by
  refine ⟨by rw [cell_blk h]; rfl, fun j v hv => ?_⟩
  rw [cell_blk h, List.getElem?_toArray, Nat.add_comm]
  exact hv

set_option maxRecDepth 100000 in
theorem takef_calls (p : Pg) (x : Ent) (eb : Nat) (v1 v2 : Value) (w : World) (t : TypeId) (he : w.heap[eb]? = some (.cells (encE (x, v1, v2)).toArray t (0, 0))) (res : Pg) (hres : Hid (res = p.apply x.at_ x.r)) (hp : p.data.size ≤ 2 ^ 62) (hs : x.r.after.size ≤ 2 ^ 62) (ho : fits x.r.off) (hn : fits x.at_) :
    Calls Try.prog 45 #[.agg #[.int .i64 p.at_, .string p.data], .pointer (some ⟨eb, 0, none⟩)] w fun e w' => e = .returned (.agg #[.int .i64 res.at_, .string res.data]) ∧ Chg NoB w w' := by
  have hA : Hid (Chg NoB w ((w.alloc (.cells #[.int .i64 p.at_, .string p.data] 48)).alloc (.cells #[.int .i64 0, .string ⟨#[]⟩] 48))) := hid (((Chg.refl NoB w).alloc _).alloc _)
  obtain ⟨c0, cr⟩ := ent_cells (hA.out.heap he nob)
  have hb3 : ((w.alloc (.cells #[.int .i64 p.at_, .string p.data] 48)).alloc (.cells #[.int .i64 0, .string ⟨#[]⟩] 48)).heap[w.heap.size + 1]? = some (.cells #[.int .i64 0, .string ⟨#[]⟩] 48 (0, 0)) := heap_alloc2_new _ _ _
  replace hb3 := hid hb3
  replace cr := hid cr
  clear he
  go_enter Try.func45, Try.ntmps45
  go_wp2_with (first
    | ((fail_if_success (fail_if_success (with_reducible change wpList _ _ _ (Oper.mk _ (.load 55 _) _ _ _ _ :: _) _ _))); refine step_loadAt rfl rfl eb 1 rfl (x.r.cs v1 v2) cr.out Try.underlying55 (by kernel_rfl) ?_)
    | (go_at_call 46; refine (apply_calls p x.at_ x.r v1 v2 _ res hres hp hs ho hn).mono ?_; rintro en w1 ⟨rfl, hc1⟩; have hb1 := hc1.heap hb3.out nob)
    | ((fail_if_success (fail_if_success (with_reducible change wpList _ _ _ (Oper.mk _ (.store 48 _ _) _ _ _ _ :: _) _ _))); refine step_storeRow rfl rfl (w.heap.size + 1) rfl rfl hb1 (by kernel_rfl) rfl (by simp [Value.oneCell']) ?_; intro w3 hb3 hc3 hs3))
  refine bodyPost_ret (results_cell_row rfl _ _ (w.heap.size + 1) _ _ _ _ rfl hb3 Try.underlying48 rfl (by kernel_rfl)) rfl ?_
  exact ⟨rfl, (hA.out.trans' hc1).new hc3 (fun i x => by have h' : i = w.heap.size + 1 := x; omega)⟩

/-- What Promote does to a page. -/
def Pg.undo (p : Pg) (r : Rec) : Pg := let q := p.put r.off r.after p.at_; if q.2 = 0 then q.1 else p
theorem undo_size (p : Pg) (r : Rec) (h : p.data.size ≤ 220) : (p.undo r).data.size ≤ 220 := by
  unfold Pg.undo
  dsimp only
  split
  · exact put_size _ _ _ _
  · exact h

set_option maxRecDepth 100000 in
theorem promf_calls (p : Pg) (r : Rec) (rb : Nat) (v1 v2 : Value) (w : World) (t : TypeId) (he : w.heap[rb]? = some (.cells (r.cs v1 v2).toArray t (0, 0))) (res : Pg) (hres : Hid (res = p.undo r)) (hp : p.data.size ≤ 2 ^ 62) (hs : r.after.size ≤ 2 ^ 62) (ho : fits r.off) (hn : fits p.at_) :
    Calls Try.prog 39 #[.agg #[.int .i64 p.at_, .string p.data], .pointer (some ⟨rb, 0, none⟩)] w fun e w' => e = .returned (.agg #[.int .i64 res.at_, .string res.data]) ∧ Chg NoB w w' := by
  have hA : Hid (Chg NoB w ((w.alloc (.cells #[.int .i64 p.at_, .string p.data] 48)).alloc (.cells #[.int .i64 0, .string ⟨#[]⟩] 48))) := hid (((Chg.refl NoB w).alloc _).alloc _)
  have hE := hA.out.heap he nob
  have c3 : ((w.alloc (.cells #[.int .i64 p.at_, .string p.data] 48)).alloc (.cells #[.int .i64 0, .string ⟨#[]⟩] 48)).cell? ⟨rb, 3, none⟩ = some (.int .i64 r.off) := by rw [cell_blk hE]; rfl
  have c8 : ((w.alloc (.cells #[.int .i64 p.at_, .string p.data] 48)).alloc (.cells #[.int .i64 0, .string ⟨#[]⟩] 48)).cell? ⟨rb, 8, none⟩ = some (.string r.after) := by rw [cell_blk hE]; rfl
  have hb3 : ((w.alloc (.cells #[.int .i64 p.at_, .string p.data] 48)).alloc (.cells #[.int .i64 0, .string ⟨#[]⟩] 48)).heap[w.heap.size + 1]? = some (.cells #[.int .i64 0, .string ⟨#[]⟩] 48 (0, 0)) := heap_alloc2_new _ _ _
  have hb2 : ((w.alloc (.cells #[.int .i64 p.at_, .string p.data] 48)).alloc (.cells #[.int .i64 0, .string ⟨#[]⟩] 48)).heap[w.heap.size]? = some (.cells #[.int .i64 p.at_, .string p.data] 48 (0, 0)) := heap_alloc2_old _ _ _
  replace hb3 := hid hb3
  replace hb2 := hid hb2
  obtain ⟨⟨q, er⟩, hq⟩ := named (p.put r.off r.after p.at_)
  have hr := hres.out
  unfold Pg.undo at hr
  rw [← hq.out] at hr
  dsimp only at hr
  clear he hE hres
  by_cases h0 : er = 0
  · subst h0
    have hrq : res = q := hr
    subst hrq
    clear hr
    go_enter Try.func39, Try.ntmps39
    go_wp2_with (first
      | (go_at_call 40; refine (put_calls p r.off p.at_ r.after _ (res, 0) hq hp hs ho hn).mono ?_; rintro en w1 ⟨rfl, hc1⟩; have hb1 := hc1.heap hb3.out nob; have hb9 := hc1.heap hb2.out nob; have hz1 := hc1.size; simp only [World.size_alloc] at hz1; simp only [Pg.val])
      | ((fail_if_success (fail_if_success (with_reducible change wpList _ _ _ (Oper.mk _ (.store 48 _ _) _ _ _ _ :: _) _ _))); refine step_storeRow rfl rfl w1.heap.size rfl rfl (blk_new _ _) (by kernel_rfl) rfl (by simp [Value.oneCell']) ?_; intro w2 hb2 hc2 hs2)
      | ((fail_if_success (fail_if_success (with_reducible change wpList _ _ _ (Oper.mk _ (.load 48 _) _ _ _ _ :: _) _ _))); refine step_loadRow rfl rfl w1.heap.size rfl hb2 Try.underlying48 (by kernel_rfl) ?_)
      | ((fail_if_success (fail_if_success (with_reducible change wpList _ _ _ (Oper.mk _ (.store 48 _ _) _ _ _ _ :: _) _ _))); refine step_storeRow rfl rfl (w.heap.size + 1) rfl rfl (hc2.heap (blk_alloc hb1 _) (fun x => by have h' : w.heap.size + 1 = w1.heap.size := x; omega)) (by kernel_rfl) rfl (by simp [Value.oneCell']) ?_; intro w3 hb3 hc3 hs3))
    refine bodyPost_ret (results_cell_row rfl _ _ (w.heap.size + 1) _ _ _ _ rfl hb3 Try.underlying48 rfl (by kernel_rfl)) rfl ?_
    exact ⟨rfl, (((hA.out.trans' hc1).alloc _).new hc2 (fun i x => by have h' : i = w1.heap.size := x; omega)).new hc3 (fun i x => by have h' : i = w.heap.size + 1 := x; omega)⟩
  · rw [if_neg h0] at hr
    subst hr
    go_enter Try.func39, Try.ntmps39
    go_wp2_with (first
      | (go_at_call 40; refine (put_calls res r.off res.at_ r.after _ (q, er) hq hp hs ho hn).mono ?_; rintro en w1 ⟨rfl, hc1⟩; have hb1 := hc1.heap hb3.out nob; have hb9 := hc1.heap hb2.out nob; have hz1 := hc1.size; simp only [World.size_alloc] at hz1; simp only [Pg.val])
      | ((fail_if_success (fail_if_success (with_reducible change wpList _ _ _ (Oper.mk _ (.store 48 _ _) _ _ _ _ :: _) _ _))); refine step_storeRow rfl rfl w1.heap.size rfl rfl (blk_new _ _) (by kernel_rfl) rfl (by simp [Value.oneCell']) ?_; intro w2 hb22 hc2 hs2)
      | ((fail_if_success (fail_if_success (with_reducible change wpList _ _ _ (Oper.mk _ (.load 48 _) _ _ _ _ :: _) _ _))); refine step_loadRow rfl rfl w.heap.size rfl (hc2.heap (blk_alloc hb9 _) (fun x => by have h' : w.heap.size = w1.heap.size := x; omega)) Try.underlying48 (by kernel_rfl) ?_)
      | ((fail_if_success (fail_if_success (with_reducible change wpList _ _ _ (Oper.mk _ (.store 48 _ _) _ _ _ _ :: _) _ _))); refine step_storeRow rfl rfl (w.heap.size + 1) rfl rfl (hc2.heap (blk_alloc hb1 _) (fun x => by have h' : w.heap.size + 1 = w1.heap.size := x; omega)) (by kernel_rfl) rfl (by simp [Value.oneCell']) ?_; intro w3 hb3 hc3 hs3))
    refine bodyPost_ret (results_cell_row rfl _ _ (w.heap.size + 1) _ _ _ _ rfl hb3 Try.underlying48 rfl (by kernel_rfl)) rfl ?_
    exact ⟨rfl, (((hA.out.trans' hc1).alloc _).new hc2 (fun i x => by have h' : i = w1.heap.size := x; omega)).new hc3 (fun i x => by have h' : i = w.heap.size + 1 := x; omega)⟩
end Go.Proofs.Ytekjchphlphecaa

namespace Go.Proofs.Ytekjchphlphecaa
open Go.RowKit Go.ChangeMaps Go.MapKept
set_option linter.unusedVariables false
set_option linter.unusedSimpArgs false
set_option maxHeartbeats 8000000

set_option maxRecDepth 100000 in
theorem set_take (g m c : Nat) (PL : List Pg) (post : List Value) (t : TypeId) (n : Int) (x : Ent) (eb : Nat) (v1 v2 : Value) (te : TypeId) (w : World) (hg : w.heap[g]? = some (.cells (pgsC PL ++ post).toArray t (0, 0))) (hl : PL.length = m) (hc : m ≤ c) (h8 : m ≤ 8) (hP : ∀ q ∈ PL, q.data.size ≤ 220) (he : w.heap[eb]? = some (.cells (encE (x, v1, v2)).toArray te (0, 0))) (hs : x.r.after.size ≤ 2 ^ 62) (ho : fits x.r.off) (hn : fits x.at_) (res : List Pg) (hres : Hid (res = pSet PL n (fun p => p.apply x.at_ x.r))) :
    Calls Try.prog 38 #[.slice (some ⟨g, 0, none⟩) m c, .int .i64 n, .func (.func 45) #[] #[.pointer (some ⟨eb, 0, none⟩)]] w fun e w' => e = .returned (.tuple #[]) ∧ w'.heap[g]? = some (.cells (pgsC res ++ post).toArray t (0, 0)) ∧ Chg (OneB g) w w' := by
  have HG := hid hg
  have HE := hid he
  have HR := hid hres.out
  clear he
  subst hl
  by_cases hp : n < 0 ∨ (PL.length : Int) ≤ n
  · have HX := hid (show res = PL by rw [HR.out]; unfold pSet; rw [if_pos hp])
    by_cases h0 : n < 0
    · go_enter Try.func38, Try.ntmps38
      go_wp2
      go_end0
      exact ⟨rfl, by rw [HX.out]; exact HG.out, Chg.refl _ _⟩
    · have h1 : (PL.length : Int) ≤ n := by omega
      go_enter Try.func38, Try.ntmps38
      go_wp2
      go_end0
      exact ⟨rfl, by rw [HX.out]; exact HG.out, Chg.refl _ _⟩
  · obtain ⟨k, rfl⟩ := Int.eq_ofNat_of_zero_le (show 0 ≤ n by omega)
    have hkl : k < PL.length := by omega
    have hk0 : (0 : Int) ≤ (k : Int) := by omega
    have hk1 : (k : Int) < (PL.length : Int) := by omega
    obtain ⟨q, hq⟩ := named PL[k]
    obtain ⟨q2, hq2⟩ := named ((fun p => p.apply x.at_ x.r) q)
    have HX := hid (show res = PL.set k q2 by rw [HR.out]; unfold pSet; rw [if_neg hp, Int.toNat_natCast, getD_at PL k hkl, hq2.out, hq.out])
    obtain ⟨d1, d2⟩ := pg_cells (pre := []) (post := post) (by simpa using hg) k hkl
    simp only [List.length_nil, Nat.zero_add] at d1 d2
    have hcs : Hid (∀ j v, (encP q)[j]? = some v → w.cell? ⟨g, k * 2 + j, none⟩ = some v) := hid (by
      rw [← hq.out] at d1 d2
      intro j v hv
      match j, hv with
      | 0, hv => cases hv; exact d1
      | 1, hv => cases hv; exact d2)
    have hqs : q.data.size ≤ 2 ^ 62 := by rw [hq.out]; have := hP _ (List.getElem_mem hkl); omega
    have hlen : Hid ((pgsC PL ++ post).length = PL.length * 2 + post.length) := hid (by simp [pgsC_len])
    clear hg hp d1 d2 hres hP
    go_enter Try.func38, Try.ntmps38
    go_wp2_with (first
      | ((fail_if_success (fail_if_success (with_reducible change wpList _ _ _ (Oper.mk _ (.load 48 _) _ _ _ _ :: _) _ _))); refine step_loadAt rfl rfl g (k * 2) rfl (encP q) hcs.out Try.underlying48 (by kernel_rfl) ?_)
      | (go_at_call 45; refine (takef_calls q x eb v1 v2 _ te HE.out q2 hq2 hqs hs ho hn).mono ?_; rintro en w1 ⟨rfl, hc1⟩; have hb1 := hc1.heap HG.out nob)
      | ((fail_if_success (fail_if_success (with_reducible change wpList _ _ _ (Oper.mk _ (.store 48 _ _) _ _ _ _ :: _) _ _))); refine step_storeAt rfl rfl g (k * 2) (cells := encP q2) rfl rfl hb1 (by kernel_rfl) (by rw [hlen.out]; simp [encP]; omega) (by simp [encP, Value.oneCell']) ?_; intro w3 hb3 hc3 hs3))
    go_end0
    have hsp := pg_splice [] post PL k q2 hkl
    simp only [List.length_nil, Nat.zero_add, List.nil_append] at hsp
    exact ⟨rfl, by rw [hb3, HX.out, hsp], (hc1.mono fun _ e => e.elim).trans' hc3⟩

set_option maxRecDepth 100000 in
theorem set_prom (g m c : Nat) (PL : List Pg) (post : List Value) (t : TypeId) (n : Int) (r : Rec) (rb : Nat) (v1 v2 : Value) (te : TypeId) (w : World) (hg : w.heap[g]? = some (.cells (pgsC PL ++ post).toArray t (0, 0))) (hl : PL.length = m) (hc : m ≤ c) (h8 : m ≤ 8) (hP : ∀ q ∈ PL, q.data.size ≤ 220) (he : w.heap[rb]? = some (.cells (r.cs v1 v2).toArray te (0, 0))) (hs : r.after.size ≤ 2 ^ 62) (ho : fits r.off) (hA : ∀ q ∈ PL, fits q.at_) (res : List Pg) (hres : Hid (res = pSet PL n (fun p => p.undo r))) :
    Calls Try.prog 38 #[.slice (some ⟨g, 0, none⟩) m c, .int .i64 n, .func (.func 39) #[] #[.pointer (some ⟨rb, 0, none⟩)]] w fun e w' => e = .returned (.tuple #[]) ∧ w'.heap[g]? = some (.cells (pgsC res ++ post).toArray t (0, 0)) ∧ Chg (OneB g) w w' := by
  have HG := hid hg
  have HE := hid he
  have HR := hid hres.out
  clear he
  subst hl
  by_cases hp : n < 0 ∨ (PL.length : Int) ≤ n
  · have HX := hid (show res = PL by rw [HR.out]; unfold pSet; rw [if_pos hp])
    by_cases h0 : n < 0
    · go_enter Try.func38, Try.ntmps38
      go_wp2
      go_end0
      exact ⟨rfl, by rw [HX.out]; exact HG.out, Chg.refl _ _⟩
    · have h1 : (PL.length : Int) ≤ n := by omega
      go_enter Try.func38, Try.ntmps38
      go_wp2
      go_end0
      exact ⟨rfl, by rw [HX.out]; exact HG.out, Chg.refl _ _⟩
  · obtain ⟨k, rfl⟩ := Int.eq_ofNat_of_zero_le (show 0 ≤ n by omega)
    have hkl : k < PL.length := by omega
    have hk0 : (0 : Int) ≤ (k : Int) := by omega
    have hk1 : (k : Int) < (PL.length : Int) := by omega
    obtain ⟨q, hq⟩ := named PL[k]
    obtain ⟨q2, hq2⟩ := named ((fun p => p.undo r) q)
    have HX := hid (show res = PL.set k q2 by rw [HR.out]; unfold pSet; rw [if_neg hp, Int.toNat_natCast, getD_at PL k hkl, hq2.out, hq.out])
    obtain ⟨d1, d2⟩ := pg_cells (pre := []) (post := post) (by simpa using hg) k hkl
    simp only [List.length_nil, Nat.zero_add] at d1 d2
    have hcs : Hid (∀ j v, (encP q)[j]? = some v → w.cell? ⟨g, k * 2 + j, none⟩ = some v) := hid (by
      rw [← hq.out] at d1 d2
      intro j v hv
      match j, hv with
      | 0, hv => cases hv; exact d1
      | 1, hv => cases hv; exact d2)
    have hqs : q.data.size ≤ 2 ^ 62 := by rw [hq.out]; have := hP _ (List.getElem_mem hkl); omega
    have hlen : Hid ((pgsC PL ++ post).length = PL.length * 2 + post.length) := hid (by simp [pgsC_len])
    have hqa : fits q.at_ := by rw [hq.out]; exact hA _ (List.getElem_mem hkl)
    clear hA
    clear hg hp d1 d2 hres hP
    go_enter Try.func38, Try.ntmps38
    go_wp2_with (first
      | ((fail_if_success (fail_if_success (with_reducible change wpList _ _ _ (Oper.mk _ (.load 48 _) _ _ _ _ :: _) _ _))); refine step_loadAt rfl rfl g (k * 2) rfl (encP q) hcs.out Try.underlying48 (by kernel_rfl) ?_)
      | (go_at_call 39; refine (promf_calls q r rb v1 v2 _ te HE.out q2 hq2 hqs hs ho hqa).mono ?_; rintro en w1 ⟨rfl, hc1⟩; have hb1 := hc1.heap HG.out nob)
      | ((fail_if_success (fail_if_success (with_reducible change wpList _ _ _ (Oper.mk _ (.store 48 _ _) _ _ _ _ :: _) _ _))); refine step_storeAt rfl rfl g (k * 2) (cells := encP q2) rfl rfl hb1 (by kernel_rfl) (by rw [hlen.out]; simp [encP]; omega) (by simp [encP, Value.oneCell']) ?_; intro w3 hb3 hc3 hs3))
    go_end0
    have hsp := pg_splice [] post PL k q2 hkl
    simp only [List.length_nil, Nat.zero_add, List.nil_append] at hsp
    exact ⟨rfl, by rw [hb3, HX.out, hsp], (hc1.mono fun _ e => e.elim).trans' hc3⟩
end Go.Proofs.Ytekjchphlphecaa
