import Derived.Test.YtipmchdogdemjaaAnSpec
import Derived.Test.YtipmchdogdemjaaCell
import Derived.Test.YtipmchdogdemjaaReg
namespace Go.Proofs.Ytipmchdogdemjaa
open Go.RowKit Go.ChangeMaps Go.MapKept
set_option linter.unusedVariables false

def VRow (x : Row3) : Value := .agg #[.int .i64 x.1, .int .i64 x.2.1, .int .i64 x.2.2]
/-- The tables, as they are gathered. -/
structure AnAt (w : World) (p rt rp : Nat) (c : Int) (s : AT) : Prop where
  blk : w.heap[p]? = some (.cells #[.int .i64 c, .map (some rt), .map (some rp)] 52 (0, 0))
  mt : MapI w rt VRow s.T
  mp : MapI w rp (Value.int .i64) s.G
  ne : p ≠ rt ∧ p ≠ rp ∧ rt ≠ rp
def AnB (rt rp : Nat) : Nat → Prop := fun k => k = rt ∨ k = rp

theorem AnAt.keep {w w' : World} {p rt rp : Nat} {c : Int} {s : AT} {S : Nat → Prop} (h : AnAt w p rt rp c s) (hc : Chg S w w') (h1 : ¬ S p) (h2 : ¬ S rt) (h3 : ¬ S rp) : AnAt w' p rt rp c s :=
  ⟨hc.heap h.blk h1, h.mt.chg hc h2, h.mp.chg hc h3, h.ne⟩
theorem AnAt.keep0 {w w' : World} {p rt rp : Nat} {c : Int} {s : AT} (h : AnAt w p rt rp c s) (hc : Chg NoB w w') : AnAt w' p rt rp c s := h.keep hc (fun e => e) (fun e => e) (fun e => e)
theorem AnAt.cells {w : World} {p rt rp : Nat} {c : Int} {s : AT} (h : AnAt w p rt rp c s) : w.cell? ⟨p, 0, none⟩ = some (.int .i64 c) ∧ w.cell? ⟨p, 1, none⟩ = some (.map (some rt)) ∧ w.cell? ⟨p, 2, none⟩ = some (.map (some rp)) := by
  refine ⟨?_, ?_, ?_⟩ <;> rw [cell_blk h.blk] <;> rfl
theorem AnAt.putT {w w' : World} {p rt rp : Nat} {c : Int} {s : AT} (h : AnAt w p rt rp c s) {T : List (Int × Row3)} (hm : MapI w' rt VRow T) (hc : Chg (OneB rt) w w') : AnAt w' p rt rp c ⟨T, s.G⟩ :=
  ⟨hc.heap h.blk (fun e => h.ne.1 e), hm, h.mp.chg hc (fun e => h.ne.2.2 e.symm), h.ne⟩
theorem AnAt.putG {w w' : World} {p rt rp : Nat} {c : Int} {s : AT} (h : AnAt w p rt rp c s) {G : List (Int × Int)} (hm : MapI w' rp (Value.int .i64) G) (hc : Chg (OneB rp) w w') : AnAt w' p rt rp c ⟨s.T, G⟩ :=
  ⟨hc.heap h.blk (fun e => h.ne.2.1 e), h.mt.chg hc (fun e => h.ne.2.2 e), hm, h.ne⟩

theorem zero_int (w : World) : (zeroValue 3).run Try.prog w = .ok (.int .i64 0) w := by kernel_rfl
theorem zero_row (w : World) : (zeroValue 44).run Try.prog w = .ok (VRow (0, 0, 0)) w := by kernel_rfl

set_option maxRecDepth 100000 in
set_option maxHeartbeats 4000000 in
theorem page_calls (p rt rp : Nat) (c : Int) (s : AT) (n r : Int) (w : World) (h : AnAt w p rt rp c s) :
    Calls Try.prog 23 #[.pointer (some ⟨p, 0, none⟩), .int .i64 n, .int .i64 r] w fun e w' => e = .returned (.tuple #[]) ∧ AnAt w' p rt rp c ⟨s.T, aPage s.G (n, r)⟩ ∧ Chg (OneB rp) w w' := by
  obtain ⟨c0, c1, c2⟩ := h.cells
  have HH := hid h
  clear h
  cases hm : mget s.G n with
  | none =>
    have HM := hid hm
    clear hm
    go_enter Try.func23, Try.ntmps23
    go_wp2_with (first
      | (at_lookup; refine step_lookup HH.out.mp rfl _ _ 39 3 3 true rfl Try.underlying39 Try.underlying3 (zero_int _) n rfl rfl ?_; rw [HM.out]; simp only [Option.map_none, Option.getD_none, Option.isSome_none, if_true])
      | (at_mapUpdate; refine step_mapUpdate HH.out.mp rfl _ _ _ 39 3 3 rfl Try.underlying39 Try.underlying3 n r rfl rfl rfl ?_; intro w2 hm2 hc2 hs2))
    go_end0
    refine ⟨rfl, HH.out.putG ?_ hc2, hc2⟩
    unfold aPage mrgP
    rw [HM.out]; exact hm2
  | some o =>
    have HM := hid hm
    clear hm
    by_cases hlt : r < o
    · have hmin := hid (show min o r = r by omega)
      go_enter Try.func23, Try.ntmps23
      go_wp2_with (first
        | (at_lookup; refine step_lookup HH.out.mp rfl _ _ 39 3 3 true rfl Try.underlying39 Try.underlying3 (zero_int _) n rfl rfl ?_; rw [HM.out]; simp only [Option.map_some, Option.getD_some, Option.isSome_some, if_true])
        | (at_mapUpdate; refine step_mapUpdate HH.out.mp rfl _ _ _ 39 3 3 rfl Try.underlying39 Try.underlying3 n r rfl rfl rfl ?_; intro w2 hm2 hc2 hs2))
      go_end0
      refine ⟨rfl, HH.out.putG ?_ hc2, hc2⟩
      unfold aPage mrgP
      rw [HM.out]; dsimp only; rw [hmin.out]; exact hm2
    · have hmin := hid (show min o r = o by omega)
      go_enter Try.func23, Try.ntmps23
      go_wp2_with (first
        | (at_lookup; refine step_lookup HH.out.mp rfl _ _ 39 3 3 true rfl Try.underlying39 Try.underlying3 (zero_int _) n rfl rfl ?_; rw [HM.out]; simp only [Option.map_some, Option.getD_some, Option.isSome_some, if_true])
        | (at_mapUpdate; refine step_mapUpdate HH.out.mp rfl _ _ _ 39 3 3 rfl Try.underlying39 Try.underlying3 n o rfl rfl rfl ?_; intro w2 hm2 hc2 hs2))
      go_end0
      refine ⟨rfl, HH.out.putG ?_ hc2, hc2⟩
      unfold aPage mrgP
      rw [HM.out]; dsimp only; rw [hmin.out]; exact hm2

/-- A row's cells. -/
def rowO (x : Row3) : Obj := .cells #[.int .i64 x.1, .int .i64 x.2.1, .int .i64 x.2.2] 44

set_option maxRecDepth 100000 in
set_option maxHeartbeats 8000000 in
theorem txn_calls (p rt rp : Nat) (c : Int) (s : AT) (x : Row3) (w : World) (h : AnAt w p rt rp c s) :
    Calls Try.prog 22 #[.pointer (some ⟨p, 0, none⟩), VRow x] w fun e w' => e = .returned (.tuple #[]) ∧ AnAt w' p rt rp c ⟨aTxn s.T x, s.G⟩ ∧ Chg (OneB rt) w w' := by
  obtain ⟨c0, c1, c2⟩ := h.cells
  have HH := hid h
  clear h
  obtain ⟨x1, x2, x3⟩ := x
  unfold VRow
  dsimp only
  have b1 := World.new_ne w ⟨p, 1, none⟩ c1
  have b2 : w.heap.size + 1 ≠ p := by have := lt_of_block HH.out.blk; omega
  have HA := hid (HH.out.mt.chg ((Chg.refl NoB w).alloc (.cells #[.int .i64 x1, .int .i64 x2, .int .i64 x3] 44)) (fun e => e))
  cases hm : mget s.T x1 with
  | none =>
    have HM := hid hm
    clear hm
    go_enter Try.func22, Try.ntmps22
    have HS : Hid (∀ w' : World, Chg NoB (w.alloc (.cells #[.int .i64 x1, .int .i64 x2, .int .i64 x3] 44)) w' → w'.cell? ⟨p, 1, none⟩ = some (.map (some rt)) ∧ w'.cell? ⟨w.heap.size, 0, none⟩ = some (.int .i64 x1) ∧ (Instr.lookup 50 (.map (some rt)) (.int .i64 x1) true).run Try.prog w' = .ok (.tuple #[.agg #[.int .i64 0, .int .i64 0, .int .i64 0], .bool false]) w') := hid (fun w' hw => by
      refine ⟨hw.cell (((Chg.refl NoB w).alloc _).cell c1 (fun e => e)) (fun e => e), hw.cell (by rw [cell_blk (blk_new _ _)]; rfl) (fun e => e), ?_⟩
      have := (HA.out.chg hw (fun e => e)).lookup (P := Try.prog) Try.underlying50 Try.underlying3 (zero_row _) x1 true
      rw [HM.out] at this
      simpa [VRow] using this)
    go_wp2
    go_region_held3 (fun w' => w'.cell? ⟨p, 1, none⟩ = some (.map (some rt)) ∧ w'.cell? ⟨w.heap.size, 0, none⟩ = some (.int .i64 x1) ∧ (Instr.lookup 50 (.map (some rt)) (.int .i64 x1) true).run Try.prog w' = .ok (.tuple #[.agg #[.int .i64 0, .int .i64 0, .int .i64 0], .bool false]) w') (first | exact HS.out _ ((Chg.refl NoB _).drew) | exact HS.out _ (((Chg.refl NoB _).drew).alloc _)) (fail)
    all_goals
      go_wp2
      (refine wp_region_tail 7 (by kernel_rfl) (by kernel_rfl) ?_; simp only [List.take_succ_cons, List.take_zero, List.drop_succ_cons, List.drop_zero]; (repeat still_step); refine wpStill_nil ?_; change wpList _ _ _ _ _ _)
      refine step_mapUpdate ((HA.out.chg ((Chg.refl NoB _).alloc _) nob).drew.drew) rfl _ _ _ 50 3 44 rfl Try.underlying50 Try.underlying3 x1 (x1, x2, x3) rfl rfl rfl ?_
      intro w2 hm2 hc2 hs2
      go_wp2
      go_end0
      have hcc : Chg (OneB rt) w w2 := (((((Chg.refl (OneB rt) w).alloc _).alloc _).drew).drew).trans' hc2
      refine ⟨rfl, HH.out.putT ?_ hcc, hcc⟩
      unfold aTxn mrgT
      rw [HM.out]; exact hm2
  | some o =>
    obtain ⟨o1, o2, o3⟩ := o
    have HM := hid hm
    clear hm
    have HS : Hid (∀ w' : World, Chg NoB (w.alloc (.cells #[.int .i64 x1, .int .i64 x2, .int .i64 x3] 44)) w' → w'.cell? ⟨p, 1, none⟩ = some (.map (some rt)) ∧ w'.cell? ⟨w.heap.size, 0, none⟩ = some (.int .i64 x1) ∧ (Instr.lookup 50 (.map (some rt)) (.int .i64 x1) true).run Try.prog w' = .ok (.tuple #[.agg #[.int .i64 o1, .int .i64 o2, .int .i64 o3], .bool true]) w') := hid (fun w' hw => by
      refine ⟨hw.cell (((Chg.refl NoB w).alloc _).cell c1 (fun e => e)) (fun e => e), hw.cell (by rw [cell_blk (blk_new _ _)]; rfl) (fun e => e), ?_⟩
      have := (HA.out.chg hw (fun e => e)).lookup (P := Try.prog) Try.underlying50 Try.underlying3 (zero_row _) x1 true
      rw [HM.out] at this
      simpa [VRow] using this)
    go_wp2
    go_region_held3 (fun w' => w'.cell? ⟨p, 1, none⟩ = some (.map (some rt)) ∧ w'.cell? ⟨w.heap.size, 0, none⟩ = some (.int .i64 x1) ∧ (Instr.lookup 50 (.map (some rt)) (.int .i64 x1) true).run Try.prog w' = .ok (.tuple #[.agg #[.int .i64 o1, .int .i64 o2, .int .i64 o3], .bool true]) w') (first | exact HS.out _ ((Chg.refl NoB _).drew) | exact HS.out _ (((Chg.refl NoB _).drew).alloc _)) (fail)
    all_goals
      go_wp2
      go_region
      go_wp2
      all_goals
        refine wp_gen (fun W => Chg NoB w W ∧ ∃ a b : Int, a = min o2 x2 ∧ b = max o3 x3 ∧ W.heap[w.heap.size]? = some (.cells #[.int .i64 x1, .int .i64 a, .int .i64 b] 44 (0, 0))) ⟨((((Chg.refl NoB w).alloc _).alloc _).drew).drew, _, _, by omega, by omega, blk_alloc (blk_new w _) _⟩ ?_
        rintro W ⟨hcW, a, b, ha, hb, hbW⟩
        have d1 := hcW.cell c1 nob
        have d3 : W.cell? ⟨w.heap.size, 0, none⟩ = some (.int .i64 x1) := by rw [cell_blk hbW]; rfl
        have d4 : W.cell? ⟨w.heap.size, 1, none⟩ = some (.int .i64 a) := by rw [cell_blk hbW]; rfl
        have d5 : W.cell? ⟨w.heap.size, 2, none⟩ = some (.int .i64 b) := by rw [cell_blk hbW]; rfl
        have HA2 := hid ha
        have HB2 := hid hb
        clear ha hb
        (refine wp_region_tail 7 (by kernel_rfl) (by kernel_rfl) ?_; simp only [List.take_succ_cons, List.take_zero, List.drop_succ_cons, List.drop_zero]; (repeat still_step); refine wpStill_nil ?_; change wpList _ _ _ _ _ _)
        refine step_mapUpdate (HH.out.mt.chg hcW.drew nob) rfl _ _ _ 50 3 44 rfl Try.underlying50 Try.underlying3 x1 (x1, a, b) rfl rfl rfl ?_
        intro w2 hm2 hc2 hs2
        go_wp2
        go_end0
        have hcc : Chg (OneB rt) w w2 := ((hcW.mono fun i h => h.elim).drew).trans' hc2
        refine ⟨rfl, HH.out.putT ?_ hcc, hcc⟩
        unfold aTxn mrgT
        rw [HM.out]
        dsimp only
        rw [← HA2.out, ← HB2.out]
        exact hm2
end Go.Proofs.Ytipmchdogdemjaa
