import Derived.Test.YtkkhlomfddalnaaChainFn
import Derived.Test.YtkkhlomfddalnaaRef11Stand
namespace Go.Proofs.Ytkkhlomfddalnaa
open Go.RowKit Go.ChangeMaps Go.Shelf
set_option linter.unusedVariables false

attribute [local go_sem] Oper.semAt_some

/-- Left's own, between two rounds. -/
structure LeI (w : World) (c base : Nat) (pre : List (Int × Rec)) (A : World) : Prop where
  own : A.heap[c]? = some (.cells #[.int .i64 (stands pre).length] 3 (0, 0))
  chg : Chg NoB w A
  size : base ≤ A.heap.size

def leftOf (l : List Ent) (txn last : Int) : Int × Int := if (standOf l txn last).2 = 0 then ((standOf l txn last).1.length, 0) else (0, (standOf l txn last).2)

set_option maxRecDepth 100000 in
set_option maxHeartbeats 8000000 in
theorem left_calls (v : Value) (l : List Ent) (txn last : Int) (w : World) (hv : Ents w v l) (hl : l.length ≤ 1000000) :
    Calls Try.prog 12 #[v, .int .i64 txn, .int .i64 last] w fun e w' => e = .returned (.tuple #[.int .i64 (leftOf l txn last).1, .int .i64 (leftOf l txn last).2]) ∧ Chg NoB w w' := by
  have HV := hid hv
  have hform : ∃ a n c, v = .slice a n c := by obtain ⟨a, c, rfl, _⟩ := hv; exact ⟨_, _, _, rfl⟩
  obtain ⟨a, n, c, rfl⟩ := hform
  clear hv
  refine (callsIn_wide (n := 3)).1 (callsIn_of_wp_marks Try.func12 rfl trivial ?_ rfl)
  refine wpIn_wide.2 ?_
  simp only [Try.ntmps12, List.size_toArray, List.length_cons, List.length_nil, Nat.reduceAdd, Nat.reduceSub, Array.replicate_succ, Array.replicate_zero, List.push_toArray, List.append_toArray, List.nil_append, List.cons_append]
  have HV1 := hid (HV.out.mono ((Chg.refl NoB w).alloc (.cells #[.int .i64 0] 3)))
  go_wp2_with (first
    | (go_at_call 22; refine (begin_calls _ l txn _ HV1.out).mono ?_; rintro e w1 ⟨rfl, hwk, hc1⟩; rw [World.size_alloc] at hwk; replace hwk := hid hwk; replace hc1 := hid hc1)
    | (go_at_call 23; refine (from_calls _ last true _ txn none (beginErr l) _ hwk.out).mono ?_; rintro e w2 ⟨rfl, hit, hc2, hs2⟩; replace hc2 := hid hc2; replace hit := hid hit))
  have hq : w.heap.size + 1 < w1.heap.size := lt_of_block hwk.out
  have hq2 : w1.heap.size + 3 ≤ w2.heap.size := by omega
  clear hs2
  have HC2 : Chg NoB w w2 := ((Chg.refl NoB w).alloc _).trans' (hc1.out.trans' hc2.out)
  have HB := hc2.out.heap (hc1.out.heap (blk_new w (.cells #[.int .i64 0] 3)) (fun e => e)) (fun e => e)
  refine (wpIn_wide (n := 3)).1 (range_walk w (w.heap.size + 1) w1.heap.size (w1.heap.size + 1) (w1.heap.size + 1 + 1) (.slice a n c) l txn none goAll true last (fun _ => OneB w.heap.size)
    (fun pre A => LeI w w.heap.size (w2.heap.size + 2) pre A) rfl rfl HV.out hl (by omega) (by omega) (by omega) (by omega) (by omega) (by omega) (by omega) HC2 (fun sb h => by cases h)
    ?_ ?_ hit.out (.inl ⟨rfl, rfl⟩) ?_ ?_ ?_ ?_)
  · rintro pre A k ⟨h1, h3, h4⟩ hk
    have hcs := h3.size
    have hcl := lt_of_block h1
    have hk' : k = w.heap.size := hk
    subst hk'
    exact ⟨Nat.le_refl _, by omega, by omega, by omega, by omega, by omega, by omega, by simp, hcl⟩
  · rintro pre A B k ⟨h1, h3, h4⟩ hc hk
    exact hk
  · rintro pre A B ⟨h1, h3, h4⟩ hc
    refine ⟨hc.heap h1 ?_, h3.trans hc ?_, Nat.le_trans h4 hc.size⟩
    · rintro (h | h | h | h) <;> omega
    · rintro i (h | h | h | h) <;> (right; omega)
  · intro A hc hs
    exact ⟨hc.heap HB (fun e => e), HC2.trans' hc, hs⟩
  · rintro pre p r a1 n1 c1 a2 n2 c2 A ⟨h1, h3, h4⟩ hlen ht hsz
    have HH1 := hid h1
    have HH3 := hid h3
    clear h1 h3 ht
    gi_wp2_with ((fail_if_success (fail_if_success (with_reducible change wpListIn _ _ _ _ _ (Oper.mk _ (.store 45 _ _) _ _ _ _ :: _) _ _))); refine stepIn_storeRow rfl rfl A.heap.size rfl rfl (blk_new _ _) (by kernel_rfl) rfl (by simp [Value.oneCell']) ?_; intro B hb2 hc2 hs2)
    have cAB : Chg NoB A B := ((Chg.refl NoB A).alloc _).trans hc2 (fun i hi => by have h' : i = A.heap.size := hi; right; omega)
    have hsb := cAB.size
    refine ⟨cAB, fun C hC hs => ?_⟩
    have g0 : C.cell? ⟨A.heap.size, 0, none⟩ = some (.int .i64 r.kind) := by
      rw [cell_blk (hC.heap hb2 (fun h => by have h' : A.heap.size = w2.heap.size + 1 := h; omega))]; rfl
    have g1 := hC.heap (cAB.heap HH1.out (fun e => e)) (fun h => by have h' : w.heap.size = w2.heap.size + 1 := h; omega)
    have x0 : C.cell? ⟨w.heap.size, 0, none⟩ = some (.int .i64 (stands pre).length) := by rw [cell_blk g1]; rfl
    have x1 := frozen_blk g1 0
    have G1 := hid g1
    have HCC := hid hC
    have HS := hid hs
    have hlen2 : (stands pre).length < l.length := Nat.lt_of_le_of_lt (List.length_filter_le _ _) hlen
    have s1 := hid ((HH3.out.trans' cAB).trans hC (fun i hi => by have h' : i = w2.heap.size + 1 := hi; right; omega))
    have CAB := hid cAB
    clear g1 hC hs hb2 hc2 hs2 cAB
    cases hk : (r.kind == 1)
    · gi_wp2
      refine ⟨⟨by rw [stands_no hk]; exact G1.out, s1.out, by have := HS.out; omega⟩, Chg.refl _ _⟩
    · gi_wp2
      refine ⟨⟨?_, s1.out.setCell (.inr (Nat.le_refl _)) _, by have := HS.out; simp; omega⟩, (Chg.refl (OneB w.heap.size) C).setCell (p := ⟨w.heap.size, 0, none⟩) (.inl (OneB.self _)) _⟩
      rw [blk_setCell G1.out, stands_yes hk]
      simp
  · intro xs er A hend hCh hwk hD
    obtain ⟨h1, h3, h4⟩ := hCh
    have y0 : A.cell? ⟨w.heap.size, 0, none⟩ = some (.int .i64 (stands xs).length) := by rw [cell_blk h1]; rfl
    have y1 := frozen_blk h1 0
    obtain ⟨k0, k1, k2, k3, _⟩ := hwk.cells
    have H1 := hid h1
    have H3 := hid h3
    have HD := hid hD
    clear h1 h3 hD hwk
    cases hee : (er != 0)
    · have he0 : er = 0 := by simpa using hee
      have hx : standOf l txn last = ((stands xs).map (·.1), 0) := by
        have := hend
        unfold ItEnd at this
        by_cases hr : risesB l = true
        · rw [if_pos hr, he0] at this
          exact orErr_ok hr this
        · rw [if_neg hr] at this
          cases this
          simp at hee
      have HX := hid hx
      clear hx hend
      go_wp2
      have hK : (A.setCell ⟨w.heap.size, 0, none⟩ (.int .i64 (stands xs).length)).heap[w2.heap.size]? = some (.deferred (some [])) := blk_setCell_other HD.out (by simp; omega) _
      refine ⟨by simp, .inl ⟨_, _, rfl, run_takeDeferred hK, ?_⟩⟩
      have hcell : ((A.setCell ⟨w.heap.size, 0, none⟩ (.int .i64 (stands xs).length)).putObj w2.heap.size (.deferred none)).cell? ⟨w.heap.size, 0, none⟩ = some (.int .i64 (stands xs).length) := by
        rw [cell_blk ((World.putObj_heap_other (by omega)).trans (blk_setCell H1.out 0 _))]; rfl
      refine ⟨_, res_cell2 Try.underlying3 rfl rfl _ _ w.heap.size rfl hcell, ?_⟩
      have hcF : Chg (fun k => k = w.heap.size ∨ k = w2.heap.size) A ((A.setCell ⟨w.heap.size, 0, none⟩ (.int .i64 (stands xs).length)).putObj w2.heap.size (.deferred none)) := chgPut ((Chg.refl _ _).setCell (.inl (.inl rfl)) _) (.inl (.inr rfl)) _
      exact ⟨by simp only [leftOf, HX.out]; simp, H3.out.trans hcF (fun i hi => by rcases hi with e | e <;> (right; omega))⟩
    · have he0 : er ≠ 0 := by simpa using hee
      have hx : standOf l txn last = ([], er) := by
        have := hend
        unfold ItEnd at this
        by_cases hr : risesB l = true
        · rw [if_pos hr] at this
          exact orErr_err hr this he0
        · rw [if_neg hr] at this
          cases this
          exact orErr_form (by simpa using hr)
      have HX := hid hx
      have HE0 := hid he0
      clear hx hend he0
      go_wp2
      go_region
      all_goals go_wp2
      all_goals have hK : ((A.drew).setCell ⟨w.heap.size, 0, none⟩ (.int .i64 0)).heap[w2.heap.size]? = some (.deferred (some [])) := blk_setCell_other HD.out (by simp; omega) _
      all_goals refine ⟨by simp, .inl ⟨_, _, rfl, run_takeDeferred hK, ?_⟩⟩
      all_goals have hcell : (((A.drew).setCell ⟨w.heap.size, 0, none⟩ (.int .i64 0)).putObj w2.heap.size (.deferred none)).cell? ⟨w.heap.size, 0, none⟩ = some (.int .i64 0) := (by rw [cell_blk ((World.putObj_heap_other (by omega)).trans (blk_setCell (w := A.drew) H1.out 0 _))]; rfl)
      all_goals refine ⟨_, res_cell2 Try.underlying3 rfl rfl _ _ w.heap.size rfl hcell, ?_⟩
      all_goals have hcF : Chg (fun k => k = w.heap.size ∨ k = w2.heap.size) A (((A.drew).setCell ⟨w.heap.size, 0, none⟩ (.int .i64 0)).putObj w2.heap.size (.deferred none)) := chgPut (((Chg.refl _ _).drew).setCell (.inl (.inl rfl)) _) (.inl (.inr rfl)) _
      all_goals exact ⟨by simp only [leftOf, HX.out, if_neg HE0.out]; rfl, H3.out.trans hcF (fun i hi => by rcases hi with e | e <;> (right; omega))⟩
end Go.Proofs.Ytkkhlomfddalnaa
