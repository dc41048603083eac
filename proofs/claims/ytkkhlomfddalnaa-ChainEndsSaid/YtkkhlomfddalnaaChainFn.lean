import Derived.Test.YtkkhlomfddalnaaFrom2
namespace Go.Proofs.Ytkkhlomfddalnaa
open Go.RowKit Go.ChangeMaps Go.Shelf
set_option linter.unusedVariables false

attribute [local go_sem] Oper.semAt_some

/-- Chain's own, between two rounds. -/
structure ChI (w : World) (c base : Nat) (pre : List (Int × Rec)) (A : World) : Prop where
  own : ∃ o, A.heap[c]? = some (.cells #[o] 25 (0, 0)) ∧ A.ownsRow base 3 1 o pre.length (pre.map (fun x => Value.int .i64 x.1))
  chg : Chg NoB w A
  size : base ≤ A.heap.size

theorem ownsBase {w : World} {B B' : Nat} {e : TypeId} {size : Nat} {v : Value} {n : Nat} {xs : List Value} (h : w.ownsRow B e size v n xs) (hb : B' ≤ B) : w.ownsRow B' e size v n xs := by
  refine ⟨h.1, ?_⟩
  rcases h.2 with h2 | ⟨g, cap, cur, h3, h4, h5⟩
  · exact .inl h2
  · exact .inr ⟨g, cap, cur, h3, Nat.le_trans hb h4, h5⟩
theorem chgPut {S : Nat → Prop} {a w : World} (h : Chg S a w) {l : Nat} (hl : S l ∨ a.heap.size ≤ l) (o : Obj) : Chg S a (w.putObj l o) :=
  h.trans (T := OneB l) ⟨rfl, rfl, rfl, by simp, fun k _ hk => World.putObj_heap_other hk⟩ fun i hi => by cases hi; exact hl

/-- The result's cell and what its slice owns. -/
def CellB (c : Nat) (A : World) : Nat → Prop := fun k => k = c ∨ ∃ o, A.cell? ⟨c, 0, none⟩ = some o ∧ OwnB o k

set_option maxRecDepth 100000 in
set_option maxHeartbeats 8000000 in
theorem chain_calls (v : Value) (l : List Ent) (txn last : Int) (w : World) (hv : Ents w v l) (hl : l.length ≤ 1000000) :
    Calls Try.prog 10 #[v, .int .i64 txn, .int .i64 last] w fun e w' => IntsErr w w' e (chainOf l txn last) := by
  have HV := hid hv
  have hform : ∃ a n c, v = .slice a n c := by obtain ⟨a, c, rfl, _⟩ := hv; exact ⟨_, _, _, rfl⟩
  obtain ⟨a, n, c, rfl⟩ := hform
  clear hv
  refine (callsIn_wide (n := 3)).1 (callsIn_of_wp_marks Try.func10 rfl trivial ?_ rfl)
  refine wpIn_wide.2 ?_
  simp only [Try.ntmps10, List.size_toArray, List.length_cons, List.length_nil, Nat.reduceAdd, Nat.reduceSub, Array.replicate_succ, Array.replicate_zero, List.push_toArray, List.append_toArray, List.nil_append, List.cons_append]
  have HV1 := hid (HV.out.mono ((Chg.refl NoB w).alloc (.cells #[.slice none 0 0] 25)))
  go_wp2_with (first
    | (go_at_call 22; refine (begin_calls _ l txn _ HV1.out).mono ?_; rintro e w1 ⟨rfl, hwk, hc1⟩; rw [World.size_alloc] at hwk; replace hwk := hid hwk; replace hc1 := hid hc1)
    | (go_at_call 23; refine (from_calls _ last false _ txn none (beginErr l) _ hwk.out).mono ?_; rintro e w2 ⟨rfl, hit, hc2, hs2⟩; replace hc2 := hid hc2; replace hit := hid hit))
  have hq : w.heap.size + 1 < w1.heap.size := lt_of_block hwk.out
  have hq2 : w1.heap.size + 3 ≤ w2.heap.size := by omega
  clear hs2
  have HC2 : Chg NoB w w2 := ((Chg.refl NoB w).alloc _).trans' (hc1.out.trans' hc2.out)
  have HB := hc2.out.heap (hc1.out.heap (blk_new w (.cells #[.slice none 0 0] 25)) (fun e => e)) (fun e => e)
  refine (wpIn_wide (n := 3)).1 (range_walk w (w.heap.size + 1) w1.heap.size (w1.heap.size + 1) (w1.heap.size + 1 + 1) (.slice a n c) l txn none goAll false last (CellB w.heap.size)
    (fun pre A => ChI w w.heap.size (w2.heap.size + 2) pre A) rfl rfl HV.out hl (by omega) (by omega) (by omega) (by omega) (by omega) (by omega) (by omega) HC2 (fun sb h => by cases h)
    ?_ ?_ hit.out (.inl ⟨rfl, rfl⟩) ?_ ?_ ?_ ?_)
  · rintro pre A k ⟨⟨o, h1, h2⟩, h3, h4⟩ hk
    have ho : A.cell? ⟨w.heap.size, 0, none⟩ = some o := by rw [cell_blk h1]; rfl
    have hcs := h3.size
    have hcl := lt_of_block h1
    rcases hk with rfl | ⟨o', h5, h6⟩
    · exact ⟨Nat.le_refl _, by omega, by omega, by omega, by omega, by omega, by omega, by simp, hcl⟩
    · rw [ho] at h5
      cases h5
      have := OwnB.ge h2 k h6
      exact ⟨by omega, by omega, by omega, by omega, by omega, by omega, by omega, by simp, this.2⟩
  · rintro pre A B k ⟨⟨o, h1, h2⟩, h3, h4⟩ hc hk
    have ho : A.cell? ⟨w.heap.size, 0, none⟩ = some o := by rw [cell_blk h1]; rfl
    have ho' : B.cell? ⟨w.heap.size, 0, none⟩ = some o := by rw [cell_blk (hc.heap h1 (by rintro (h | h | h | h) <;> omega))]; rfl
    rcases hk with rfl | ⟨o', h5, h6⟩
    · exact .inl rfl
    · rw [ho'] at h5
      cases h5
      exact .inr ⟨o, ho, h6⟩
  · rintro pre A B ⟨⟨o, h1, h2⟩, h3, h4⟩ hc
    refine ⟨⟨o, hc.heap h1 ?_, ownsRow.chg h2 hc ?_⟩, h3.trans hc ?_, Nat.le_trans h4 hc.size⟩
    · rintro (h | h | h | h) <;> omega
    · intro k hk hh
      have := OwnB.ge h2 k hk
      rcases hh with h | h | h | h <;> omega
    · rintro i (h | h | h | h) <;> (right; omega)
  · intro A hc hs
    exact ⟨⟨_, hc.heap HB (fun e => e), World.ownsRow_nil _ _ _ _⟩, HC2.trans' hc, hs⟩
  · rintro pre p r a1 n1 c1 a2 n2 c2 A ⟨⟨o, h1, h2⟩, h3, h4⟩ hlen ht hsz
    obtain ⟨ao, co, rfl⟩ := ownsForm h2
    have HH1 := hid h1
    have HH2 := hid h2
    have HH3 := hid h3
    clear h1 h2 h3 ht
    gi_wp2
    refine ⟨Chg.refl _ _, fun C hC hs => ?_⟩
    have g1 := hC.heap HH1.out (fun h => by have h' : w.heap.size = w2.heap.size + 1 := h; omega)
    have x0 : C.cell? ⟨w.heap.size, 0, none⟩ = some (.slice ao pre.length co) := by rw [cell_blk g1]; rfl
    have G1 := hid g1
    have G2 := hid (ownsRow.chg HH2.out hC (fun k hk e => by have := OwnB.ge HH2.out k hk; have h' : k = w2.heap.size + 1 := e; omega))
    have HCC := hid hC
    have HS := hid hs
    clear g1 hC hs
    gi_wp2_with (gi_at_builtin; refine stepIn_app1 slInt rfl _ _ rfl (World.ownsRow.alloc G2.out _) rfl C.heap.size [.int .i64 p] rfl (blk_new _ _) rfl rfl (by simp [Value.oneCell']) ?_ ?_ ?_ ?_)
    case _ => omega
    case _ => unfold maxLen; omega
    case _ => have := HS.out; first | omega | (simp; omega)
    intro v' w3 hv3 hc3 hvo hnil
    obtain ⟨av, cv, rfl⟩ := ownsForm hv3
    have hnb : ¬ OwnB (.slice ao pre.length co) w.heap.size := fun e => by have := OwnB.ge G2.out _ e; omega
    have g3 := hc3.heap (blk_alloc G1.out _) hnb
    have z0 : w3.cell? ⟨w.heap.size, 0, none⟩ = some (.slice ao pre.length co) := by rw [cell_blk g3]; rfl
    have z1 := frozen_blk g3 0
    have G3 := hid g3
    have HV3 := hid hv3
    have HC3 := hid hc3
    have HVO := hid hvo
    clear g3 hv3 hc3 x0 hvo
    gi_wp2
    have s1 : Chg NoB w w3 := ((HH3.out.trans HCC.out (fun i hi => by have h' : i = w2.heap.size + 1 := hi; right; omega)).alloc _).trans HC3.out (fun i hi => by have := OwnB.ge G2.out _ hi; right; omega)
    have hcz : Chg (CellB w.heap.size C) C (w3.setCell ⟨w.heap.size, 0, none⟩ (.slice av (pre.length + 1) cv)) := by
      have x0 : C.cell? ⟨w.heap.size, 0, none⟩ = some (.slice ao pre.length co) := by rw [cell_blk G1.out]; rfl
      exact (((Chg.refl (CellB w.heap.size C) C).alloc _).trans HC3.out (fun i hi => .inl (.inr ⟨_, x0, hi⟩))).setCell (.inl (.inl rfl)) _
    refine ⟨⟨⟨.slice av (pre.length + 1) cv, by rw [blk_setCell G3.out]; rfl, ?_⟩, s1.setCell (.inr (Nat.le_refl _)) _, ?_⟩, hcz⟩
    · have := ownsRow.chg HV3.out ((Chg.refl (OneB w.heap.size) w3).setCell (p := ⟨w.heap.size, 0, none⟩) (.inl (OneB.self _)) (.slice av (pre.length + 1) cv)) (fun k hk e => by have := OwnB.ge HV3.out k hk; have h' : k = w.heap.size := e; omega)
      simpa using this
    · have h5 := HC3.out.size
      have h6 := HS.out
      simp at h5
      simp
      omega
  · intro xs er A hend hCh hwk hD
    obtain ⟨⟨o, h1, h2⟩, h3, h4⟩ := hCh
    obtain ⟨ao, co, rfl⟩ := ownsForm h2
    have y0 : A.cell? ⟨w.heap.size, 0, none⟩ = some (.slice ao xs.length co) := by rw [cell_blk h1]; rfl
    have y1 := frozen_blk h1 0
    obtain ⟨k0, k1, k2, k3, _⟩ := hwk.cells
    have H1 := hid h1
    have H2 := hid h2
    have H3 := hid h3
    have HD := hid hD
    clear h1 h2 h3 hD hwk
    cases hee : (er != 0)
    · have he0 : er = 0 := by simpa using hee
      have hx : chainOf l txn last = (xs.map (·.1), 0) := by
        have := hend
        unfold ItEnd at this
        by_cases hr : risesB l = true
        · rw [if_pos hr, he0] at this
          exact orErr_ok hr this
        · rw [if_neg hr] at this
          cases this
          simp at hee
      have HX := hid hx
      clear hx hend
      go_wp2
      have hK : (A.setCell ⟨w.heap.size, 0, none⟩ (.slice ao xs.length co)).heap[w2.heap.size]? = some (.deferred (some [])) := blk_setCell_other HD.out (by simp; omega) _
      refine ⟨by simp, .inl ⟨_, _, rfl, run_takeDeferred hK, ?_⟩⟩
      have hcell : ((A.setCell ⟨w.heap.size, 0, none⟩ (.slice ao xs.length co)).putObj w2.heap.size (.deferred none)).cell? ⟨w.heap.size, 0, none⟩ = some (.slice ao xs.length co) := by
        rw [cell_blk ((World.putObj_heap_other (by omega)).trans (blk_setCell H1.out 0 _))]; rfl
      refine ⟨_, res_cell2 Try.underlying25 rfl rfl _ _ w.heap.size rfl hcell, ?_⟩
      have hcF : Chg (fun k => k = w.heap.size ∨ k = w2.heap.size) A ((A.setCell ⟨w.heap.size, 0, none⟩ (.slice ao xs.length co)).putObj w2.heap.size (.deferred none)) := chgPut ((Chg.refl _ _).setCell (.inl (.inl rfl)) _) (.inl (.inr rfl)) _
      exact IntsErr.ok HX.out (ownsBase (ownsRow.chg H2.out hcF (fun k hk e => by have := OwnB.ge H2.out k hk; rcases e with e | e <;> omega)) (by omega)) (H3.out.trans hcF (fun i hi => by rcases hi with e | e <;> (right; omega))) rfl
    · have he0 : er ≠ 0 := by simpa using hee
      have hx : chainOf l txn last = ([], er) := by
        have := hend
        unfold ItEnd at this
        by_cases hr : risesB l = true
        · rw [if_pos hr] at this
          exact orErr_err hr this he0
        · rw [if_neg hr] at this
          cases this
          exact orErr_form (by simpa using hr)
      have HX := hid hx
      clear hx hend
      go_wp2
      go_region
      all_goals go_wp2
      all_goals have hK : ((A.drew).setCell ⟨w.heap.size, 0, none⟩ (.slice none 0 0)).heap[w2.heap.size]? = some (.deferred (some [])) := blk_setCell_other HD.out (by simp; omega) _
      all_goals refine ⟨by simp, .inl ⟨_, _, rfl, run_takeDeferred hK, ?_⟩⟩
      all_goals have hcell : (((A.drew).setCell ⟨w.heap.size, 0, none⟩ (.slice none 0 0)).putObj w2.heap.size (.deferred none)).cell? ⟨w.heap.size, 0, none⟩ = some (.slice none 0 0) := (by rw [cell_blk ((World.putObj_heap_other (by omega)).trans (blk_setCell (w := A.drew) H1.out 0 _))]; rfl)
      all_goals refine ⟨_, res_cell2 Try.underlying25 rfl rfl _ _ w.heap.size rfl hcell, ?_⟩
      all_goals have hcF : Chg (fun k => k = w.heap.size ∨ k = w2.heap.size) A (((A.drew).setCell ⟨w.heap.size, 0, none⟩ (.slice none 0 0)).putObj w2.heap.size (.deferred none)) := chgPut (((Chg.refl _ _).drew).setCell (.inl (.inl rfl)) _) (.inl (.inr rfl)) _
      all_goals exact IntsErr.nil HX.out (H3.out.trans hcF (fun i hi => by rcases hi with e | e <;> (right; omega))) rfl
end Go.Proofs.Ytkkhlomfddalnaa
