import Derived.Test.YtghklbflbodajaaFrom1
namespace Go.Proofs.Ytghklbflbodajaa
open Go.RowKit Go.ChangeMaps Go.Shelf
set_option linter.unusedVariables false
set_option linter.unusedSimpArgs false
set_option linter.unnecessarySimpa false

attribute [local go_sem] Oper.semAt_some

set_option maxRecDepth 100000 in
theorem from1_form (n : Nat) (q b1 b2 b3 : Nat) (v : Value) (txn : Int) (stop : Option Addr) (g : Int → Bool) (skips : Bool) (last : Int) (lp : Nat) (W : World) (hI : ItAt W q b1 b2 b3 v txn stop 3 last skips) (hS : StopAt W stop g) :
    CallsIn Fence.wide n Try.prog 74 #[.func (.yield lp) #[] #[], .pointer (some ⟨b1, 0, none⟩), .pointer (some ⟨b2, 0, none⟩), .pointer (some ⟨b3, 0, none⟩)] W fun e W' =>
      (∃ u, e = .returned u) ∧ W' = W := by
  have HI := hid hI
  have HS := hid hS
  clear hI hS
  refine callsIn_of_wp Try.func74 rfl trivial ?_ rfl
  simp only [Try.ntmps74, List.size_toArray, List.length_cons, List.length_nil, Nat.reduceAdd, Nat.reduceSub, Array.replicate_succ, Array.replicate_zero, List.push_toArray, List.append_toArray, List.nil_append, List.cons_append]
  gi_wp2
  gi_loopw [7] (fun p wr => wr = W) (fun p wr => 0)
  case atStart => rfl
  case round =>
    subst hrel
    have x1 : wr.cell? ⟨b1, 0, none⟩ = some (.pointer (some ⟨q, 0, none⟩)) := by rw [cell_blk HI.out.box1]; rfl
    have x2 : wr.cell? ⟨b2, 0, none⟩ = some (.int .i64 last) := by rw [cell_blk HI.out.box2]; rfl
    gi_wp2_with (refine ⟨trivial, fun h => (by cases h), ?_⟩; gi_at_call 75; refine (callsIn_wide.2 (on_calls q v txn stop 3 last g _ HI.out.wk HS.out false (by simp [Hid]))).mono ?_; rintro e w' ⟨rfl, rfl⟩)
    go_end0
    exact ⟨⟨_, rfl⟩, rfl⟩

/-- The blocks that turn while the iterator runs, the rounds apart. -/
def RunB (q b2 D : Nat) : Nat → Prop := fun k => k = q ∨ k = b2 ∨ k = D ∨ k = D + 1

/-- A range over a walker's records; no round leaves it. -/
theorem range_walk {n : Nat} {ps : Array Tmp} {gop : Operand} {assign body : Code} {Q : Exit → Act → World → Prop} {a : Act} {w : World}
    (w0 : World) (q b1 b2 b3 : Nat) (v : Value) (l : List Ent) (txn : Int) (stop : Option Addr) (g : Int → Bool) (skips : Bool) (last : Int) (T : World → Nat → Prop) (I : List (Int × Rec) → World → Prop)
    (hg : a.eval gop = .func (.func 74) #[] #[.pointer (some ⟨b1, 0, none⟩), .pointer (some ⟨b2, 0, none⟩), .pointer (some ⟨b3, 0, none⟩)]) (hps : ps.size = 2)
    (hv : Ents w0 v l) (hl : l.length ≤ 1000000)
    (d1 : b1 ≠ q) (d2 : b2 ≠ q) (d3 : b3 ≠ q) (d4 : b1 ≠ b2) (d5 : b3 ≠ b2) (e0 : w0.heap.size ≤ q) (e2 : w0.heap.size ≤ b2)
    (hc0 : Chg NoB w0 w) (hst : ∀ sb, stop = some ⟨sb, 0, none⟩ → sb ≠ q ∧ sb ≠ b2 ∧ sb < w.heap.size)
    (hT : ∀ pre A k, I pre A → T A k → w0.heap.size ≤ k ∧ k ≠ q ∧ k ≠ b1 ∧ k ≠ b2 ∧ k ≠ b3 ∧ k ≠ w.heap.size ∧ k ≠ w.heap.size + 1 ∧ stop ≠ some ⟨k, 0, none⟩ ∧ k < A.heap.size)
    (hTs : ∀ pre A B k, I pre A → Chg (RunB q b2 w.heap.size) A B → T B k → T A k)
    (hI : ItAt w q b1 b2 b3 v txn stop (beginErr l) last skips) (hS : StopAt w stop g)
    (hJ : ∀ pre A B, I pre A → Chg (RunB q b2 w.heap.size) A B → I pre B)
    (h0 : ∀ A, Chg NoB w A → w.heap.size + 2 ≤ A.heap.size → I [] A)
    (hround : ∀ pre p r a1 n1 c1 a2 n2 c2 A, I pre A → pre.length < l.length → Tabs A r (.slice a1 n1 c1) (.slice a2 n2 c2) → w.heap.size + 2 ≤ A.heap.size →
      assign.wpIn (Fence.wide.inRound (w.heap.size + 1)) (n - 1 - 1) Try.prog
        (Exit.then (fun a₁ B => Chg NoB A B ∧ ∀ C, Chg (OneB (w.heap.size + 1)) B C → C.heap.size = B.heap.size →
          body.wpIn (Fence.wide.inRound (w.heap.size + 1)) (n - 1 - 1) Try.prog (fun e _ E => e = .normal ∧ I (pre ++ [(p, r)]) E ∧ Chg (T C) C E) a₁ C) (fun _ _ _ => False))
        { tmps := (ps.zip #[.int .i64 p, .agg #[.int .i64 r.kind, .int .i64 r.txn, .int .i64 r.page, .int .i64 r.off, .int .i64 r.prev, .int .i64 r.next, .int .i64 r.beg, .string r.before, .string r.after, .slice a1 n1 c1, .slice a2 n2 c2]]).foldl (fun t (p, v) => t.setIfInBounds p v) a.tmps, defers := [] } A)
    (hdone : ∀ xs er A, ItEnd l txn g skips last = (xs, er) → I xs A → WkAt A q v txn stop er → A.heap[w.heap.size]? = some (.deferred (some [])) →
      Q .normal { a with defers := { target := .collected w.heap.size, args := #[] } :: a.defers } A) :
    (Code.rangeFunc gop ps assign body).wpIn Fence.wide n Try.prog Q a w := by
  refine wpIn_rangeFunc ?_
  intro fn hfn
  obtain ⟨rec, hrec⟩ : ∃ rec : LoopState → Option Code → Loop, rec = fun st pe => { state := st, pending := pe, fn, tmps := a.tmps, params := ps, assign, body, defers := w.heap.size } := ⟨_, rfl⟩
  obtain ⟨W1, hW1⟩ : ∃ W1, (w.alloc (.deferred (some []))).alloc (.loop (rec .ready none)) = W1 := ⟨_, rfl⟩
  have hL1 : W1.heap[w.heap.size + 1]? = some (.loop (rec .ready none)) := by rw [← hW1]; exact heap_alloc2_new _ _ _
  have hK1 : W1.heap[w.heap.size]? = some (.deferred (some [])) := by rw [← hW1]; exact heap_alloc2_old _ _ _
  have hcw : Chg NoB w W1 := by rw [← hW1]; exact ((Chg.refl _ _).alloc _).alloc _
  have hs1 : W1.heap.size = w.heap.size + 2 := by rw [← hW1]; simp
  refine ⟨w.heap.size + 1, [{ target := .collected w.heap.size, args := #[] }], W1, { target := .fn (.func 74) #[.pointer (some ⟨b1, 0, none⟩), .pointer (some ⟨b2, 0, none⟩), .pointer (some ⟨b3, 0, none⟩)], args := #[.func (.yield (w.heap.size + 1)) #[] #[]] }, W1, 74,
    #[.func (.yield (w.heap.size + 1)) #[] #[], .pointer (some ⟨b1, 0, none⟩), .pointer (some ⟨b2, 0, none⟩), .pointer (some ⟨b3, 0, none⟩)], W1, ?_, ?_, ?_, ?_, fun h => (by cases h), ?_⟩
  · rw [← hW1, hrec]; exact run_enterLoop_outer _ _ _ _ _
  · simp only [resolve, hg]
    simp [go_sem]
  · intro f' hf'; trivial
  · have eg := enters_of Try.func74 (by kernel_rfl) rfl
    simp [invoke, go_sem, eg]
  · have hq : q < w.heap.size := lt_of_block hI.wk
    have hb2 : b2 < w.heap.size := lt_of_block hI.box2
    have hb1 : b1 < w.heap.size := lt_of_block hI.box1
    have hb3 : b3 < w.heap.size := lt_of_block hI.box3
    have hI1 : ItAt W1 q b1 b2 b3 v txn stop (beginErr l) last skips := hI.keep hcw (fun e => e) (fun e => e) (fun e => e) (fun e => e)
    have hS1 : StopAt W1 stop g := hS.keep hcw (fun _ _ e => e)
    have fin : ∀ (e : Ending) (W2 : World), (∃ u, e = .returned u) → ∀ xs er, ItEnd l txn g skips last = (xs, er) → I xs W2 → W2.heap[w.heap.size + 1]? = some (.loop (rec .ready none)) → W2.heap[w.heap.size]? = some (.deferred (some [])) → WkAt W2 q v txn stop er →
        rangePost Fence.wide n Try.prog (w.heap.size + 1) Q { a with defers := [{ target := .collected w.heap.size, args := #[] }] ++ a.defers } e W2 := by
      rintro e W2 ⟨u, rfl⟩ xs er hend hi hl2 hk2 hwk
      have hend2 := run_endLoop (P := Try.prog) hl2 (by rw [hrec]; simp)
      rw [hrec] at hend2
      have hlt : w.heap.size + 1 < W2.heap.size := lt_of_block hl2
      have hcp : ∀ o, Chg (OneB (w.heap.size + 1)) W2 (W2.putObj (w.heap.size + 1) o) := fun o => ⟨rfl, rfl, rfl, by simp, fun k _ hk => World.putObj_heap_other hk⟩
      refine ⟨none, _, hend2, ?_⟩
      exact hdone xs er _ hend (hJ _ _ _ hi ((hcp _).mono fun i hi => by cases hi; exact .inl (.inr (.inr (.inr rfl))))) (hwk.keep (hcp _) (fun e => by cases e; omega)) ((World.putObj_heap_other (by omega)).trans hk2)
    by_cases hr : risesB l = true
    · have hbe : beginErr l = 0 := by simp [beginErr, hr]
      rw [hbe] at hI1
      refine (from1_calls (n - 1) w0 q b1 b2 b3 v l txn stop g skips last (w.heap.size + 1)
        (fun pre A => I pre A ∧ A.heap[w.heap.size + 1]? = some (.loop (rec .ready none)) ∧ A.heap[w.heap.size]? = some (.deferred (some [])))
        (fun A k => T A k ∨ k = w.heap.size + 1) hv hl hr d1 d2 d3 d4 d5 e0 e2 W1 (hc0.trans' hcw) ?_ ?_ ?_ ?_ ?_ hI1 hS1 ⟨h0 _ hcw (by omega), hL1, hK1⟩).mono ?_
      · intro sb hsb
        obtain ⟨h1, h2, h4⟩ := hst sb hsb
        exact ⟨h1, h2⟩
      · rintro pre A k ⟨h1, h2, h3⟩ (hk | rfl)
        · obtain ⟨k1, k2, k3, k4, k5, k6, k7, k8, k9⟩ := hT pre A k h1 hk
          exact ⟨k1, k2, k3, k4, k5, k8⟩
        · have := hc0.size
          exact ⟨by omega, by omega, by omega, by omega, by omega, fun e => by have := (hst _ e).2.2; omega⟩
      · rintro pre A B k ⟨h1, h2, h3⟩ hc (hk | rfl)
        · exact (hT pre A k h1 (hTs pre A B k h1 (hc.mono fun i hi => by rcases hi with rfl | rfl; exact .inl (.inl rfl); exact .inl (.inr (.inl rfl))) hk)).2.2.2.2.2.2.2.2
        · exact lt_of_block h2
      · rintro pre A B ⟨h1, h2, h3⟩ hc
        exact ⟨hJ _ _ _ h1 (hc.mono fun i hi => by rcases hi with rfl | rfl; exact .inl (.inl rfl); exact .inl (.inr (.inl rfl))), hc.heap h2 (fun h => by rcases h with h | h <;> omega), hc.heap h3 (fun h => by rcases h with h | h <;> omega)⟩
      · rintro pre p r a1 n1 c1 a2 n2 c2 A ⟨hi, hl2, hk2⟩ hlen ht hsz
        have hi' := hi
        have hlt : w.heap.size + 1 < A.heap.size := lt_of_block hl2
        have hy := run_yield (P := Try.prog) (args := #[.int .i64 p, .agg #[.int .i64 r.kind, .int .i64 r.txn, .int .i64 r.page, .int .i64 r.off, .int .i64 r.prev, .int .i64 r.next, .int .i64 r.beg, .string r.before, .string r.after, .slice a1 n1 c1, .slice a2 n2 c2]]) hl2 (by rw [hrec]; simp [hps])
        rw [hrec] at hy
        refine ⟨fn, _, assign, body, hy, roundIn_of_wpIn trivial (wpIn_mono (hround pre p r a1 n1 c1 a2 n2 c2 A hi hlen ht (by omega)) ?_)⟩
        intro e a₁ B hp
        cases e with
        | normal =>
          obtain ⟨hcB, hbody⟩ := hp
          have hlB := hcB.heap hl2 (fun e => e)
          have hkB := hcB.heap hk2 (fun e => e)
          have hltB : w.heap.size + 1 < B.heap.size := lt_of_block hlB
          refine ⟨_, run_beginRound hlB (by rw [hrec]), ?_⟩
          have hcp : ∀ (X : World) o, Chg (OneB (w.heap.size + 1)) X (X.putObj (w.heap.size + 1) o) := fun X o => ⟨rfl, rfl, rfl, by simp, fun k _ hk => World.putObj_heap_other hk⟩
          have hl3 : (B.putObj (w.heap.size + 1) (.loop { rec .ready none with state := .busy })).heap[w.heap.size + 1]? = some (.loop { rec .ready none with state := .busy }) := World.putObj_heap_same hltB
          have hk3 : (B.putObj (w.heap.size + 1) (.loop { rec .ready none with state := .busy })).heap[w.heap.size]? = some (.deferred (some [])) := (World.putObj_heap_other (by omega)).trans hkB
          refine wpIn_mono (hbody _ (hcp B _) (by simp)) ?_
          rintro e3 a3 E ⟨rfl, hi3, hc3⟩
          have hcC : Chg (RunB q b2 w.heap.size) A (B.putObj (w.heap.size + 1) (.loop { rec .ready none with state := .busy })) := (hcB.mono fun i h => h.elim).trans (hcp B _) (fun i hi => by cases hi; exact .inl (.inr (.inr (.inr rfl))))
          have hIC := hJ _ _ _ hi hcC
          have hnT := fun h => (hT _ _ (w.heap.size + 1) hIC h).2.2.2.2.2.2.1 rfl
          have hnT2 := fun h => (hT _ _ w.heap.size hIC h).2.2.2.2.2.1 rfl
          have hl4 := hc3.heap hl3 hnT
          have hk4 := hc3.heap hk3 hnT2
          have hend := run_endRound (P := Try.prog) none hl4
          have hltE : w.heap.size + 1 < E.heap.size := lt_of_block hl4
          refine ⟨_, _, hend, rfl, ⟨hJ _ _ _ hi3 ((hcp E _).mono fun i hi => by cases hi; exact .inl (.inr (.inr (.inr rfl)))), ?_, (World.putObj_heap_other (by omega)).trans hk4⟩, ?_⟩
          · rw [World.putObj_heap_same hltE, hrec]; rfl
          · have s1 : Chg (fun k => T A k ∨ k = w.heap.size + 1) A B := hcB.mono fun i h => h.elim
            have s2 := s1.trans (hcp B (.loop { rec .ready none with state := .busy })) (fun i hi => by cases hi; exact .inl (.inr rfl))
            have s3 := s2.trans hc3 (fun i hi => .inl (.inl (hTs _ _ _ _ hi' hcC hi)))
            exact s3.trans (hcp E _) (fun i hi => by cases hi; exact .inl (.inr rfl))
        | exit id => exact hp.elim
        | goto t => exact hp.elim
        | ret => exact hp.elim
        | panic chain => exact hp.elim
        | outgrown => exact hp.elim
      · rintro e W2 ⟨hu, xs, er, hw, ⟨hi, hl2, hk2⟩, hwk⟩
        exact fin e W2 hu xs er (by rw [ItEnd, if_pos hr]; exact hw) hi hl2 hk2 hwk
    · have hbe : beginErr l = 3 := by simp [beginErr, hr]
      rw [hbe] at hI1
      refine (from1_form (n - 1) q b1 b2 b3 v txn stop g skips last (w.heap.size + 1) W1 hI1 hS1).mono ?_
      rintro e W2 ⟨hu, rfl⟩
      exact fin e _ hu [] 3 (by rw [ItEnd, if_neg hr]) (h0 _ hcw (by omega)) hL1 hK1 hI1.wk
end Go.Proofs.Ytghklbflbodajaa
