import Derived.Test.YtghklbflbodajaaA6
import Derived.Test.YtghklbflbodajaaRef11Undo
namespace Go.Proofs.Ytghklbflbodajaa
open Go.RowKit Go.ChangeMaps Go.Shelf
set_option linter.unusedVariables false
set_option linter.unusedSimpArgs false
set_option linter.unnecessarySimpa false

attribute [local go_sem] Oper.semAt_some

/-- Undo's own, between two rounds. -/
structure UnI (w : World) (txn : Int) (c tb base : Nat) (pre : List (Int × Rec)) (A : World) : Prop where
  own : ∃ o, A.heap[c]? = some (.cells #[o] 106 (0, 0)) ∧ A.ownsRow base 78 11 o (stands pre).length ((stands pre).flatMap (fun y => (undoRec txn y.2).csn))
  tx : A.cell? ⟨tb, 0, none⟩ = some (.int .i64 txn)
  chg : Chg NoB w A
  size : base ≤ A.heap.size

theorem WkAt.setStop {w : World} {q : Nat} {v : Value} {txn : Int} {stop : Option Addr} {er : Int} (h : WkAt w q v txn stop er) (s : Option Addr) : WkAt (w.setCell ⟨q, 2, none⟩ (.pointer s)) q v txn s er := by
  unfold WkAt; rw [blk_setCell h]; rfl

set_option maxRecDepth 100000 in
set_option maxHeartbeats 8000000 in
theorem undo_calls (v : Value) (l : List Ent) (txn last stop : Int) (w : World) (hv : Ents w v l) (hl : l.length ≤ 1000000) :
    Calls Try.prog 45 #[v, .int .i64 txn, .int .i64 last, .int .i64 stop] w fun e w' => RecsErr w w' e (undoOf l txn last stop) := by
  have HV := hid hv
  have hform : ∃ a n c, v = .slice a n c := by obtain ⟨a, c, rfl, _⟩ := hv; exact ⟨_, _, _, rfl⟩
  obtain ⟨a, n, c, rfl⟩ := hform
  clear hv
  refine (callsIn_wide (n := 3)).1 (callsIn_of_wp_marks Try.func45 rfl trivial ?_ rfl)
  refine wpIn_wide.2 ?_
  simp only [Try.ntmps45, List.size_toArray, List.length_cons, List.length_nil, Nat.reduceAdd, Nat.reduceSub, Array.replicate_succ, Array.replicate_zero, List.push_toArray, List.append_toArray, List.nil_append, List.cons_append]
  go_wp2_with (first
    | (go_at_call 60; refine (begin_calls _ l txn _ (HV.out.mono ((((Chg.refl NoB w).alloc _).alloc _).alloc _))).mono ?_; rintro e w1 ⟨rfl, hwk, hc1⟩
       simp only [World.size_alloc] at hwk
       obtain ⟨u0, u1, u2, u3, u4⟩ := hwk.cells
       have u42 := u4 2
       clear u4
       replace hwk := hid hwk; replace hc1 := hid hc1)
    | (go_at_call 61; refine (from_calls _ last true _ txn (some ⟨w.heap.size + 1, 0, none⟩) (beginErr l) _ (hwk.out.setStop _)).mono ?_; rintro e w2 ⟨rfl, hit, hc2, hs2⟩; replace hc2 := hid hc2; replace hit := hid hit))
  have hss : (w1.setCell ⟨w.heap.size + 1 + 1 + 1, 2, none⟩ (.pointer (some ⟨w.heap.size + 1, 0, none⟩))).heap.size = w1.heap.size := by simp
  rw [hss] at hs2
  have hit' := hit.out
  rw [hss] at hit'
  replace hit := hid hit'
  clear hit' hss u0 u1 u2 u3 u42
  have hq : w.heap.size + 1 + 1 + 1 < w1.heap.size := lt_of_block hwk.out
  have hq2 : w1.heap.size + 3 ≤ w2.heap.size := by omega
  clear hs2
  have hcs : Chg (OneB (w.heap.size + 1 + 1 + 1)) w1 (w1.setCell ⟨w.heap.size + 1 + 1 + 1, 2, none⟩ (.pointer (some ⟨w.heap.size + 1, 0, none⟩))) := (Chg.refl (OneB (w.heap.size + 1 + 1 + 1)) w1).setCell (p := ⟨w.heap.size + 1 + 1 + 1, 2, none⟩) (.inl (OneB.self _)) _
  have HC2 : Chg NoB w w2 := (((((Chg.refl NoB w).alloc _).alloc _).alloc _).trans' hc1.out).trans (hcs.trans hc2.out (fun i hi => hi.elim)) (fun i hi => by have h' : i = w.heap.size + 1 + 1 + 1 := hi; right; omega)
  have kp : ∀ (b : Nat) (o : Obj), (((w.alloc (Obj.cells #[Value.int IntKind.i64 txn] 3)).alloc (Obj.cells #[Value.int IntKind.i64 stop] 3)).alloc (Obj.cells #[Value.slice none 0 0] 106)).heap[b]? = some o → b ≠ w.heap.size + 1 + 1 + 1 → w2.heap[b]? = some o := fun b o h1 h2 =>
    hc2.out.heap (hcs.heap (hc1.out.heap h1 (fun e => e)) h2) (fun e => e)
  have HB := kp (w.heap.size + 1 + 1) _ (by have := blk_new ((w.alloc (Obj.cells #[Value.int IntKind.i64 txn] 3)).alloc (Obj.cells #[Value.int IntKind.i64 stop] 3)) (Obj.cells #[Value.slice none 0 0] 106); rw [World.size_alloc, World.size_alloc] at this; exact this) (by omega)
  have HTx := kp w.heap.size _ (blk_alloc (heap_alloc2_old _ _ _) _) (by omega)
  have HSt := kp (w.heap.size + 1) _ (blk_alloc (heap_alloc2_new _ _ _) _) (by omega)
  have HBX := hid HB
  have HTX := hid HTx
  have HSX := hid HSt
  clear HB HTx HSt kp hcs
  refine (wpIn_wide (n := 3)).1 (range_walk w (w.heap.size + 1 + 1 + 1) w1.heap.size (w1.heap.size + 1) (w1.heap.size + 1 + 1) (.slice a n c) l txn (some ⟨w.heap.size + 1, 0, none⟩) (goTo stop) true last (CellB (w.heap.size + 1 + 1))
    (fun pre A => UnI w txn (w.heap.size + 1 + 1) w.heap.size (w2.heap.size + 2) pre A) rfl rfl HV.out hl (by omega) (by omega) (by omega) (by omega) (by omega) (by omega) (by omega) HC2 (fun sb h => by cases h; exact ⟨by omega, by omega, by omega⟩)
    ?_ ?_ hit.out (.inr ⟨_, stop, rfl, by rw [cell_blk HSX.out]; rfl, rfl⟩) ?_ ?_ ?_ ?_)
  · rintro pre A k ⟨⟨o, h1, h2⟩, htx, h3, h4⟩ hk
    have ho : A.cell? ⟨w.heap.size + 1 + 1, 0, none⟩ = some o := by rw [cell_blk h1]; rfl
    have hcs := h3.size
    have hcl := lt_of_block h1
    rcases hk with rfl | ⟨o', h5, h6⟩
    · exact ⟨by omega, by omega, by omega, by omega, by omega, by omega, by omega, by simp, hcl⟩
    · rw [ho] at h5
      cases h5
      have := OwnB.ge h2 k h6
      exact ⟨by omega, by omega, by omega, by omega, by omega, by omega, by omega, by first | (simp; done) | (simp; omega), this.2⟩
  · rintro pre A B k ⟨⟨o, h1, h2⟩, htx, h3, h4⟩ hc hk
    have ho : A.cell? ⟨w.heap.size + 1 + 1, 0, none⟩ = some o := by rw [cell_blk h1]; rfl
    have ho' : B.cell? ⟨w.heap.size + 1 + 1, 0, none⟩ = some o := by rw [cell_blk (hc.heap h1 (by rintro (h | h | h | h) <;> omega))]; rfl
    rcases hk with rfl | ⟨o', h5, h6⟩
    · exact .inl rfl
    · rw [ho'] at h5
      cases h5
      exact .inr ⟨o, ho, h6⟩
  · rintro pre A B ⟨⟨o, h1, h2⟩, htx, h3, h4⟩ hc
    refine ⟨⟨o, hc.heap h1 ?_, ownsRow.chg h2 hc ?_⟩, hc.cell htx ?_, h3.trans hc ?_, Nat.le_trans h4 hc.size⟩
    · rintro (h | h | h | h) <;> omega
    · intro k hk hh
      have := OwnB.ge h2 k hk
      rcases hh with h | h | h | h <;> omega
    · rintro (h | h | h | h) <;> simp at h <;> omega
    · rintro i (h | h | h | h) <;> (right; omega)
  · intro A hc hs
    exact ⟨⟨_, hc.heap HBX.out (fun e => e), World.ownsRow_nil _ _ _ _⟩, hc.cell (by rw [cell_blk HTX.out]; rfl) (fun e => e), HC2.trans' hc, hs⟩
  · rintro pre p r a1 n1 c1 a2 n2 c2 A ⟨⟨o, h1, h2⟩, htx, h3, h4⟩ hlen ht hsz
    obtain ⟨ao, co, rfl⟩ := ownsForm h2
    have HH1 := hid h1
    have HH2 := hid h2
    have HH3 := hid h3
    have HTA := hid htx
    clear h1 h2 h3 ht htx
    gi_wp2_with ((fail_if_success (fail_if_success (with_reducible change wpListIn _ _ _ _ _ (Oper.mk _ (.store 78 _ _) _ _ _ _ :: _) _ _))); refine stepIn_storeRow rfl rfl A.heap.size rfl rfl (blk_new _ _) (by kernel_rfl) rfl (by simp [Value.oneCell']) ?_; intro B hb2 hc2 hs2)
    have cAB : Chg NoB A B := ((Chg.refl NoB A).alloc _).trans hc2 (fun i hi => by have h' : i = A.heap.size := hi; right; omega)
    have hsb := cAB.size
    refine ⟨cAB, fun C hC hs => ?_⟩
    have hCb := hC.heap hb2 (fun h => by have h' : A.heap.size = w2.heap.size + 1 := h; omega)
    obtain ⟨m0, m1, m2, m3, m4, m5, m6, m7, m8, m9, m10⟩ := Rec.blk hCb
    have g1 := hC.heap (cAB.heap HH1.out (fun e => e)) (fun h => by have h' : w.heap.size + 1 + 1 = w2.heap.size + 1 := h; omega)
    have x0 : C.cell? ⟨w.heap.size + 1 + 1, 0, none⟩ = some (.slice ao (stands pre).length co) := by rw [cell_blk g1]; rfl
    have x1 := frozen_blk g1 0
    have x2 : C.cell? ⟨w.heap.size, 0, none⟩ = some (.int .i64 txn) := hC.cell (cAB.cell HTA.out (fun e => e)) (fun h => by have h' : w.heap.size = w2.heap.size + 1 := h; omega)
    have G1 := hid g1
    have G2 := hid (ownsRow.chg (ownsRow.chg HH2.out cAB (fun _ _ e => e)) hC (fun k hk e => by have := OwnB.ge HH2.out k hk; have h' : k = w2.heap.size + 1 := e; omega))
    have HS := hid hs
    have hlen2 : (stands pre).length < l.length := Nat.lt_of_le_of_lt (List.length_filter_le _ _) hlen
    have s1 := hid ((HH3.out.trans' cAB).trans hC (fun i hi => by have h' : i = w2.heap.size + 1 := hi; right; omega))
    have CAB := hid cAB
    have X2 := hid x2
    clear g1 hC hs hb2 hc2 hs2 cAB hCb
    cases hk : (r.kind == 1)
    · gi_wp2
      refine ⟨⟨⟨_, G1.out, by rw [stands_no hk]; exact G2.out⟩, X2.out, s1.out, by have := HS.out; omega⟩, Chg.refl _ _⟩
    · gi_wp2_with (gi_at_builtin; refine stepIn_app1 slRec rfl _ _ rfl (World.ownsRow.alloc G2.out _) rfl C.heap.size [.int .i64 2, .int .i64 txn, .int .i64 r.page, .int .i64 r.off, .int .i64 0, .int .i64 r.prev, .int .i64 0, .string ⟨#[]⟩, .string r.before, .slice none 0 0, .slice none 0 0] rfl (blk_new _ _) rfl rfl (by simp [Value.oneCell']) ?_ ?_ ?_ ?_)
      case _ => omega
      case _ => unfold maxLen; omega
      case _ => have := HS.out; first | omega | (simp; omega)
      intro v' w3 hv3 hc3 hvo hnil
      obtain ⟨av, cv, rfl⟩ := ownsForm hv3
      have hnb : ¬ OwnB (.slice ao (stands pre).length co) (w.heap.size + 1 + 1) := fun e => by have := OwnB.ge G2.out _ e; omega
      have hnt : ¬ OwnB (.slice ao (stands pre).length co) w.heap.size := fun e => by have := OwnB.ge G2.out _ e; omega
      have g3 := hc3.heap (blk_alloc G1.out _) hnb
      have z0 : w3.cell? ⟨w.heap.size + 1 + 1, 0, none⟩ = some (.slice ao (stands pre).length co) := by rw [cell_blk g3]; rfl
      have z1 := frozen_blk g3 0
      have z2 : w3.cell? ⟨w.heap.size, 0, none⟩ = some (.int .i64 txn) := hc3.cell (((Chg.refl NoB C).alloc _).cell X2.out (fun e => e)) hnt
      have G3 := hid g3
      have HV3 := hid hv3
      have HC3 := hid hc3
      have Z2 := hid z2
      have x0' := hid x0
      clear g3 hv3 hc3 x0 hvo z2 x2 m0 m1 m2 m3 m4 m5 m6 m7 m8 m9 m10
      gi_wp2
      have s2 : Chg NoB w w3 := (s1.out.alloc _).trans HC3.out (fun i hi => by have := OwnB.ge G2.out _ hi; right; omega)
      have hcz : Chg (CellB (w.heap.size + 1 + 1) C) C (w3.setCell ⟨w.heap.size + 1 + 1, 0, none⟩ (.slice av ((stands pre).length + 1) cv)) :=
        (((Chg.refl (CellB (w.heap.size + 1 + 1) C) C).alloc _).trans HC3.out (fun i hi => .inl (.inr ⟨_, x0'.out, hi⟩))).setCell (.inl (.inl rfl)) _
      refine ⟨⟨⟨.slice av ((stands pre).length + 1) cv, by rw [blk_setCell G3.out]; rfl, ?_⟩, ?_, s2.setCell (.inr (by simp; omega)) _, ?_⟩, hcz⟩
      · have := ownsRow.chg HV3.out ((Chg.refl (OneB (w.heap.size + 1 + 1)) w3).setCell (p := ⟨w.heap.size + 1 + 1, 0, none⟩) (.inl (OneB.self _)) (.slice av ((stands pre).length + 1) cv)) (fun k hk e => by have := OwnB.ge HV3.out k hk; have h' : k = w.heap.size + 1 + 1 := e; omega)
        rw [stands_yes hk]
        simpa [undoRec, Rec.csn, Rec.cs] using this
      · exact ((Chg.refl (OneB (w.heap.size + 1 + 1)) w3).setCell (p := ⟨w.heap.size + 1 + 1, 0, none⟩) (.inl (OneB.self _)) _).cell Z2.out (fun e => by have h' : w.heap.size = w.heap.size + 1 + 1 := e; omega)
      · have h5 := HC3.out.size
        have h6 := HS.out
        simp at h5
        simp
        omega
  · intro xs er A hend hCh hwk hD
    obtain ⟨⟨o, h1, h2⟩, htx, h3, h4⟩ := hCh
    obtain ⟨ao, co, rfl⟩ := ownsForm h2
    have y0 : A.cell? ⟨w.heap.size + 1 + 1, 0, none⟩ = some (.slice ao (stands xs).length co) := by rw [cell_blk h1]; rfl
    have y1 := frozen_blk h1 0
    obtain ⟨k0, k1, k2, k3, _⟩ := hwk.cells
    have H1 := hid h1
    have H2 := hid h2
    have H3 := hid h3
    have HD := hid hD
    clear h1 h2 h3 hD hwk htx
    cases hee : (er != 0)
    · have he0 : er = 0 := by simpa using hee
      have hx : undoOf l txn last stop = ((stands xs).map (fun y => undoRec txn y.2), 0) := by
        have := hend
        unfold ItEnd at this
        by_cases hr : risesB l = true
        · rw [if_pos hr, he0] at this
          exact orErr_ok hr this
        · rw [if_neg hr] at this
          cases this
          simp at hee
      have HX := hid hx
      clear hx hend
      go_wp2
      have hK : (A.setCell ⟨w.heap.size + 1 + 1, 0, none⟩ (.slice ao (stands xs).length co)).heap[w2.heap.size]? = some (.deferred (some [])) := blk_setCell_other HD.out (by simp; omega) _
      refine ⟨by simp, .inl ⟨_, _, rfl, run_takeDeferred hK, ?_⟩⟩
      have hcell : ((A.setCell ⟨w.heap.size + 1 + 1, 0, none⟩ (.slice ao (stands xs).length co)).putObj w2.heap.size (.deferred none)).cell? ⟨w.heap.size + 1 + 1, 0, none⟩ = some (.slice ao (stands xs).length co) := by
        rw [cell_blk ((World.putObj_heap_other (by omega)).trans (blk_setCell H1.out 0 _))]; rfl
      refine ⟨_, res_cell2 Try.underlying106 rfl rfl _ _ (w.heap.size + 1 + 1) rfl hcell, ?_⟩
      have hcF : Chg (fun k => k = w.heap.size + 1 + 1 ∨ k = w2.heap.size) A ((A.setCell ⟨w.heap.size + 1 + 1, 0, none⟩ (.slice ao (stands xs).length co)).putObj w2.heap.size (.deferred none)) := chgPut ((Chg.refl _ _).setCell (.inl (.inl rfl)) _) (.inl (.inr rfl)) _
      exact RecsErr.ok (pre := stands xs) HX.out (ownsBase (ownsRow.chg H2.out hcF (fun k hk e => by have := OwnB.ge H2.out k hk; rcases e with e | e <;> omega)) (by omega)) (H3.out.trans hcF (fun i hi => by rcases hi with e | e <;> (right; omega))) rfl
    · have he0 : er ≠ 0 := by simpa using hee
      have hx : undoOf l txn last stop = ([], er) := by
        have := hend
        unfold ItEnd at this
        by_cases hr : risesB l = true
        · rw [if_pos hr] at this
          exact orErr_err hr this he0
        · rw [if_neg hr] at this
          cases this
          exact orErr_form (by simpa using hr)
      have HX := hid hx
      clear hx hend
      go_wp2
      go_region
      all_goals go_wp2
      all_goals have hK : ((A.drew).setCell ⟨w.heap.size + 1 + 1, 0, none⟩ (.slice none 0 0)).heap[w2.heap.size]? = some (.deferred (some [])) := blk_setCell_other HD.out (by simp; omega) _
      all_goals refine ⟨by simp, .inl ⟨_, _, rfl, run_takeDeferred hK, ?_⟩⟩
      all_goals have hcell : (((A.drew).setCell ⟨w.heap.size + 1 + 1, 0, none⟩ (.slice none 0 0)).putObj w2.heap.size (.deferred none)).cell? ⟨w.heap.size + 1 + 1, 0, none⟩ = some (.slice none 0 0) := (by rw [cell_blk ((World.putObj_heap_other (by omega)).trans (blk_setCell (w := A.drew) H1.out 0 _))]; rfl)
      all_goals refine ⟨_, res_cell2 Try.underlying106 rfl rfl _ _ (w.heap.size + 1 + 1) rfl hcell, ?_⟩
      all_goals have hcF : Chg (fun k => k = w.heap.size + 1 + 1 ∨ k = w2.heap.size) A (((A.drew).setCell ⟨w.heap.size + 1 + 1, 0, none⟩ (.slice none 0 0)).putObj w2.heap.size (.deferred none)) := chgPut (((Chg.refl _ _).drew).setCell (.inl (.inl rfl)) _) (.inl (.inr rfl)) _
      all_goals exact RecsErr.nil HX.out (H3.out.trans hcF (fun i hi => by rcases hi with e | e <;> (right; omega))) rfl
end Go.Proofs.Ytghklbflbodajaa
