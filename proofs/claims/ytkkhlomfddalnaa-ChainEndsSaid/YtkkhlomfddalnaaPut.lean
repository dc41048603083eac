import Derived.Test.YtkkhlomfddalnaaEndsLaw
import Derived.Test.YtkkhlomfddalnaaWalkChainOther
namespace Go.Proofs.Ytkkhlomfddalnaa
open Go.RowKit Go.ChangeMaps
set_option linter.unusedVariables false

/-- The variables that put holds. -/
structure PutAt (w : World) (base bl bs ba : Nat) (L : List Ent) (last at_ : Int) (ov : Value) : Prop where
  cl : w.heap[bl]? = some (.cells #[.int .i64 last] 3 (0, 0))
  ca : w.heap[ba]? = some (.cells #[.int .i64 at_] 3 (0, 0))
  cs : w.heap[bs]? = some (.cells #[ov] 22 (0, 0)) ∧ w.ownsRow base 47 12 ov L.length (L.flatMap Ent.csn)
  bd : bl < base ∧ bs < base ∧ ba < base ∧ base ≤ w.heap.size ∧ bl ≠ bs ∧ bl ≠ ba ∧ bs ≠ ba

def PutB (bl bs ba : Nat) (ov : Value) : Nat → Prop := fun k => k = bl ∨ k = bs ∨ k = ba ∨ OwnB ov k

theorem PutAt.keep {w w' : World} {base bl bs ba : Nat} {L : List Ent} {last at_ : Int} {ov : Value} (h : PutAt w base bl bs ba L last at_ ov) (hc : Chg NoB w w') : PutAt w' base bl bs ba L last at_ ov := by
  obtain ⟨h1, h2, ⟨h3, h4⟩, h5⟩ := h
  exact ⟨hc.heap h1 (fun e => e), hc.heap h2 (fun e => e), ⟨hc.heap h3 (fun e => e), ownsRow.chg h4 hc (fun _ _ e => e)⟩, by have := hc.size; omega⟩

theorem PutAt.ents {w : World} {base bl bs ba : Nat} {L : List Ent} {last at_ : Int} {ov : Value} {S : List (Int × Rec)} (h : PutAt w base bl bs ba L last at_ ov) (hp : PutI L last at_ S) :
    ∃ ao co, ov = .slice ao L.length co ∧ w.cell? ⟨bs, 0, none⟩ = some (.slice ao L.length co) ∧ Ents w (.slice ao L.length co) L := by
  obtain ⟨h1, h2, ⟨h3, h4⟩, h5⟩ := h
  obtain ⟨ao, co, rfl⟩ := ownsForm h4
  exact ⟨ao, co, rfl, by rw [cell_blk h3]; rfl, Ents.of_cells (Rd.of_own (fun x => by simp [Ent.csn, Rec.csn, Rec.cs]) h4) hp.ok⟩

theorem PutAt.lt {w : World} {base bl bs ba : Nat} {L : List Ent} {last at_ : Int} {ov : Value} (h : PutAt w base bl bs ba L last at_ ov) : ∀ k, PutB bl bs ba ov k → k < w.heap.size := by
  obtain ⟨h1, h2, ⟨h3, h4⟩, h5⟩ := h
  rintro k (rfl | rfl | rfl | hk)
  · exact lt_of_block h1
  · exact lt_of_block h3
  · exact lt_of_block h2
  · exact (OwnB.ge h4 k hk).2

set_option maxRecDepth 100000 in
set_option maxHeartbeats 8000000 in
theorem put_calls (w : World) (base bl bs ba : Nat) (L : List Ent) (last at_ : Int) (ov : Value) (h : PutAt w base bl bs ba L last at_ ov) (r : Rec) (hl : L.length ≤ 100000) (hb1 : 0 ≤ at_) (hb2 : at_ ≤ 1000000000000) :
    Calls Try.prog 18 #[r.val (.slice none 0 0) (.slice none 0 0), .pointer (some ⟨bl, 0, none⟩), .pointer (some ⟨bs, 0, none⟩), .pointer (some ⟨ba, 0, none⟩)] w fun e w' =>
      e = .returned (.tuple #[]) ∧ ∃ ov', PutAt w' base bl bs ba (L ++ [⟨at_, { r with prev := last }⟩]) at_ (at_ + 10) ov' ∧ Chg (PutB bl bs ba ov) w w' ∧ ∀ k, OwnB ov' k → OwnB ov k ∨ w.heap.size ≤ k := by
  obtain ⟨h1, h2, ⟨h3, h4⟩, h5⟩ := h
  obtain ⟨ao, co, rfl⟩ := ownsForm h4
  have x1 : w.cell? ⟨bl, 0, none⟩ = some (.int .i64 last) := by rw [cell_blk h1]; rfl
  have x2 : w.cell? ⟨ba, 0, none⟩ = some (.int .i64 at_) := by rw [cell_blk h2]; rfl
  have x3 : w.cell? ⟨bs, 0, none⟩ = some (.slice ao L.length co) := by rw [cell_blk h3]; rfl
  have y1 := frozen_blk h1 0
  have y2 := frozen_blk h2 0
  have y3 := frozen_blk h3 0
  have H1 := hid h1
  have H2 := hid h2
  have H3 := hid h3
  have H4 := hid h4
  have H5 := hid h5
  have z1 : bl < w.heap.size := by omega
  have z2 : ba < w.heap.size := by omega
  have z3 : bs < w.heap.size := by omega
  obtain ⟨n1, n2, n3⟩ : bl ≠ bs ∧ bl ≠ ba ∧ bs ≠ ba := by omega
  clear h1 h2 h3 h4 h5
  obtain ⟨X, hX⟩ : ∃ X, Hid (X = (w.alloc (.cells #[.int .i64 r.kind, .int .i64 r.txn, .int .i64 r.page, .int .i64 r.off, .int .i64 last, .int .i64 r.next, .int .i64 r.beg, .string r.before, .string r.after, .slice none 0 0, .slice none 0 0] 45))) := named _
  obtain ⟨O, hO⟩ : ∃ O, Hid (O = Obj.cells #[.int .i64 at_, .int .i64 r.kind, .int .i64 r.txn, .int .i64 r.page, .int .i64 r.off, .int .i64 last, .int .i64 r.next, .int .i64 r.beg, .string r.before, .string r.after, .slice none 0 0, .slice none 0 0] 47 (0, 0)) := named _
  have sX : X.heap.size = w.heap.size + 1 := by rw [hX.out]; simp
  have cX : Chg NoB w X := by rw [hX.out]; exact (Chg.refl NoB w).alloc _
  have oX := World.ownsRow.alloc (ownsRow.chg H4.out cX (fun _ _ e => e)) O
  have bX : (X.alloc O).heap[w.heap.size + 1]? = some O := by have := blk_new X O; rwa [sX] at this
  have cY : Chg NoB w (X.alloc O) := cX.alloc _
  have zY : base ≤ (X.alloc O).heap.size := by have := H5.out; simp [sX]; omega
  have OX := hid oX
  have BX := hid bX
  have CY := hid cY
  rw [hX.out, hO.out] at OX BX CY zY
  have ZY := hid zY
  clear zY oX bX cX cY sX
  unfold Rec.val
  go_enter Try.func18, Try.ntmps18
  go_wp2_with (first
    | ((fail_if_success (fail_if_success (with_reducible change wpList _ _ _ (Oper.mk _ (.load 45 _) _ _ _ _ :: _) _ _))); refine step_loadRow rfl rfl w.heap.size rfl (blk_new _ _) Try.underlying45 (by kernel_rfl) ?_)
    | (at_builtin; (refine step_app1 slEnt rfl _ _ rfl OX.out rfl (w.heap.size + 1) [.int .i64 at_, .int .i64 r.kind, .int .i64 r.txn, .int .i64 r.page, .int .i64 r.off, .int .i64 last, .int .i64 r.next, .int .i64 r.beg, .string r.before, .string r.after, .slice none 0 0, .slice none 0 0] rfl BX.out rfl rfl (by simp [Value.oneCell']) ?_ ?_ ZY.out ?_)))
  case _ => omega
  case _ => unfold maxLen; omega
  intro v' w2 hv2 hc2 hvo hnil
  obtain ⟨av, cv, rfl⟩ := ownsForm hv2
  have hge : ∀ k, OwnB (.slice ao L.length co) k → base ≤ k := fun k hk => (OwnB.ge H4.out k hk).1
  have hb := H5.out
  have q1 := hc2.heap (CY.out.heap H1.out (fun e => e)) (fun e => by have := hge _ e; omega)
  have q2 := hc2.heap (CY.out.heap H2.out (fun e => e)) (fun e => by have := hge _ e; omega)
  have q3 := hc2.heap (CY.out.heap H3.out (fun e => e)) (fun e => by have := hge _ e; omega)
  have p1 : w2.cell? ⟨bl, 0, none⟩ = some (.int .i64 last) := by rw [cell_blk q1]; rfl
  have p2 : w2.cell? ⟨ba, 0, none⟩ = some (.int .i64 at_) := by rw [cell_blk q2]; rfl
  have p3 : w2.cell? ⟨bs, 0, none⟩ = some (.slice ao L.length co) := by rw [cell_blk q3]; rfl
  have e1 := frozen_blk q1 0
  have e2 := frozen_blk q2 0
  have e3 := frozen_blk q3 0
  have Q1 := hid q1
  have Q2 := hid q2
  have Q3 := hid q3
  have C2 := hid hc2
  have V2 := hid hv2
  have HG := hid hge
  have HVO := hid hvo
  have s1 := lt_of_block q1
  have s2 := lt_of_block q2
  have s3 := lt_of_block q3
  clear q1 q2 q3 hc2 hv2 hge hb hvo hnil x1 x2 x3 y1 y2 y3 z1 z2 z3
  go_wp2_with fail
  go_end0
  have hb := H5.out
  have cF : Chg (fun k => k = bl ∨ k = bs ∨ k = ba) w2 (((w2.setCell ⟨bs, 0, none⟩ (.slice av (L.length + 1) cv)).setCell ⟨bl, 0, none⟩ (.int .i64 at_)).setCell ⟨ba, 0, none⟩ (.int .i64 (at_ + 10))) :=
    (((Chg.refl (fun k => k = bl ∨ k = bs ∨ k = ba) w2).setCell (.inl (.inr (.inl rfl))) _).setCell (.inl (.inl rfl)) _).setCell (.inl (.inr (.inr rfl))) _
  refine ⟨rfl, .slice av (L.length + 1) cv, ⟨?_, ?_, ⟨?_, ?_⟩, ?_⟩, ?_, ?_⟩
  · exact blk_setCell_other (blk_setCell (blk_setCell_other Q1.out (by simpa using n1) _) 0 _) (by simpa using n2) _
  · exact blk_setCell (blk_setCell_other (blk_setCell_other Q2.out (by simp; omega) _) (by simp; omega) _) 0 _
  · exact blk_setCell_other (blk_setCell_other (blk_setCell Q3.out 0 _) (by simp; omega) _) (by simp; omega) _
  · have := ownsRow.chg V2.out cF (fun k hk e => by have := (OwnB.ge V2.out k hk).1; rcases e with e | e | e <;> omega)
    simpa [Ent.csn, Rec.csn, Rec.cs] using this
  · refine ⟨hb.1, hb.2.1, hb.2.2.1, ?_, hb.2.2.2.2⟩
    have h1 := C2.out.size
    have h2 := CY.out.size
    simp at h1 h2 ⊢
    omega
  · refine (((CY.out.mono (T := PutB bl bs ba (.slice ao L.length co)) fun i h => h.elim).trans C2.out fun i hi => .inl (.inr (.inr (.inr hi)))).trans cF fun i hi => ?_)
    rcases hi with h | h | h
    · exact .inl (.inl h)
    · exact .inl (.inr (.inl h))
    · exact .inl (.inr (.inr (.inl h)))
  · intro k hk
    rcases HVO.out k hk with h | h
    · exact .inl h
    · right; omega
end Go.Proofs.Ytkkhlomfddalnaa
