import Derived.Test.YtipmchdogdemjaaAnAw
namespace Go.Proofs.Ytipmchdogdemjaa
open Go.RowKit Go.ChangeMaps Go.MapKept
set_option linter.unusedVariables false

/-- The list that put adds to: its variable lies in the block g. -/
structure AllAt (w : World) (g base : Nat) (ov : Value) (L : List Rec) : Prop where
  blk : w.heap[g]? = some (.cells #[ov] 22 (0, 0))
  own : OwnE (OneB g) w base ov (posn L)
  lt : g < base ∧ base ≤ w.heap.size
def AllB (g : Nat) (ov : Value) : Nat → Prop := fun k => OwnB ov k ∨ k = g
theorem AllAt.keep0 {w w' : World} {g base : Nat} {ov : Value} {L : List Rec} (h : AllAt w g base ov L) (hc : Chg NoB w w') : AllAt w' g base ov L :=
  ⟨hc.heap h.blk nob, h.own.keep0 hc, by have := h.lt; have := hc.size; omega⟩
theorem AllAt.form {w : World} {g base : Nat} {ov : Value} {L : List Rec} (h : AllAt w g base ov L) : ∃ ao co, ov = .slice ao L.length co := by
  obtain ⟨a, c, e⟩ := h.own.form
  rw [posn_len] at e
  exact ⟨a, c, e⟩

set_option maxRecDepth 100000 in
set_option maxHeartbeats 4000000 in
theorem put_calls (w : World) (g base : Nat) (ov : Value) (L : List Rec) (h : AllAt w g base ov L) (r : Rec) (a1 a2 : Option Addr) (l1 l2 c1 c2 : Nat) (hk : EntK (fun k => OwnB ov k ∨ OneB g k) w (⟨pos L.length, r⟩, .slice a1 l1 c1, .slice a2 l2 c2)) (hl : L.length ≤ 100000) :
    Calls Try.prog 7 #[r.val (.slice a1 l1 c1) (.slice a2 l2 c2), .pointer (some ⟨g, 0, none⟩)] w fun e w' => e = .returned (.int .i64 (pos L.length)) ∧ ∃ ov', AllAt w' g base ov' (L ++ [r]) ∧ Chg (AllB g ov) w w' ∧ ∀ k, OwnB ov' k → OwnB ov k ∨ w.heap.size ≤ k := by
  obtain ⟨ao, co, rfl⟩ := h.form
  have HH := hid h
  have hlt := h.lt
  have x0 : w.cell? ⟨g, 0, none⟩ = some (.slice ao L.length co) := by rw [cell_blk h.blk]; rfl
  have HK := hid hk
  clear h hk
  obtain ⟨n, hn⟩ := named L.length
  rw [← hn.out] at x0 hl HH HK ⊢
  obtain ⟨R, hR⟩ := named (Obj.cells #[.int .i64 r.kind, .int .i64 r.txn, .int .i64 r.page, .int .i64 r.off, .int .i64 r.prev, .int .i64 r.next, .int .i64 r.beg, .string r.before, .string r.after, .slice a1 l1 c1, .slice a2 l2 c2] 28)
  obtain ⟨E, hE⟩ := named (Obj.cells #[.int .i64 (128 + 10 * (n : Int)), .int .i64 r.kind, .int .i64 r.txn, .int .i64 r.page, .int .i64 r.off, .int .i64 r.prev, .int .i64 r.next, .int .i64 r.beg, .string r.before, .string r.after, .slice a1 l1 c1, .slice a2 l2 c2] 30)
  have cXX : Hid (Chg NoB w ((w.alloc R).alloc E)) := hid (((Chg.refl NoB w).alloc R).alloc E)
  have hOX := hid (HH.out.own.keep0 cXX.out)
  have hEK := hid (HK.out.keep cXX.out (fun k e => e.elim))
  have hbX : ((w.alloc R).alloc E).heap[w.heap.size + 1]? = some E := by have := blk_new (w.alloc R) E; rwa [World.size_alloc] at this
  have HBX := hid hbX
  have hgX := hid (cXX.out.heap HH.out.blk nob)
  have x1 := ((Chg.refl NoB w).alloc R).cell x0 nob
  rw [hR.out] at x1
  rw [hR.out, hE.out] at cXX hOX hEK HBX hgX
  clear hbX
  have hg1 : w.heap.size ≠ g := by omega
  unfold Rec.val
  go_enter Try.func7, Try.ntmps7
  go_wp2_with (at_builtin; refine step_appE slEnt rfl _ _ rfl hOX.out rfl (w.heap.size + 1) ⟨pos n, r⟩ (.slice a1 l1 c1) (.slice a2 l2 c2) rfl HBX.out rfl ⟨rfl, rfl⟩ hEK.out ?_ ?_ ?_)
  case _ => have := hn.out; rw [posn_len]; omega
  case _ => first | omega | (simp; omega)
  intro v' w2 ho2 hc2 hob2
  have hbl2 := hc2.heap hgX.out (fun e => by have := HH.out.own.ge e; omega)
  have y0 : w2.cell? ⟨g, 0, none⟩ = some (.slice ao n co) := by rw [cell_blk hbl2]; rfl
  have y1 := frozen_blk hbl2 0
  obtain ⟨a3, n3, rfl⟩ := ho2.form
  have hpl : (posn L ++ [(⟨pos n, r⟩ : Ent)]).length = n + 1 := by simp [posn_len, hn.out]
  have hpe : posn L ++ [(⟨pos n, r⟩ : Ent)] = posn (L ++ [r]) := by rw [posn_snoc, hn.out]
  rw [hpl] at hob2 ho2 ⊢
  rw [hpe] at ho2
  clear hpl hpe
  go_wp2
  go_ret
  have hcs : Chg (OneB g) w2 (w2.setCell ⟨g, 0, none⟩ (.slice a3 (n + 1) n3)) := (Chg.refl (OneB g) w2).setCell (.inl (OneB.self g)) _
  have hge : ∀ k, OwnB (.slice ao n co) k → base ≤ k := fun k hk => (HH.out.own.ge hk).1
  have hge2 : ∀ k, OwnB (.slice a3 (n + 1) n3) k → base ≤ k := fun k hk => (ho2.ge hk).1
  refine ⟨rfl, .slice a3 (n + 1) n3, ⟨by rw [blk_setCell hbl2]; rfl, ho2.keep hcs (fun k e => .inl e) (fun k hk e => by have h' : k = g := e; have := hge2 k hk; omega), ?_⟩, ?_, ?_⟩
  · have h1 := hc2.size
    have h2 := cXX.out.size
    have h3 : (w2.setCell ⟨g, 0, none⟩ (.slice a3 (n + 1) n3)).heap.size = w2.heap.size := by simp
    rw [h3]; omega
  · exact ((cXX.out.mono (T := AllB g (.slice ao n co)) fun i h => h.elim).trans hc2 fun i hi => .inl (.inl hi)).trans hcs fun i hi => .inl (.inr hi)
  · intro k hk
    rcases hob2 k hk with h | h
    · exact .inl h
    · right; have := cXX.out.size; omega
end Go.Proofs.Ytipmchdogdemjaa
