import Derived.Test.YtmikbjlgcndmeaaTb2
import Derived.Laws.ResultCell
import Derived.Laws.Tables
import Derived.Laws.Rows
namespace Go.Proofs.Ytmikbjlgcndmeaa
open Go.RowKit Go.ChangeMaps Go.MapKept
set_option linter.unusedVariables false
set_option linter.unusedSimpArgs false
set_option linter.unnecessarySimpa false

/-- A result that lies in a block of its own, a struct; and two in slots. -/
theorem res_row3 {P : Program} {fn : Func} {p u v : Tmp} {ty : TypeId} {fs : Array Field} (hu : P.underlying ty = some (.struct fs)) (h : fn.results = #[.cell p ty, .tmp u, .tmp v]) (tmps : Array Value) (w : World) (g : Nat) {t : TypeId} {cs : Array Value} {fr : Nat × Nat}
    (hp : tmps.getD p undef = .pointer (some ⟨g, 0, none⟩)) (hg : w.heap[g]? = some (.cells cs t fr)) (hi : (P.info? ty).map (·.size) = some cs.size) :
    (results fn tmps).run P w = .ok (.tuple #[.agg cs, tmps.getD u undef, tmps.getD v undef]) w := by
  have hp' : tmps[p]?.getD undef = .pointer (some ⟨g, 0, none⟩) := by simpa using hp
  simp only [results, h]
  simp [Sem.run_bind, Result.andThen, hp', asAddr, run_loadVar_row w g t ty cs fr _ hg hu rfl hi]

def tRow (T : TTab) (n : Int) : (Int × Int × Int) × Int × Int := match tFind T n with
  | none => ((0, 0, 0), 0, 7)
  | some s => ((s.txn, s.first, s.last), s.left, 0)

theorem ownsForm' {w : World} {B : Nat} {e : TypeId} {size : Nat} {v : Value} {n : Nat} {xs : List Value} (h : w.ownsRow B e size v n xs) : ∃ ao c, v = .slice ao n c := by
  rcases h.2 with ⟨rfl, rfl⟩ | ⟨g, cap, cur, rfl, _⟩
  · exact ⟨_, _, rfl⟩
  · exact ⟨_, _, rfl⟩
theorem slMark : SlT Try.prog 66 70 (.agg #[.int .i64 0, .int .i64 0]) 2 16 := ⟨Try.underlying66, by kernel_rfl, rfl, by omega⟩

set_option maxRecDepth 100000 in
theorem tabMark (p r : Nat) (E : List TxE) (n l : Int) (w : World) (h : TabAt w p r E) (res er : Int) (T : TTab) (hres : Hid ((res, er, T) = tMark (E.map (·.s)) n l)) :
    Calls Try.prog 13 #[.pointer (some ⟨p, 0, none⟩), .int .i64 n, .int .i64 l] w fun e w' => e = .returned (.tuple #[.int .i64 res, .int .i64 er]) ∧ TabPost w w' p r E T := by
  have HH := hid h
  have hr := hres.out
  unfold tMark at hr
  rcases h.find n with ⟨h1, h2, h3⟩ | ⟨i, e, hi, he, h1, h3⟩
  · rw [h3] at hr
    cases hr
    have H1 := hid h1
    clear h h1 h2 h3
    go_enter Try.func13, Try.ntmps13
    go_wp2_with (go_at_call 29; refine (tabFind_none p r E n w HH.out H1).mono ?_; rintro e w' ⟨rfl, rfl⟩)
    go_ret2
    exact ⟨rfl, TabPost.same HH.out⟩
  · rw [h3] at hr
    dsimp only at hr
    have hm := List.mem_of_getElem? hi
    have HB := hid (h.blk e hm)
    obtain ⟨c0, c1, c2, c3, c4, cf⟩ := TxE.cells HB.out.1
    have cf4 := cf 4
    have H1 := hid h1
    have HI := hid hi
    have HE := hid he
    have hfit := h.fit e hm
    have hown := hid (h.own e hm)
    obtain ⟨hf1, hf2, hf3, hf4, hf5⟩ := hfit
    obtain ⟨am, cm, hmv⟩ := ownsForm' HB.out.2
    rw [hmv] at c4
    clear h h1 h3 cf hm hi he c0 c1
    by_cases hl : l = e.s.left
    · subst hl
      rw [if_neg (by simp)] at hr
      by_cases h4 : 4 ≤ e.s.marks.length
      · rw [if_pos h4] at hr
        cases hr
        have h4i : (4 : Int) ≤ (e.s.marks.length : Int) := by omega
        clear hres
        go_enter Try.func13, Try.ntmps13
        go_wp2_with (go_at_call 29; refine (tabFind_some p r E n w HH.out e.b H1).mono ?_; rintro e w' ⟨rfl, rfl⟩)
        go_ret2
        exact ⟨rfl, TabPost.same HH.out⟩
      · rw [if_neg h4] at hr
        cases hr
        have h4i : ¬ (4 : Int) ≤ (e.s.marks.length : Int) := by omega
        clear hres
        go_enter Try.func13, Try.ntmps13
        go_wp2_with (go_at_call 29; refine (tabFind_some p r E n w HH.out e.b H1).mono ?_; rintro e w' ⟨rfl, rfl⟩)
        have hlt : e.b < w.heap.size := lt_of_block HB.out.1
        have hown2 : w.ownsRow 0 70 2 (.slice am e.s.marks.length cm) e.s.marks.length (e.s.marks.flatMap encMk) := by rw [← hmv]; exact HB.out.2
        have hownx : some e.b ≠ (Value.slice am e.s.marks.length cm).ownBlock := fun x => hown.out.1 (by unfold OwnB; rw [hmv]; exact x.symm)
        go_region_law (go_loud (refine step_append_lies _ rfl (.tmp 38) (.tmp 46) 66 rfl 0 70 _ (.agg #[.int .i64 0, .int .i64 0]) 2 16 Try.underlying66 rfl rfl rfl rfl rfl (by omega) _ e.s.marks.length _ rfl (World.ownsRow.alloc (w := w.drew) hown2 _) ⟨w.heap.size, 0, none⟩ 1 1 [.int .i64 e.s.last, .int .i64 e.s.left] rfl rfl (World.news_of_block (blk_new _ _)) (by simp [Value.oneCell']) (by omega) (by unfold maxLen; omega) (by omega) (Nat.zero_le _) _ rfl ?_); intro g cap w2 hv2 hg2 hgg hgl; have hbk : w2.heap[e.b]? = some (.cells e.cs 68 (0, 0)) := ((hg2.block e.b (by simp; omega) (fun x => hownx x)).trans (blk_alloc (w := w.drew) HB.out.1 _)); have c42 : w2.cell? ⟨e.b, 4, none⟩ = some (.slice am e.s.marks.length cm) := (by rw [cell_blk hbk]; simp [TxE.cs, hmv]); have cf42 := frozen_blk hbk 4; have C2 : Hid (Chg (OwnB e.mv) w w2) := ((((Chg.refl (OwnB e.mv) w).drew).alloc _).trans' (Chg.of_grown hg2 (fun k hk => .inl (by unfold OwnB; rw [hmv]; exact hk)))); have N2 : Hid (∀ k, OwnB (.slice (some ⟨g, 0, none⟩) (e.s.marks.length + 1) cap) k → OwnB e.mv k ∨ w.heap.size ≤ k) := (fun k hk => by
          have hk' : g = k := by simpa [OwnB, Value.ownBlock] using hk
          subst hk'
          rcases hgg with h | h
          · left; unfold OwnB; rw [hmv]; exact h
          · right; have h2 : g = (w.drew.alloc (Obj.cells _ _)).heap.size := h; simp at h2; omega); replace hbk := hid hbk; replace hv2 := hid hv2; clear hg2 hgg)
        all_goals
          have c43 : (w2.setCell ⟨e.b, 4, none⟩ (.slice (some ⟨g, 0, none⟩) (e.s.marks.length + 1) cap)).cell? ⟨e.b, 4, none⟩ = some (.slice (some ⟨g, 0, none⟩) (e.s.marks.length + 1) cap) := by
            rw [cell_blk (blk_setCell hbk.out 4 _)]; simp [TxE.cs]
          go_wp2
          go_ret2
          refine ⟨rfl, ?_⟩
          rw [← HE.out]
          refine TabPost.set HH.out HI.out (e' := ⟨{ e.s with marks := e.s.marks ++ [(e.s.last, e.s.left)] }, e.b, .slice (some ⟨g, 0, none⟩) (e.s.marks.length + 1) cap⟩) rfl rfl ((C2.out.mono fun i hi => .inl (.inr hi)).setCell (.inl (.inl rfl)) _) ?_ ?_ N2.out ?_
          · rw [blk_setCell hbk.out 4 _]; rfl
          · have h5 := ownsRow.chg hv2.out ((Chg.refl (OneB e.b) w2).setCell (p := ⟨e.b, 4, none⟩) (.inl (OneB.self _)) (.slice (some ⟨g, 0, none⟩) (e.s.marks.length + 1) cap)) (fun k hk x => by
              have x' : k = e.b := x
              rcases N2.out k hk with h | h
              · exact hown.out.1 (x' ▸ h)
              · omega)
            simpa [encMk] using h5
          · exact ⟨hf3, hf4, by simp; omega⟩
    · rw [if_pos hl] at hr
      cases hr
      have hlb : (l != e.s.left) = true := by simp [hl]
      clear hres
      go_enter Try.func13, Try.ntmps13
      go_wp2_with (go_at_call 29; refine (tabFind_some p r E n w HH.out e.b H1).mono ?_; rintro e w' ⟨rfl, rfl⟩)
      go_ret2
      exact ⟨rfl, TabPost.same HH.out⟩

set_option maxRecDepth 100000 in
theorem tabRow (p r : Nat) (E : List TxE) (n : Int) (w : World) (h : TabAt w p r E) (x y z left er : Int) (hres : Hid (((x, y, z), left, er) = tRow (E.map (·.s)) n)) :
    Calls Try.prog 22 #[.pointer (some ⟨p, 0, none⟩), .int .i64 n] w fun e w' => e = .returned (.tuple #[.agg #[.int .i64 x, .int .i64 y, .int .i64 z], .int .i64 left, .int .i64 er]) ∧ Chg NoB w w' := by
  have HH := hid h
  have hr := hres.out
  unfold tRow at hr
  rcases h.find n with ⟨h1, h2, h3⟩ | ⟨i, e, hi, he, h1, h3⟩
  · rw [h3] at hr
    cases hr
    have H1 := hid h1
    clear h h1 h2 h3 hres
    go_enter Try.func22, Try.ntmps22
    go_wp2_with (first
      | (go_at_call 29; refine (tabFind_none p r E n _ (HH.out.keep0 ((Chg.refl _ _).alloc _)) H1).mono ?_; rintro e w' ⟨rfl, rfl⟩))
    refine bodyPost_ret (res_row3 Try.underlying49 rfl _ _ w.heap.size rfl (blk_new _ _) (by kernel_rfl)) rfl ?_
    exact ⟨rfl, (Chg.refl _ _).alloc _⟩
  · rw [h3] at hr
    cases hr
    have hm := List.mem_of_getElem? hi
    have HB := hid (h.blk e hm)
    obtain ⟨c0, c1, c2, c3, c4, cf⟩ := TxE.cells HB.out.1
    have H1 := hid h1
    clear h h1 h3 cf c4 hres hi he hm
    go_enter Try.func22, Try.ntmps22
    go_wp2_with (first
      | (go_at_call 29; refine (tabFind_some p r E n _ (HH.out.keep0 ((Chg.refl _ _).alloc _)) e.b H1).mono ?_; rintro e w' ⟨rfl, rfl⟩))
    have hlt : e.b < w.heap.size := lt_of_block HB.out.1
    go_region
    all_goals go_wp2
    all_goals refine bodyPost_ret (res_row3 Try.underlying49 rfl _ _ w.heap.size rfl (blk_new w _) (by kernel_rfl)) rfl ?_
    all_goals exact ⟨rfl, ((Chg.refl _ _).alloc _).drew⟩
end Go.Proofs.Ytmikbjlgcndmeaa
