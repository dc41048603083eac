import Derived.Test.YtmikbjlgcndmeaaTb
namespace Go.Proofs.Ytmikbjlgcndmeaa
open Go.RowKit Go.ChangeMaps Go.MapKept
set_option linter.unusedVariables false
set_option linter.unusedSimpArgs false
set_option linter.unnecessarySimpa false

theorem zero_txn (w : World) : (zeroValue 63).run Try.prog w = .ok (.pointer none) w := by kernel_rfl
theorem zero_int (w : World) : (zeroValue 3).run Try.prog w = .ok (.int .i64 0) w := by kernel_rfl

theorem TxE.cells {w : World} {e : TxE} (h : w.heap[e.b]? = some (.cells e.cs 68 (0, 0))) :
    w.cell? ⟨e.b, 0, none⟩ = some (.int .i64 e.s.txn) ∧ w.cell? ⟨e.b, 1, none⟩ = some (.int .i64 e.s.first) ∧ w.cell? ⟨e.b, 2, none⟩ = some (.int .i64 e.s.last) ∧ w.cell? ⟨e.b, 3, none⟩ = some (.int .i64 e.s.left) ∧ w.cell? ⟨e.b, 4, none⟩ = some e.mv ∧ (∀ i, w.frozen? ⟨e.b, i, none⟩ = false) := by
  refine ⟨?_, ?_, ?_, ?_, ?_, fun i => frozen_blk h i⟩ <;> rw [cell_blk h] <;> rfl

set_option maxRecDepth 100000 in
theorem tabNew (w : World) : Calls Try.prog 9 #[] w fun e w' => e = .returned (.pointer (some ⟨w.heap.size + 1, 0, none⟩)) ∧ TabAt w' (w.heap.size + 1) w.heap.size [] ∧ Chg NoB w w' := by
  have hmm := @run_makeMap Try.prog
  go_enter Try.func9, Try.ntmps9
  go_wp2
  go_ret
  refine ⟨rfl, ⟨?_, ?_, by simp, by simp, by simp, by simp, by simp, by simp⟩, ((Chg.refl _ _).alloc _).alloc _⟩
  · have := blk_new (w.alloc (.map #[] 0)) (.cells #[.map (some w.heap.size)] 62)
    rwa [World.size_alloc] at this
  · exact ⟨#[], 0, blk_alloc (blk_new _ _) _, ⟨by simp, by simp, by simp⟩, rfl⟩

set_option maxRecDepth 100000 in
theorem tabFind_nil (n : Int) (w : World) : Calls Try.prog 29 #[.pointer none, .int .i64 n] w fun e w' => e = .returned (.tuple #[.pointer none, .int .i64 10]) ∧ w = w' := by
  go_enter Try.func29, Try.ntmps29
  go_wp2
  go_ret2
  exact ⟨rfl, rfl⟩

set_option maxRecDepth 100000 in
theorem tabFind_none (p r : Nat) (E : List TxE) (n : Int) (w : World) (h : TabAt w p r E) (hn : Hid (mget (E.map fun e => (e.s.txn, e.b)) n = none)) :
    Calls Try.prog 29 #[.pointer (some ⟨p, 0, none⟩), .int .i64 n] w fun e w' => e = .returned (.tuple #[.pointer none, .int .i64 7]) ∧ w = w' := by
  have x0 : w.cell? ⟨p, 0, none⟩ = some (.map (some r)) := by rw [cell_blk h.tab]; rfl
  have hm := hid h.map
  clear h
  go_enter Try.func29, Try.ntmps29
  go_wp2_with (at_lookup; refine step_lookup hm.out rfl _ _ 60 3 63 true rfl Try.underlying60 Try.underlying3 (zero_txn _) n rfl rfl ?_; rw [hn.out]; simp only [Option.map_none, Option.getD_none, Option.isSome_none, if_true])
  go_ret2
  exact ⟨rfl, rfl⟩

set_option maxRecDepth 100000 in
theorem tabFind_some (p r : Nat) (E : List TxE) (n : Int) (w : World) (h : TabAt w p r E) (b : Nat) (hn : Hid (mget (E.map fun e => (e.s.txn, e.b)) n = some b)) :
    Calls Try.prog 29 #[.pointer (some ⟨p, 0, none⟩), .int .i64 n] w fun e w' => e = .returned (.tuple #[.pointer (some ⟨b, 0, none⟩), .int .i64 0]) ∧ w = w' := by
  have x0 : w.cell? ⟨p, 0, none⟩ = some (.map (some r)) := by rw [cell_blk h.tab]; rfl
  have hm := hid h.map
  clear h
  go_enter Try.func29, Try.ntmps29
  go_wp2_with (at_lookup; refine step_lookup hm.out rfl _ _ 60 3 63 true rfl Try.underlying60 Try.underlying3 (zero_txn _) n rfl rfl ?_; rw [hn.out]; simp only [Option.map_some, Option.getD_some, Option.isSome_some, if_true])
  go_ret2
  exact ⟨rfl, rfl⟩

/-- What a call leaves. -/
structure TabPost (w w' : World) (p r : Nat) (E : List TxE) (T : TTab) : Prop where
  ex : ∃ E', E'.map (·.s) = T ∧ TabAt w' p r E' ∧ ∀ k, tabFp p r E' k → tabFp p r E k ∨ w.heap.size ≤ k
  chg : Chg (tabFp p r E) w w'

theorem TabPost.same {w : World} {p r : Nat} {E : List TxE} (h : TabAt w p r E) : TabPost w w p r E (E.map (·.s)) := ⟨⟨E, rfl, h, fun k hk => .inl hk⟩, Chg.refl _ _⟩
theorem TabPost.same' {w w' : World} {p r : Nat} {E : List TxE} (h : TabAt w p r E) (hc : Chg NoB w w') : TabPost w w' p r E (E.map (·.s)) := ⟨⟨E, rfl, h.keep0 hc, fun k hk => .inl hk⟩, hc.mono fun _ h => h.elim⟩

theorem TabPost.set {w w' : World} {p r : Nat} {E : List TxE} (h : TabAt w p r E) {i : Nat} {e e' : TxE} (hi : E[i]? = some e) (ht : e'.s.txn = e.s.txn) (hb : e'.b = e.b)
    (hc : Chg e.fp w w') (hblk : w'.heap[e.b]? = some (.cells e'.cs 68 (0, 0))) (hown : w'.ownsRow 0 70 2 e'.mv e'.s.marks.length (e'.s.marks.flatMap encMk))
    (hnew : ∀ k, OwnB e'.mv k → OwnB e.mv k ∨ w.heap.size ≤ k) (hfit : 0 ≤ e'.s.left ∧ e'.s.left ≤ 1048576 ∧ e'.s.marks.length ≤ 4) : TabPost w w' p r E (tUpd (E.map (·.s)) e.s.txn e'.s) :=
  ⟨⟨E.set i e', upd_set h.nodup hi, h.set hi ht hb hc hblk hown hnew hfit, tabFp_set hi hb hnew⟩, hc.mono fun k hk => .inl (.inr (.inr ⟨e, List.mem_of_getElem? hi, hk⟩))⟩

set_option maxRecDepth 100000 in
theorem tabLog (p r : Nat) (E : List TxE) (n a : Int) (w : World) (h : TabAt w p r E) (res : Int) (T : TTab) (hres : Hid ((res, T) = tLog (E.map (·.s)) n a)) :
    Calls Try.prog 11 #[.pointer (some ⟨p, 0, none⟩), .int .i64 n, .int .i64 a] w fun e w' => e = .returned (.int .i64 res) ∧ TabPost w w' p r E T := by
  have HH := hid h
  rcases h.find n with ⟨h1, h2, h3⟩ | ⟨i, e, hi, he, h1, h3⟩
  · have hr := hres.out
    unfold tLog at hr
    rw [h3] at hr
    dsimp only at hr
    cases hr
    have H1 := hid h1
    clear h h1 h2 h3
    go_enter Try.func11, Try.ntmps11
    go_wp2_with (go_at_call 29; refine (tabFind_none p r E n w HH.out H1).mono ?_; rintro e w' ⟨rfl, rfl⟩)
    go_ret
    exact ⟨rfl, TabPost.same HH.out⟩
  · have hr := hres.out
    unfold tLog at hr
    rw [h3] at hr
    dsimp only at hr
    have hm := List.mem_of_getElem? hi
    have HB := hid (h.blk e hm)
    obtain ⟨c0, c1, c2, c3, c4, cf⟩ := TxE.cells HB.out.1
    have cf1 := cf 1
    have cf2 := cf 2
    have H1 := hid h1
    have HI := hid hi
    have HE := hid he
    have hfit := hid (h.fit e hm)
    have hown := hid (h.own e hm)
    clear h h1 h3 cf hm hi he c0 c3 c4
    by_cases ha : a ≤ e.s.last
    · rw [if_pos ha] at hr
      cases hr
      go_enter Try.func11, Try.ntmps11
      go_wp2_with (go_at_call 29; refine (tabFind_some p r E n w HH.out e.b H1).mono ?_; rintro e w' ⟨rfl, rfl⟩)
      go_ret
      exact ⟨rfl, TabPost.same HH.out⟩
    · rw [if_neg ha] at hr
      by_cases hf : e.s.first = 0
      · have hfb : (e.s.first == 0) = true := by simpa using hf
        rw [if_pos hf] at hr
        cases hr
        have HF := hid hf
        clear hf hres
        go_enter Try.func11, Try.ntmps11
        go_wp2_with (go_at_call 29; refine (tabFind_some p r E n w HH.out e.b H1).mono ?_; rintro e w' ⟨rfl, rfl⟩)
        go_ret
        refine ⟨rfl, ?_⟩
        rw [← HE.out]
        refine TabPost.set HH.out HI.out (e' := ⟨{ e.s with first := a, last := a }, e.b, e.mv⟩) rfl rfl (((Chg.refl e.fp w).setCell (.inl (.inl rfl)) _).setCell (.inl (.inl rfl)) _) ?_ ?_ (fun k hk => .inl hk) ?_
        · rw [blk_setCell (blk_setCell HB.out.1 1 _) 2 _]; rfl
        · exact ownsRow.chg HB.out.2 (((Chg.refl (OneB e.b) w).setCell (.inl (OneB.self _)) _).setCell (.inl (OneB.self _)) _) (fun k hk x => hown.out.1 (x ▸ hk))
        · exact ⟨hfit.out.2.2.1, hfit.out.2.2.2.1, hfit.out.2.2.2.2⟩
      · have hfb : (e.s.first == 0) = false := by simpa using hf
        rw [if_neg hf] at hr
        cases hr
        have HF := hid hf
        clear hf hres
        go_enter Try.func11, Try.ntmps11
        go_wp2_with (go_at_call 29; refine (tabFind_some p r E n w HH.out e.b H1).mono ?_; rintro e w' ⟨rfl, rfl⟩)
        go_ret
        refine ⟨rfl, ?_⟩
        rw [← HE.out]
        refine TabPost.set HH.out HI.out (e' := ⟨{ e.s with last := a }, e.b, e.mv⟩) rfl rfl ((Chg.refl e.fp w).setCell (.inl (.inl rfl)) _) ?_ ?_ (fun k hk => .inl hk) ?_
        · rw [blk_setCell HB.out.1 2 _]; rfl
        · exact ownsRow.chg HB.out.2 ((Chg.refl (OneB e.b) w).setCell (.inl (OneB.self _)) _) (fun k hk x => hown.out.1 (x ▸ hk))
        · exact ⟨hfit.out.2.2.1, hfit.out.2.2.2.1, hfit.out.2.2.2.2⟩
end Go.Proofs.Ytmikbjlgcndmeaa
