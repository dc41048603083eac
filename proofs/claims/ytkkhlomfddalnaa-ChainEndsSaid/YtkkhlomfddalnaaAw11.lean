import Derived.Test.YtkkhlomfddalnaaUndoFn
import Derived.Test.YtkkhlomfddalnaaRef11Same
import Derived.Test.YtkkhlomfddalnaaRefSame
namespace Go.Proofs.Ytkkhlomfddalnaa
open Go.RowKit Go.ChangeMaps
set_option linter.unusedVariables false

theorem res_row1 {P : Program} {fn : Func} {p : Tmp} {ty : TypeId} {fs : Array Field} (hu : P.underlying ty = some (.struct fs)) (h : fn.results = #[.cell p ty]) (tmps : Array Value) (w : World) (g : Nat) {t : TypeId} {cs : Array Value} {fr : Nat × Nat}
    (hp : tmps.getD p undef = .pointer (some ⟨g, 0, none⟩)) (hg : w.heap[g]? = some (.cells cs t fr)) (hi : (P.info? ty).map (·.size) = some cs.size) :
    (results fn tmps).run P w = .ok (.agg cs) w := by
  have hp' : tmps[p]?.getD undef = .pointer (some ⟨g, 0, none⟩) := by simpa using hp
  simp only [results, h]
  simp [Sem.run_bind, Result.andThen, hp', asAddr, run_loadVar_row w g t ty cs fr _ hg hu rfl hi]

def upRec (prev : Int) : Rec := ⟨1, 1, 0, 0, prev, 0, 0, ⟨#[97]⟩, ⟨#[98]⟩, [], []⟩

set_option maxRecDepth 100000 in
theorem up_calls (prev : Int) (w : World) : Calls Try.prog 19 #[.int .i64 prev] w fun e w' => e = .returned ((upRec prev).val (.slice none 0 0) (.slice none 0 0)) ∧ Chg NoB w w' := by
  go_enter Try.func19, Try.ntmps19
  go_wp2_with ((fail_if_success (fail_if_success (with_reducible change wpList _ _ _ (Oper.mk _ (.store 45 _ _) _ _ _ _ :: _) _ _))); refine step_storeRow rfl rfl w.heap.size rfl rfl (blk_new _ _) (by kernel_rfl) rfl (by simp [Value.oneCell']) ?_; intro w2 hb2 hc2 hs2)
  refine bodyPost_ret (res_row1 Try.underlying45 rfl _ _ w.heap.size rfl hb2 (by kernel_rfl)) rfl ?_
  exact ⟨rfl, ((Chg.refl NoB w).alloc _).trans hc2 (fun i hi => by cases hi; exact .inr (Nat.le_refl _))⟩

def awUndo : Rec := ⟨2, 1, 0, 0, 150, 128, 0, ⟨#[]⟩, ⟨#[97]⟩, [], []⟩
def awL : List Ent := [⟨128, upRec 0⟩, ⟨150, upRec 128⟩, ⟨170, awUndo⟩]

/-- The cells of an entry without tables. -/
def Ent.csn (x : Ent) : List Value := .int .i64 x.at_ :: x.r.csn

theorem Rec.okn {r : Rec} (h : fits r.kind ∧ fits r.txn ∧ fits r.page ∧ fits r.off ∧ fits r.prev ∧ fits r.next ∧ fits r.beg ∧ r.before.size ≤ maxLen ∧ r.after.size ≤ maxLen) : r.ok := h

theorem Ents.of_cells {w : World} {v : Value} {l : List Ent} (h : Rd w 12 Ent.csn v l) (hn : ∀ x ∈ l, x.r.txns = [] ∧ x.r.pages = [] ∧ x.r.ok ∧ fits x.at_) : Ents w v l := by
  obtain ⟨a, c, h1, h2, h3, h4⟩ := h
  refine ⟨a, c, h1, h2, h3, fun i x hi => ?_⟩
  obtain ⟨b, off, h5, h6⟩ := h4 i x hi
  obtain ⟨n1, n2, n3, n4⟩ := hn x (List.mem_of_getElem? hi)
  exact ⟨_, b, off, ⟨_, _, rfl, tabs_nil n1 n2, n3, n4⟩, by simp [Ent.csn, Rec.csn, Rec.cs], h5, fun j u hu => h6 j u hu⟩

/-- A slice over a whole block. -/
theorem Rd.of_blk {α : Type} {w : World} {size : Nat} {enc : α → List Value} (he : ∀ x, (enc x).length = size) {l : List α} {b : Nat} {cs : Array Value} {t : TypeId} {f : Nat × Nat} (hb : w.heap[b]? = some (.cells cs t f)) (hcs : cs.toList = l.flatMap enc) (hl : l.length ≤ maxLen) :
    Rd w size enc (.slice (some ⟨b, 0, none⟩) l.length l.length) l := by
  refine ⟨_, _, rfl, Nat.le_refl _, hl, fun i x hi => ⟨b, 0, rfl, fun j u hu => ?_⟩⟩
  have := flatMap_get he hi hu
  rw [cell_blk hb, ← Array.getElem?_toList, hcs, Nat.zero_add]
  exact this

section
variable {l : List Ent} {txn : Int} {go : Int → Bool} {skips : Bool}
theorem walk_is {p : Int} {r : Rec} {x : List (Int × Rec) × Int} (h : go p = true) (h1 : entAt l p = some r) (hb : recBad txn p r = false) (hx : walk l txn go skips (nextOf skips r) = x) : walk l txn go skips p = ((p, r) :: x.1, x.2) := by
  rw [walk_step h h1 hb, hx]
end

theorem aw_chain : chainOf awL 1 170 = ([170, 150, 128], 0) := by
  have h : walk awL 1 goAll false 170 = ([(170, awUndo), (150, upRec 128), (128, upRec 0)], 0) :=
    walk_is (r := awUndo) rfl rfl rfl (walk_is (r := upRec 128) rfl rfl rfl (walk_is (r := upRec 0) rfl rfl rfl (walk_stop rfl)))
  unfold chainOf
  rw [h]; rfl
theorem aw_walk : walk awL 1 goAll true 170 = ([(170, awUndo), (128, upRec 0)], 0) :=
  walk_is (r := awUndo) rfl rfl rfl (walk_is (r := upRec 0) rfl rfl rfl (walk_stop rfl))
theorem aw_left : leftOf awL 1 170 = (1, 0) := by
  unfold leftOf standOf; rw [aw_walk]; rfl
theorem aw_left2 : leftOf awL 2 170 = (0, 1) := by
  unfold leftOf standOf; rw [walk_bad (r := awUndo) rfl rfl rfl]; rfl
theorem aw_left3 : leftOf awL 1 171 = (0, 7) := by
  unfold leftOf standOf; rw [walk_none rfl rfl]; rfl
theorem aw_undo : undoOf awL 1 170 0 = ([undoRec 1 (upRec 0)], 0) := by
  have h : walk awL 1 (goTo 0) true 170 = ([(170, awUndo), (128, upRec 0)], 0) :=
    walk_is (r := awUndo) rfl rfl rfl (walk_is (r := upRec 0) rfl rfl rfl (walk_stop rfl))
  unfold undoOf
  rw [h]; rfl

theorem awL_ok : ∀ x ∈ awL, x.r.txns = [] ∧ x.r.pages = [] ∧ x.r.ok ∧ fits x.at_ := by
  have f0 : fits 0 := by unfold fits; decide
  have f1 : fits 1 := by unfold fits; decide
  have f2 : fits 2 := by unfold fits; decide
  have s1 : ∀ c, (⟨#[c]⟩ : ByteArray).size ≤ maxLen := fun c => by show 1 ≤ maxLen; unfold maxLen; decide
  have s0 : (⟨#[]⟩ : ByteArray).size ≤ maxLen := Nat.zero_le _
  have h1 : ∀ p : Int, fits p → (upRec p).ok := fun p hp => ⟨f1, f1, f0, f0, hp, f0, f0, s1 _, s1 _⟩
  have h2 : awUndo.ok := ⟨f2, f1, f0, f0, by unfold fits awUndo; decide, by unfold fits awUndo; decide, f0, s0, s1 _⟩
  intro x hx
  simp only [awL, List.mem_cons, List.not_mem_nil, or_false] at hx
  rcases hx with rfl | rfl | rfl
  · exact ⟨rfl, rfl, h1 _ (by unfold fits; decide), by unfold fits; decide⟩
  · exact ⟨rfl, rfl, h1 _ (by unfold fits; decide), by unfold fits; decide⟩
  · exact ⟨rfl, rfl, h2, by unfold fits; decide⟩

set_option maxRecDepth 100000 in
set_option maxHeartbeats 8000000 in
theorem awake (w : World) : Calls Try.prog 8 #[] w fun e w' => e = .returned (.bool true) ∧ Chg NoB w w' := by
  have C := hid (Chg.refl NoB w)
  go_enter Try.func8, Try.ntmps8
  go_wp2_with (go_at_call 19; refine (up_calls _ _).mono ?_; rintro e w1 ⟨rfl, hc1⟩; simp only [upRec, Rec.val]; replace C := hid (C.out.trans' hc1); clear hc1)
  have hE : Ents (w1.alloc (.cells (awL.flatMap Ent.csn).toArray 47)) (.slice (some ⟨w1.heap.size, 0, none⟩) awL.length awL.length) awL := Ents.of_cells (Rd.of_blk (l := awL) (enc := Ent.csn) (size := 12) (fun _ => rfl) (blk_new w1 (.cells (awL.flatMap Ent.csn).toArray 47)) rfl (by decide)) awL_ok
  have C1 := hid (C.out.alloc (.cells (awL.flatMap Ent.csn).toArray 47))
  clear C
  refine (left_calls _ awL 1 170 _ hE (by decide)).mono ?_
  rintro e w2 ⟨rfl, c2⟩
  have hE2 := hE.mono c2
  have C2 := hid (C1.out.trans' c2)
  clear hE C1 c2
  rw [aw_left]
  go_wp2_with fail
  refine (undo_calls _ awL 1 170 0 _ hE2 (by decide)).mono ?_
  rintro e w3 ⟨v3, rfl, ho3, c3⟩
  rw [aw_undo] at ho3 ⊢
  have hE3 := hE2.mono c3
  have C3 := hid (C2.out.trans' c3)
  clear hE2 C2 c3
  obtain ⟨a3, k3, rfl, _, _, hr3⟩ := Recs.of_own ho3 (by simp [undoRec])
  go_wp2_with fail
  refine (chain_calls _ awL 1 170 _ hE3 (by decide)).mono ?_
  rintro e w4 ⟨v4, rfl, ho4, c4⟩
  rw [aw_chain] at ho4 ⊢
  have hE4 := hE3.mono c4
  have C4 := hid (C3.out.trans' c4)
  have hv4 := Rd.ints_of ho4
  clear hE3 C3
  go_wp2_with fail
  refine (left_calls _ awL 2 170 _ hE4 (by decide)).mono ?_
  rintro e w5 ⟨rfl, c5⟩
  have hE5 := hE4.mono c5
  have C5 := hid (C4.out.trans' c5)
  clear hE4 C4
  rw [aw_left2]
  go_wp2_with fail
  refine (left_calls _ awL 1 171 _ hE5 (by decide)).mono ?_
  rintro e w6 ⟨rfl, c6⟩
  have C6 := hid (C5.out.trans' c6)
  have hv6 := hid (hv4.mono (c5.trans' c6))
  clear C5 hE5
  rw [aw_left3]
  have hr6 := fun i x hi => hr3 i x hi
  obtain ⟨x, b3, o3, u1, u2, hx, rfl, htx, g0, g1, g2, g3, g4, g5, g6, g7, g8, g9, g10⟩ := Recs.cells hr3 (c4.trans' (c5.trans' c6)) 0 (by decide)
  obtain rfl : undoRec 1 (upRec 0) = x := hx.out
  simp only [undoRec, upRec, Nat.zero_mul, Nat.add_zero] at g5 g8
  clear g0 g1 g2 g3 g4 g6 g7 g9 g10 hr3 hr6 ho3 ho4 hv4 c4 c5 c6 hx htx
  obtain ⟨a4, k4, rfl, _⟩ := hv6.out
  go_wp2_with fail
  refine (refSame _ _ [170, 150, 128] [170, 150, 128] _ (Rd.mono hv6.out ((Chg.refl NoB _).alloc _)) (Rd.of_blk (l := [170, 150, 128]) (enc := encI) (size := 1) (fun _ => rfl) (blk_new _ _) rfl (by decide)) true (hid (by decide))).mono ?_
  rintro e w7 ⟨rfl, n7, rfl⟩
  go_wp2
  go_ret
  exact ⟨rfl, (C6.out.alloc _).drewN n7⟩
end Go.Proofs.Ytkkhlomfddalnaa
