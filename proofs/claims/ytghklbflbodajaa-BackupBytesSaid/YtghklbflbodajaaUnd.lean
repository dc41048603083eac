import Derived.Test.YtghklbflbodajaaA3
import Derived.Test.YtghklbflbodajaaA2
import Derived.Test.YtghklbflbodajaaUndoFn
namespace Go.Proofs.Ytghklbflbodajaa
open Go.RowKit Go.ChangeMaps Go.MapKept
set_option linter.unusedVariables false
set_option linter.unusedSimpArgs false
set_option linter.unnecessarySimpa false
set_option maxHeartbeats 8000000

/-- What Promote does to a page. -/
def Pg.undo (p : Pg) (r : Rec) : Pg := let q := p.put r.off r.after p.at_; if q.2 = 0 then q.1 else p
theorem undo_size (p : Pg) (r : Rec) (h : p.data.size ≤ 220) : (p.undo r).data.size ≤ 220 := by
  unfold Pg.undo
  dsimp only
  split
  · exact put_size _ _ _ _
  · exact h

/-- What undoes is done to the pages. -/
def undoPg (PL : List Pg) (u : List Rec) : List Pg := u.foldl (fun ps r => pSet ps r.page (fun p => p.undo r)) PL
/-- .. of all open transactions. -/
def promOf (L : List Ent) : List (Int × Int) → List Pg → List Pg × Int
  | [], ps => (ps, 0)
  | x :: xs, ps => if (undoOf L x.1 x.2 0).2 = 0 then promOf L xs (undoPg ps (undoOf L x.1 x.2 0).1) else ([], (undoOf L x.1 x.2 0).2)
theorem undoPg_len (u : List Rec) : ∀ PL : List Pg, (undoPg PL u).length = PL.length := by
  induction u with
  | nil => intro PL; rfl
  | cons r u ih => intro PL; unfold undoPg at *; rw [List.foldl_cons, ih, pSet_len]
theorem undoPg_snoc {u : List Rec} {m : Nat} (h : m < u.length) (PL : List Pg) : undoPg PL (u.take (m + 1)) = pSet (undoPg PL (u.take m)) u[m].page (fun p => p.undo u[m]) := by
  unfold undoPg; rw [take_snoc' h, List.foldl_append]; rfl
theorem undo_at (p : Pg) (r : Rec) : (p.undo r).at_ = p.at_ := by
  unfold Pg.undo
  dsimp only
  split
  · rename_i h
    unfold Pg.put at h ⊢
    split at h
    · simp at h
    · split at h
      · simp at h
      · split at h
        · simp at h
        · rename_i h1 h2 h3
          rw [if_neg h1, if_neg h2, if_neg h3]
  · rfl
theorem pSet_mem {PL : List Pg} {Q : Pg → Prop} (h : ∀ q ∈ PL, Q q) (n : Int) {f : Pg → Pg} (hf : ∀ p, Q p → Q (f p)) : ∀ q ∈ pSet PL n f, Q q := by
  intro q hq
  unfold pSet at hq
  split at hq
  · exact h q hq
  · rcases List.mem_or_eq_of_mem_set hq with h1 | rfl
    · exact h q h1
    · have : n.toNat < PL.length := by omega
      rw [getD_at PL _ this]
      exact hf _ (h _ (List.getElem_mem _))
/-- The transactions' own pages, while they are undone. -/
structure PrI (w wr : World) (g : Nat) (post : List Value) (n : Nat) (ps : List Pg) : Prop where
  blk : wr.heap[g]? = some (.cells (pgsC ps ++ post).toArray 40 (0, 0))
  len : ps.length = n
  sz : ∀ q ∈ ps, q.data.size ≤ 220 ∧ fits q.at_
  chg : Chg NoB w wr
  ge : w.heap.size ≤ g
theorem PrI.keep {w wr w' : World} {g n : Nat} {post : List Value} {ps : List Pg} {S : Nat → Prop} (h : PrI w wr g post n ps) (hc : Chg NoB wr w') : PrI w w' g post n ps := ⟨hc.heap h.blk nob, h.len, h.sz, h.chg.trans' hc, h.ge⟩
theorem PrI.set {w wr w' : World} {g n : Nat} {post : List Value} {ps : List Pg} (h : PrI w wr g post n ps) {p : Int} {r : Rec} {ps' : List Pg} (he : ps' = pSet ps p (fun q => q.undo r)) (hb : w'.heap[g]? = some (.cells (pgsC ps' ++ post).toArray 40 (0, 0))) (hc : Chg (OneB g) wr w') : PrI w w' g post n ps' :=
  ⟨hb, by rw [he, pSet_len]; exact h.len, by
    rw [he]
    exact pSet_mem h.sz p (fun q hq => ⟨undo_size q r hq.1, by rw [undo_at]; exact hq.2⟩), h.chg.trans hc (fun i hi => .inr (by have h' : i = g := hi; rw [h']; exact h.ge)), h.ge⟩
theorem OwW.post {w : World} {n size : Nat} {e : TypeId} {v : Value} {xs : List Value} (h : OwW w e size v n xs) (hn : 0 < n) : ∃ g cap post, v = .slice (some ⟨g, 0, none⟩) n cap ∧ w.heap[g]? = some (.cells (xs ++ post).toArray e (0, 0)) ∧ n ≤ cap := by
  obtain ⟨hl, h2⟩ := h
  rcases h2 with ⟨rfl, h0⟩ | ⟨g, cap, cur, rfl, hg, hn1, hm, hs, ht⟩
  · omega
  · exact ⟨g, cap, cur.toList.drop (n * size), rfl, by rw [hg, ← ht, List.take_append_drop], hn1⟩
theorem pUndo_calls (v : Value) (l : List Ent) (txn last stop : Int) (w : World) (hv : Ents w v l) (hl : l.length ≤ 1000000) (res : List Rec × Int) (hres : Hid (res = undoOf l txn last stop)) :
    Calls Try.prog 45 #[v, .int .i64 txn, .int .i64 last, .int .i64 stop] w fun e w' => ∃ vu, e = .returned (.tuple #[vu, .int .i64 res.2]) ∧ Hid (w'.ownsRow w.heap.size 78 11 vu res.1.length (res.1.flatMap Rec.csn)) ∧ Hid (Chg NoB w w') := by
  rw [hres.out]
  exact (undo_calls v l txn last stop w hv hl).mono fun e w' ⟨vu, h1, h2, h3⟩ => ⟨vu, h1, h2, h3⟩
theorem undo_of_put {q : Pg} {r : Rec} {q' : Pg × Int} (h : q' = q.put r.off r.after q.at_) : q.undo r = if q'.2 = 0 then q'.1 else q := by rw [h]; rfl
/-- What undoes has its texts and its places of the list. -/
theorem undoOf_ok {l : List Ent} (hok : ∀ x ∈ l, x.r.okk) (txn last stop : Int) : ∀ r ∈ (undoOf l txn last stop).1, r.after.size ≤ 2 ^ 62 ∧ fits r.off := by
  intro r hr
  unfold undoOf orErr at hr
  split at hr
  · split at hr
    · obtain ⟨y, hy, rfl⟩ := List.mem_map.1 hr
      have hy' := (List.mem_filter.1 hy).1
      have key : ∀ (n : Nat) (p : Int), cntLe l p = n → ∀ y ∈ (walk l txn (goTo stop) true p).1, ∃ x ∈ l, x.r = y.2 := by
        intro n
        induction n using Nat.strongRecOn with
        | ind n ih =>
          intro p hp y hy
          cases hg : goTo stop p with
          | false => rw [walk_stop hg] at hy; simp at hy
          | true =>
            cases he : entAt l p with
            | none => rw [walk_none hg he] at hy; simp at hy
            | some r =>
              cases hb : recBad txn p r with
              | true => rw [walk_bad hg he hb] at hy; simp at hy
              | false =>
                rw [walk_step hg he hb] at hy
                rcases List.mem_cons.1 hy with rfl | hy
                · exact ⟨_, entAt_mem he, rfl⟩
                · exact ih _ (by rw [← hp]; exact cnt_lt he (next_lt (skips := true) hb)) _ rfl y hy
      obtain ⟨x, hx, hxe⟩ := key _ _ rfl y hy'
      have := hok x hx
      rw [hxe] at this
      exact ⟨this.2.1, this.1.2.2.2.1⟩
    · simp at hr
  · simp at hr
end Go.Proofs.Ytghklbflbodajaa
