import Derived.Test.YtghklbflbodajaaA2
import Derived.Test.YtghklbflbodajaaA1
import Derived.Laws.OwnMore
import Derived.Laws.MakeOwn
import Derived.Laws.CopyRow
namespace Go.Proofs.Ytghklbflbodajaa
open Go.RowKit Go.ChangeMaps Go.MapKept
set_option linter.unusedVariables false
set_option linter.unusedSimpArgs false
set_option linter.unnecessarySimpa false

def encP (p : Pg) : List Value := [.int .i64 p.at_, .string p.data]
def pgsC (l : List Pg) : List Value := l.flatMap encP
theorem pgsC_len (l : List Pg) : (pgsC l).length = l.length * 2 := by
  induction l with
  | nil => rfl
  | cons x l ih => simp only [pgsC, encP, List.flatMap_cons, List.length_append, List.length_cons, List.length_nil] at *; omega
theorem pgsC_set (l : List Pg) (k : Nat) (p : Pg) (hk : k < l.length) : (pgsC l).take (k * 2) ++ encP p ++ (pgsC l).drop (k * 2 + 2) = pgsC (l.set k p) := by
  induction l generalizing k with
  | nil => simp at hk
  | cons x l ih =>
    cases k with
    | zero => simp [pgsC, encP]
    | succ k =>
      have e : (k + 1) * 2 = k * 2 + 2 := by omega
      have := ih k (by simpa using hk)
      rw [e]
      simp only [pgsC, encP, List.flatMap_cons, List.set_cons_succ] at *
      simp [this]
theorem pgsC_get (l : List Pg) (k : Nat) (hk : k < l.length) : (pgsC l)[k * 2]? = some (.int .i64 l[k].at_) ∧ (pgsC l)[k * 2 + 1]? = some (.string l[k].data) := by
  induction l generalizing k with
  | nil => simp at hk
  | cons x l ih =>
    cases k with
    | zero => simp [pgsC, encP]
    | succ k =>
      have e : (k + 1) * 2 = k * 2 + 2 := by omega
      have := ih k (by simpa using hk)
      rw [e]
      simp only [pgsC, encP, List.flatMap_cons] at *
      simpa using this

/-- Its numbers fit, its texts are short. -/
def Rec.okk (r : Rec) : Prop := r.ok ∧ r.before.size ≤ 2 ^ 62 ∧ r.after.size ≤ 2 ^ 62
/-- A record's cells lie at an address. -/
def RcAt (w : World) (b o : Nat) (r : Rec) (v1 v2 : Value) : Prop := ∀ j u, (r.cs v1 v2)[j]? = some u → w.cell? ⟨b, o + j, none⟩ = some u
theorem RcAt.cells {w : World} {b o : Nat} {r : Rec} {v1 v2 : Value} (h : RcAt w b o r v1 v2) :
    w.cell? ⟨b, o, none⟩ = some (.int .i64 r.kind) ∧ w.cell? ⟨b, o + 1, none⟩ = some (.int .i64 r.txn) ∧ w.cell? ⟨b, o + 2, none⟩ = some (.int .i64 r.page) ∧ w.cell? ⟨b, o + 3, none⟩ = some (.int .i64 r.off) ∧ w.cell? ⟨b, o + 4, none⟩ = some (.int .i64 r.prev) ∧
    w.cell? ⟨b, o + 5, none⟩ = some (.int .i64 r.next) ∧ w.cell? ⟨b, o + 6, none⟩ = some (.int .i64 r.beg) ∧ w.cell? ⟨b, o + 7, none⟩ = some (.string r.before) ∧ w.cell? ⟨b, o + 8, none⟩ = some (.string r.after) :=
  ⟨h 0 _ rfl, h 1 _ rfl, h 2 _ rfl, h 3 _ rfl, h 4 _ rfl, h 5 _ rfl, h 6 _ rfl, h 7 _ rfl, h 8 _ rfl⟩
theorem RcAt.keep {w w' : World} {b o : Nat} {r : Rec} {v1 v2 : Value} {S : Nat → Prop} (h : RcAt w b o r v1 v2) (hc : Chg S w w') (hs : ¬ S b) : RcAt w' b o r v1 v2 := fun j u hu => hc.cell (h j u hu) hs

/-- A page among others, in a block. -/
theorem pg_cells {w : World} {g : Nat} {t : TypeId} {pre post : List Value} {PL : List Pg} {f : Nat × Nat} (hg : w.heap[g]? = some (.cells (pre ++ pgsC PL ++ post).toArray t f)) (k : Nat) (hk : k < PL.length) :
    w.cell? ⟨g, pre.length + k * 2, none⟩ = some (.int .i64 PL[k].at_) ∧ w.cell? ⟨g, pre.length + k * 2 + 1, none⟩ = some (.string PL[k].data) := by
  obtain ⟨h1, h2⟩ := pgsC_get PL k hk
  have hl := pgsC_len PL
  rw [cell_blk hg, cell_blk hg]
  constructor
  · rw [List.getElem?_toArray, List.append_assoc, List.getElem?_append_right (by omega), List.getElem?_append_left (by omega), Nat.add_sub_cancel_left]; exact h1
  · rw [List.getElem?_toArray, List.append_assoc, List.getElem?_append_right (by omega), List.getElem?_append_left (by omega), show pre.length + k * 2 + 1 - pre.length = k * 2 + 1 by omega]; exact h2
theorem pg_splice (pre post : List Value) (PL : List Pg) (k : Nat) (p : Pg) (hk : k < PL.length) :
    (pre ++ pgsC PL ++ post).take (pre.length + k * 2) ++ encP p ++ (pre ++ pgsC PL ++ post).drop (pre.length + k * 2 + (encP p).length) = pre ++ pgsC (PL.set k p) ++ post := by
  have e1 : (encP p).length = 2 := rfl
  have hl := pgsC_len PL
  rw [← pgsC_set PL k p hk, e1, Nat.add_assoc, List.append_assoc pre, List.take_length_add_append, List.drop_length_add_append, List.take_append_of_le_length (by omega), List.drop_append_of_le_length (by omega)]
  simp
theorem getD_at (PL : List Pg) (k : Nat) (hk : k < PL.length) : PL.getD k Pg.none = PL[k] := by simp [hk]

theorem put_size (p : Pg) (off : Int) (s : ByteArray) (a : Int) : (p.put off s a).1.data.size ≤ 220 := by
  unfold Pg.put
  split
  · simp [Pg.none, ByteArray.size]
  · split
    · simp [Pg.none, ByteArray.size]
    · split
      · simp [Pg.none, ByteArray.size]
      · rename_i h1 h2 h3
        have h4 : p.data.size = 220 := by simp [Pg.right] at h1; exact h1.2.2
        have h5 : p.data.data.toList.length = 220 := by rw [← Lib.size_eq]; exact h4
        have h6 : s.data.toList.length = s.size := (Lib.size_eq s).symm
        simp only [ByteArray.size, List.size_toArray]
        rw [splice_len (by omega)]; omega
/-- One cell is stored into a block that is known whole. -/
theorem step_store1 {P : Program} {ops : Array Oper} {rest : List Oper} {o : Oper} {a : Act} {w : World} {Q : Exit → Act → World → Prop} (hgd : o.guard = none) {ty : TypeId} {x y : Operand} (ho : o.op = .store ty x y)
    (g off : Nat) {v : Value} (hx : a.eval x = .pointer (some ⟨g, off, none⟩)) (hy : a.eval y = v) (hv : v.cells = #[v]) (h1 : v.oneCell' = true) {t : TypeId} {cs : List Value} (hg : w.heap[g]? = some (.cells cs.toArray t (0, 0))) (hlt : off < cs.length) (hi : (P.info? ty).map (·.size) = some 1)
    (hK : ∀ w', w'.heap[g]? = some (.cells (cs.set off v).toArray t (0, 0)) → Chg (OneB g) w w' → w'.heap.size = w.heap.size → wpList P ops Q rest (a.put o.dst undef) w') : wpList P ops Q (o :: rest) a w := by
  have hst := run_storeCells_at P g off t [v] 0 cs.toArray w hg (by simp; omega) (by simpa using h1)
  simp only [Nat.add_zero] at hst
  have hset : cs.toArray.toList.take off ++ [v] ++ cs.toArray.toList.drop (off + [v].length) = cs.set off v := by
    simp only [List.length_cons, List.length_nil, Nat.zero_add]
    rw [List.set_eq_take_append_cons_drop, if_pos hlt]; simp
  have hsv : (storeVar ty ⟨g, off, none⟩ v).run P w = .ok () (w.setRow g (cs.set off v).toArray) := by
    unfold storeVar
    cases hq : P.info? ty with
    | none => simp [hq] at hi
    | some i =>
      simp [hq] at hi
      rw [hset] at hst
      simp [sizeOf, typeInfo, hq, hi, hv, hst]
  refine step_skip (w' := w.setRow g (cs.set off v).toArray) (wanted_none hgd) ?_ (hK _ (setRow_heap w g _ _ t _ hg) ((Chg.refl (OneB g) w).setRow (.inl (OneB.self g)) _) (by simp))
  simp [execOp, ho, hx, hy, Instr.storeAt, Instr.sureAddr, hsv, Result.andThen]

/-- What a record does to its page. -/
def Pg.apply (p : Pg) (at_ : Int) (r : Rec) : Pg := if (r.kind = 1 ∨ r.kind = 2) ∧ p.at_ < at_ then (let q := p.put r.off r.after at_; if q.2 = 0 then q.1 else p) else p
theorem apply_size (p : Pg) (at_ : Int) (r : Rec) (h : p.data.size ≤ 220) : (p.apply at_ r).data.size ≤ 220 := by
  unfold Pg.apply
  dsimp only
  split
  · split
    · exact put_size _ _ _ _
    · exact h
  · exact h
/-- .. to the page that it names. -/
def pSet (PL : List Pg) (n : Int) (f : Pg → Pg) : List Pg := if n < 0 ∨ (PL.length : Int) ≤ n then PL else PL.set n.toNat (f (PL.getD n.toNat Pg.none))
theorem pSet_len (PL : List Pg) (n : Int) (f : Pg → Pg) : (pSet PL n f).length = PL.length := by unfold pSet; split <;> simp
theorem pSet_size {PL : List Pg} (h : ∀ q ∈ PL, q.data.size ≤ 220) (n : Int) {f : Pg → Pg} (hf : ∀ p, p.data.size ≤ 220 → (f p).data.size ≤ 220) : ∀ q ∈ pSet PL n f, q.data.size ≤ 220 := by
  intro q hq
  unfold pSet at hq
  split at hq
  · exact h q hq
  · rcases List.mem_or_eq_of_mem_set hq with h1 | rfl
    · exact h q h1
    · have : n.toNat < PL.length := by omega
      rw [getD_at PL _ this]
      exact hf _ (h _ (List.getElem_mem _))
end Go.Proofs.Ytghklbflbodajaa

namespace Go.Proofs.Ytghklbflbodajaa
open Go.RowKit Go.ChangeMaps Go.MapKept
set_option linter.unusedVariables false
set_option linter.unusedSimpArgs false
set_option linter.unnecessarySimpa false

theorem flatMap_inv {α : Type} {size : Nat} {enc : α → List Value} (he : ∀ x, (enc x).length = size) {l : List α} {j : Nat} {u : Value} (h : (l.flatMap enc)[j]? = some u) : ∃ i x r, l[i]? = some x ∧ (enc x)[r]? = some u ∧ j = i * size + r := by
  induction l generalizing j with
  | nil => simp at h
  | cons y l ih =>
    rw [List.flatMap_cons] at h
    by_cases hj : j < size
    · rw [List.getElem?_append_left (by rw [he]; exact hj)] at h
      exact ⟨0, y, j, rfl, h, by omega⟩
    · rw [List.getElem?_append_right (by rw [he]; omega), he] at h
      obtain ⟨i, x, r, h1, h2, h3⟩ := ih h
      exact ⟨i + 1, x, r, by simpa using h1, h2, by rw [Nat.add_mul]; omega⟩

theorem newsB {w : World} {b : Nat} {cs : List Value} {t : TypeId} {f : Nat × Nat} (h : w.heap[b]? = some (.cells cs.toArray t f)) : ∀ j u, cs[j]? = some u → w.cell? ((⟨b, 0, none⟩ : Addr).add j) = some u := fun j u hu => by
  have e1 : (⟨b, 0, none⟩ : Addr).add j = ⟨b, j, none⟩ := by unfold Addr.add; split <;> simp_all
  rw [e1, cell_blk h]; simpa using hu
section
variable {P : Program} {w : World} {ops : Array Oper} {rest : List Oper} {o : Oper} {a : Act} {Q : Exit → Act → World → Prop} {e : TypeId} {size n : Nat} {v : Value} {xs : List Value}
/-- append of one element, just laid into the block b, behind a guard that holds. -/
theorem step_app1w {t : TypeId} {z : Value} {bytes : Nat} (T : SlT P t e z size bytes) (hg : Region.wanted o (yielded ops a.tmps) = true) (s x : Operand) (hop : o.op = .call { callee := .builtin .append, args := #[s, x], argTypes := #[t, t] })
    {base : Nat} (hown : w.ownsRow base e size v n xs) (hs : a.eval s = v) (b : Nat) (cs : List Value) (hx : a.eval x = .slice (some ⟨b, 0, none⟩) 1 1)
    {c : Array Value} {e' : TypeId} {f : Nat × Nat} (hb : w.heap[b]? = some (.cells c e' f)) (hc : c = cs.toArray) (hl : cs.length = size) (h1 : ∀ u ∈ cs, u.oneCell' = true)
    (hn : (n + 1) * bytes ≤ 140737488355328) (hn2 : n + 1 ≤ maxLen) (hbase : base ≤ w.heap.size)
    (hK : ∀ v' w', w'.ownsRow base e size v' (n + 1) (xs ++ cs) → Chg (OwnB v) w w' → (∀ i, OwnB v' i → OwnB v i ∨ w.heap.size ≤ i) → wpList P ops Q rest (a.put o.dst v') w') : wpList P ops Q (o :: rest) a w := by
  subst hc
  obtain ⟨v', w', hr, h2, h3, h4, h5⟩ := run_app T o.type hown ⟨b, 0, none⟩ 1 1 cs (by omega) (newsB hb) h1 hn hn2 hbase
  refine step_run hg ?_ (hK v' w' h2 h3 h4)
  simp [execOp, hop, resolve, invoke, builtin, hs, hx, hr, Result.andThen]
/-- append of a slice that is read as a list. -/
theorem step_appR {t : TypeId} {z : Value} {bytes : Nat} (T : SlT P t e z size bytes) (hg : o.guard = none) (s x : Operand) (hop : o.op = .call { callee := .builtin .append, args := #[s, x], argTypes := #[t, t] })
    (hown : OwW w e size v n xs) (hs : a.eval s = v) {α : Type} {enc : α → List Value} (he : ∀ x, (enc x).length = size) (h1 : ∀ x, ∀ u ∈ enc x, u.oneCell' = true) {v2 : Value} {l2 : List α} (hr : Rd w size enc v2 l2) (hx : a.eval x = v2)
    (hn : (n + l2.length) * bytes ≤ 140737488355328) (hn2 : n + l2.length ≤ maxLen)
    (hK : ∀ v' w', OwW w' e size v' (n + l2.length) (xs ++ l2.flatMap enc) → Chg (OwnB v) w w' → (∀ i, OwnB v' i → OwnB v i ∨ w.heap.size ≤ i) → wpList P ops Q rest (a.put o.dst v') w') : wpList P ops Q (o :: rest) a w := by
  obtain ⟨ad, c, rfl, hc, hm, hcell⟩ := hr
  have hfl : (l2.flatMap enc).length = l2.length * size := by
    clear hcell hn hn2 hK hc hm hx
    induction l2 with
    | nil => simp
    | cons y l ih => rw [List.flatMap_cons, List.length_append, he, ih, List.length_cons, Nat.add_mul]; omega
  cases ad with
  | none =>
    have h0 : l2 = [] := by
      cases l2 with
      | nil => rfl
      | cons y l => obtain ⟨b, off, h, _⟩ := hcell 0 y rfl; cases h
    subst h0
    have hrun : (Builtin.append_ #[t, t] o.type #[v, .slice none 0 c]).run P w = .ok v w := by
      obtain ⟨i, hi, hz0, hz1, hz2⟩ := info_parts T.inf
      rcases hown.2 with ⟨rfl, rfl⟩ | ⟨g, cap, cur, rfl, _, hnc, _⟩
      · simp [Builtin.append_, run_underlying T.und, sizeOf, typeInfo, hi, Builtin.lenOf, Builtin.firstCells]
      · simp [Builtin.append_, run_underlying T.und, sizeOf, typeInfo, hi, Builtin.lenOf, Builtin.firstCells, hnc, storeCells]
    refine step_run (wanted_none hg) ?_ (hK v w (by simpa using hown) (Chg.refl _ _) (fun i hi => .inl hi))
    simp [execOp, hop, resolve, invoke, builtin, hs, hx, hrun, Result.andThen]
  | some ad =>
    refine step_appW T hg s x hop hown hs ad l2.length c (l2.flatMap enc) hx hfl (fun j u hj => ?_) (fun u hu => ?_) hn hn2 hK
    · obtain ⟨i, y, r, g1, g2, rfl⟩ := flatMap_inv he hj
      obtain ⟨b, off, hb, g3⟩ := hcell i y g1
      cases hb
      have e1 : (⟨b, off, none⟩ : Addr).add (i * size + r) = ⟨b, off + i * size + r, none⟩ := by unfold Addr.add; split <;> simp_all [Nat.add_assoc]
      rw [e1]
      exact g3 r u g2
    · obtain ⟨y, _, hy⟩ := List.mem_flatMap.1 hu
      exact h1 y u hy
end

end Go.Proofs.Ytghklbflbodajaa

namespace Go.Proofs.Ytghklbflbodajaa
open Go.RowKit Go.ChangeMaps Go.MapKept
set_option linter.unusedVariables false
set_option linter.unusedSimpArgs false
set_option linter.unnecessarySimpa false
set_option maxHeartbeats 8000000

set_option maxRecDepth 100000 in
theorem apply_calls (p : Pg) (at_ : Int) (r : Rec) (v1 v2 : Value) (w : World) (res : Pg) (hres : Hid (res = p.apply at_ r)) (hp : p.data.size ≤ 2 ^ 62) (hs : r.after.size ≤ 2 ^ 62) (ho : fits r.off) (hn : fits at_) :
    Calls Try.prog 53 #[.agg #[.int .i64 p.at_, .string p.data], .int .i64 at_, .agg #[.int .i64 r.kind, .int .i64 r.txn, .int .i64 r.page, .int .i64 r.off, .int .i64 r.prev, .int .i64 r.next, .int .i64 r.beg, .string r.before, .string r.after, v1, v2]] w fun e w' => e = .returned (.agg #[.int .i64 res.at_, .string res.data]) ∧ Chg NoB w w' := by
  obtain ⟨kd, hkd⟩ := named r.kind
  have hr := hres.out
  unfold Pg.apply at hr
  rw [← hkd.out] at hr ⊢
  have hb0 : ((((w.alloc (.cells #[.int .i64 p.at_, .string p.data] 40)).alloc (.cells #[.int .i64 kd, .int .i64 r.txn, .int .i64 r.page, .int .i64 r.off, .int .i64 r.prev, .int .i64 r.next, .int .i64 r.beg, .string r.before, .string r.after, v1, v2] 78)).alloc (.cells #[.int .i64 0, .string ⟨#[]⟩] 40)).heap[w.heap.size]? = some (.cells #[.int .i64 p.at_, .string p.data] 40 (0, 0))) := blk_alloc (blk_alloc (blk_new _ _) _) _
  have hb6 : ((((w.alloc (.cells #[.int .i64 p.at_, .string p.data] 40)).alloc (.cells #[.int .i64 kd, .int .i64 r.txn, .int .i64 r.page, .int .i64 r.off, .int .i64 r.prev, .int .i64 r.next, .int .i64 r.beg, .string r.before, .string r.after, v1, v2] 78)).alloc (.cells #[.int .i64 0, .string ⟨#[]⟩] 40)).heap[w.heap.size + 1 + 1]? = some (.cells #[.int .i64 0, .string ⟨#[]⟩] 40 (0, 0))) := by
    have := blk_new ((w.alloc (.cells #[.int .i64 p.at_, .string p.data] 40)).alloc (.cells #[.int .i64 kd, .int .i64 r.txn, .int .i64 r.page, .int .i64 r.off, .int .i64 r.prev, .int .i64 r.next, .int .i64 r.beg, .string r.before, .string r.after, v1, v2] 78)) (.cells #[.int .i64 0, .string ⟨#[]⟩] 40)
    rw [World.size_alloc, World.size_alloc] at this; exact this
  replace hb0 := hid hb0
  replace hb6 := hid hb6
  have hcA : Chg NoB w (((w.alloc (.cells #[.int .i64 p.at_, .string p.data] 40)).alloc (.cells #[.int .i64 kd, .int .i64 r.txn, .int .i64 r.page, .int .i64 r.off, .int .i64 r.prev, .int .i64 r.next, .int .i64 r.beg, .string r.before, .string r.after, v1, v2] 78)).alloc (.cells #[.int .i64 0, .string ⟨#[]⟩] 40)) := (((Chg.refl _ _).alloc _).alloc _).alloc _
  replace hcA := hid hcA
  by_cases hc : (kd = 1 ∨ kd = 2) ∧ p.at_ < at_
  · obtain ⟨⟨q, er⟩, hq⟩ := named (p.put r.off r.after at_)
    rw [if_pos hc, ← hq.out] at hr
    obtain ⟨hk, hlt⟩ := hc
    have hge : ¬ at_ ≤ p.at_ := by omega
    by_cases h0 : er = 0
    · subst h0
      have hrq : res = q := hr
      subst hrq
      clear hr hres hkd
      rcases hk with rfl | rfl
      all_goals
        go_enter Try.func53, Try.ntmps53
        go_wp2_with (first
          | (go_at_call 46; refine (put_calls p r.off at_ r.after _ (res, 0) hq hp hs ho hn).mono ?_; rintro en w1 ⟨rfl, hc1⟩; have hb1 := hc1.heap hb6.out nob; have hz1 := hc1.size; simp only [World.size_alloc] at hz1; simp only [Pg.val])
          | ((fail_if_success (fail_if_success (with_reducible change wpList _ _ _ (Oper.mk _ (.store 40 _ _) _ _ _ _ :: _) _ _))); refine step_storeRow rfl rfl w1.heap.size rfl rfl (blk_new _ _) (by kernel_rfl) rfl (by simp [Value.oneCell']) ?_; intro w2 hb2 hc2 hs2)
          | ((fail_if_success (fail_if_success (with_reducible change wpList _ _ _ (Oper.mk _ (.load 40 _) _ _ _ _ :: _) _ _))); refine step_loadRow rfl rfl w1.heap.size rfl hb2 Try.underlying40 (by kernel_rfl) ?_)
          | ((fail_if_success (fail_if_success (with_reducible change wpList _ _ _ (Oper.mk _ (.store 40 _ _) _ _ _ _ :: _) _ _))); refine step_storeRow rfl rfl (w.heap.size + 1 + 1) rfl rfl (hc2.heap (blk_alloc hb1 _) (fun x => by have h' : w.heap.size + 1 + 1 = w1.heap.size := x; omega)) (by kernel_rfl) rfl (by simp [Value.oneCell']) ?_; intro w3 hb3 hc3 hs3))
        refine bodyPost_ret (results_cell_row rfl _ _ (w.heap.size + 1 + 1) _ _ _ _ rfl hb3 Try.underlying40 rfl (by kernel_rfl)) rfl ?_
        exact ⟨rfl, (((hcA.out.trans' hc1).alloc _).new hc2 (fun i x => by have h' : i = w1.heap.size := x; omega)).new hc3 (fun i x => by have h' : i = w.heap.size + 1 + 1 := x; omega)⟩
    · rw [if_neg h0] at hr
      subst hr
      clear hres hkd
      rcases hk with rfl | rfl
      all_goals
        go_enter Try.func53, Try.ntmps53
        go_wp2_with (first
          | (go_at_call 46; refine (put_calls res r.off at_ r.after _ (q, er) hq hp hs ho hn).mono ?_; rintro en w1 ⟨rfl, hc1⟩; have hb1 := hc1.heap hb6.out nob; have hb9 := hc1.heap hb0.out nob; have hz1 := hc1.size; simp only [World.size_alloc] at hz1; simp only [Pg.val])
          | ((fail_if_success (fail_if_success (with_reducible change wpList _ _ _ (Oper.mk _ (.store 40 _ _) _ _ _ _ :: _) _ _))); refine step_storeRow rfl rfl w1.heap.size rfl rfl (blk_new _ _) (by kernel_rfl) rfl (by simp [Value.oneCell']) ?_; intro w2 hb2 hc2 hs2)
          | ((fail_if_success (fail_if_success (with_reducible change wpList _ _ _ (Oper.mk _ (.load 40 _) _ _ _ _ :: _) _ _))); refine step_loadRow rfl rfl w.heap.size rfl (hc2.heap (blk_alloc hb9 _) (fun x => by have h' : w.heap.size = w1.heap.size := x; omega)) Try.underlying40 (by kernel_rfl) ?_)
          | ((fail_if_success (fail_if_success (with_reducible change wpList _ _ _ (Oper.mk _ (.store 40 _ _) _ _ _ _ :: _) _ _))); refine step_storeRow rfl rfl (w.heap.size + 1 + 1) rfl rfl (hc2.heap (blk_alloc hb1 _) (fun x => by have h' : w.heap.size + 1 + 1 = w1.heap.size := x; omega)) (by kernel_rfl) rfl (by simp [Value.oneCell']) ?_; intro w3 hb3 hc3 hs3))
        refine bodyPost_ret (results_cell_row rfl _ _ (w.heap.size + 1 + 1) _ _ _ _ rfl hb3 Try.underlying40 rfl (by kernel_rfl)) rfl ?_
        exact ⟨rfl, (((hcA.out.trans' hc1).alloc _).new hc2 (fun i x => by have h' : i = w1.heap.size := x; omega)).new hc3 (fun i x => by have h' : i = w.heap.size + 1 + 1 := x; omega)⟩
  · rw [if_neg hc] at hr
    subst hr
    clear hres hkd
    have hcs : (¬ kd = 1 ∧ ¬ kd = 2) ∨ (kd = 1 ∧ at_ ≤ res.at_) ∨ (kd = 2 ∧ at_ ≤ res.at_) := by omega
    clear hc
    rcases hcs with ⟨h1, h2⟩ | ⟨rfl, h1⟩ | ⟨rfl, h1⟩
    all_goals
      go_enter Try.func53, Try.ntmps53
      go_wp2_with ((fail_if_success (fail_if_success (with_reducible change wpList _ _ _ (Oper.mk _ (.store 40 _ _) _ _ _ _ :: _) _ _))); refine step_storeRow rfl rfl (w.heap.size + 1 + 1) rfl rfl hb6.out (by kernel_rfl) rfl (by simp [Value.oneCell']) ?_; intro w3 hb3 hc3 hs3)
      refine bodyPost_ret (results_cell_row rfl _ _ (w.heap.size + 1 + 1) _ _ _ _ rfl hb3 Try.underlying40 rfl (by kernel_rfl)) rfl ?_
      exact ⟨rfl, hcA.out.new hc3 (fun i x => by have h' : i = w.heap.size + 1 + 1 := x; omega)⟩
end Go.Proofs.Ytghklbflbodajaa

namespace Go.Proofs.Ytghklbflbodajaa
open Go.RowKit Go.ChangeMaps Go.MapKept
set_option linter.unusedVariables false
set_option linter.unusedSimpArgs false
set_option linter.unnecessarySimpa false
set_option maxHeartbeats 8000000

/-- copy of m elements into a block that is known whole -/
theorem step_copyE {P : Program} {ops : Array Oper} {rest : List Oper} {o : Oper} {a : Act} {w : World} {Q : Exit → Act → World → Prop} (hgd : o.guard = none) (d x : Operand) (dT sT : TypeId) (hop : o.op = .call { callee := .builtin .copy, args := #[d, x], argTypes := #[dT, sT] })
    (elem size : TypeId) (hu : P.underlying dT = some (.slice elem)) (hs : (P.info? elem).map (·.size) = some size) (g off dLen dCap : Nat) (hd : a.eval d = .slice (some ⟨g, off, none⟩) dLen dCap) (ad : Addr) (m c : Nat) (hx : a.eval x = .slice (some ad) m c)
    (k : Nat) (hm : Nat.min m dLen = k) {old : List Value} {t : TypeId} (hg : w.heap[g]? = some (.cells old.toArray t (0, 0))) (cs : List Value) (hn : cs.length = k * size) (hsrc : ∀ j v, cs[j]? = some v → w.cell? (ad.add j) = some v) (hfit : off + cs.length ≤ old.length) (h1 : ∀ v ∈ cs, v.oneCell' = true)
    (hK : ∀ w', w'.heap[g]? = some (.cells (old.take off ++ cs ++ old.drop (off + cs.length)).toArray t (0, 0)) → Chg (OneB g) w w' → w'.heap.size = w.heap.size → wpList P ops Q rest (a.put o.dst (goInt k)) w') : wpList P ops Q (o :: rest) a w := by
  have hl := run_loadCells_list (P := P) w ad cs hsrc
  have hst := run_storeCells_at P g off t cs 0 old.toArray w hg (by simpa using hfit) h1
  simp only [Nat.add_zero] at hst
  have hr : (Builtin.copy_ #[dT, sT] o.type #[.slice (some ⟨g, off, none⟩) dLen dCap, .slice (some ad) m c]).run P w = .ok (goInt k) (w.setRow g (old.take off ++ cs ++ old.drop (off + cs.length)).toArray) := by
    cases hq : P.info? elem with
    | none => simp [hq] at hs
    | some i =>
      have hi : i.size = size := by simpa [hq] using hs
      simp [Builtin.copy_, run_underlying hu, Builtin.lenOf, Builtin.firstCells, sizeOf, typeInfo, hq, hi, hm, ← hn, hl, hst]
  refine step_run (v := goInt k) (w' := w.setRow g (old.take off ++ cs ++ old.drop (off + cs.length)).toArray) (wanted_none hgd) ?_ (hK _ (setRow_heap w g _ _ t _ hg) ((Chg.refl (OneB g) w).setRow (.inl (OneB.self g)) _) (by simp))
  simp [execOp, hop, resolve, invoke, builtin, hd, hx, hr, Result.andThen]
theorem slPage : SlT Try.prog 47 40 (.agg #[.int .i64 0, .string ⟨#[]⟩]) 2 24 := ⟨Try.underlying47, by kernel_rfl, rfl, by decide⟩
/-- n pages' cells, alike. -/
def repC (n : Nat) (p : Pg) : List Value := (List.replicate n p).flatMap fun p => [.int .i64 p.at_, .string p.data]
theorem repC_len (n : Nat) (p : Pg) : (repC n p).length = n * 2 := by
  induction n with
  | zero => rfl
  | succ n ih => unfold repC at *; rw [List.replicate_succ, List.flatMap_cons, List.length_append, ih]; simp; omega
theorem repC_add (m n : Nat) (p : Pg) : repC (m + n) p = repC m p ++ repC n p := by unfold repC; rw [← List.replicate_append_replicate, List.flatMap_append]
theorem repC_one {n : Nat} {p : Pg} : ∀ v ∈ repC n p, v.oneCell' = true := by
  intro v hv
  unfold repC at hv
  obtain ⟨q, _, hq⟩ := List.mem_flatMap.1 hv
  simp only [List.mem_cons, List.not_mem_nil, or_false] at hq
  rcases hq with rfl | rfl <;> rfl
set_option maxRecDepth 100000 in
theorem maken (n : Nat) (h8 : n ≤ 8) (h1 : 1 ≤ n) (w : World) : (Instr.makeSlice 47 (.int .i64 n) (.int .i64 n)).run Try.prog w = .ok (.slice (some ⟨w.heap.size, 0, none⟩) n n) (w.alloc (.cells (repC n Pg.none).toArray 40)) := by
  obtain ⟨i, hi, hz0, hz1, hz2⟩ := info_parts slPage.inf
  have h := run_makeSlice (P := Try.prog) (w := w) 47 40 i _ slPage.und hi hz0 .i64 .i64 n n (by omega) (by omega) (by rw [hz1]; omega) (by rw [hz2]; omega) (by omega)
  rw [hz1] at h
  have hc : n = 1 ∨ n = 2 ∨ n = 3 ∨ n = 4 ∨ n = 5 ∨ n = 6 ∨ n = 7 ∨ n = 8 := by omega
  have e : madeCells (Value.agg #[.int .i64 0, .string ⟨#[]⟩]).cells ((n : Int).toNat * 2) = (repC n Pg.none).toArray := by
    rcases hc with rfl | rfl | rfl | rfl | rfl | rfl | rfl | rfl <;> kernel_rfl
  rw [h, e]
  simp
theorem news_at {w : World} {b off : Nat} {pre cs post : List Value} {t : TypeId} {f : Nat × Nat} (h : w.heap[b]? = some (.cells (pre ++ cs ++ post).toArray t f)) (ho : pre.length = off) : ∀ j u, cs[j]? = some u → w.cell? ((⟨b, off, none⟩ : Addr).add j) = some u := fun j u hu => by
  have e1 : (⟨b, off, none⟩ : Addr).add j = ⟨b, off + j, none⟩ := by unfold Addr.add; split <;> simp_all
  have hj := (List.getElem?_eq_some_iff.1 hu).1
  subst ho
  rw [e1, cell_blk h, List.getElem?_toArray, List.append_assoc, List.getElem?_append_right (by omega), List.getElem?_append_left (by omega), Nat.add_sub_cancel_left]
  exact hu
end Go.Proofs.Ytghklbflbodajaa

namespace Go.Proofs.Ytghklbflbodajaa
open Go.RowKit Go.ChangeMaps Go.MapKept
set_option linter.unusedVariables false
set_option linter.unusedSimpArgs false
set_option linter.unnecessarySimpa false

/-- An entry's cells at an address. -/
def EtAt (w : World) (b o : Nat) (x : Ent) (v1 v2 : Value) : Prop := w.cell? ⟨b, o, none⟩ = some (.int .i64 x.at_) ∧ RcAt w b (o + 1) x.r v1 v2
theorem EtAt.keep {w w' : World} {b o : Nat} {x : Ent} {v1 v2 : Value} {S : Nat → Prop} (h : EtAt w b o x v1 v2) (hc : Chg S w w') (hs : ¬ S b) : EtAt w' b o x v1 v2 := ⟨hc.cell h.1 hs, h.2.keep hc hs⟩

/-- Element k of a list of entries. -/
theorem Ents.at {w wr : World} {a : Option Addr} {l : List Ent} (h : ∀ i x, l[i]? = some x → ∃ cs b off, EntAt w x cs ∧ cs.length = 12 ∧ a = some ⟨b, off, none⟩ ∧ ∀ j u, cs[j]? = some u → w.cell? ⟨b, off + i * 12 + j, none⟩ = some u)
    (hc : Chg NoB w wr) (k : Nat) (hk : k < l.length) : ∃ x b off v1 v2, Hid (l[k] = x) ∧ a = some ⟨b, off, none⟩ ∧ Tabs w x.r v1 v2 ∧ Hid (x.r.ok ∧ fits x.at_) ∧ EtAt wr b (off + k * 12) x v1 v2 ∧ b < w.heap.size ∧ (v1.oneCell' = true ∧ v2.oneCell' = true) := by
  obtain ⟨cs, b, off, ⟨v1, v2, rfl, ht, hok⟩, _, ha, h2⟩ := h k _ (List.getElem?_eq_getElem hk)
  have g : ∀ j u, (Value.int .i64 l[k].at_ :: l[k].r.cs v1 v2)[j]? = some u → wr.cell? ⟨b, off + k * 12 + j, none⟩ = some u := fun j u hu => hc.cell (h2 j u hu) (fun e => e)
  refine ⟨l[k], b, off, v1, v2, rfl, ha, ht, hok, ⟨g 0 _ rfl, fun j u hu => ?_⟩, World.block_lt_of_cell? w _ (h2 0 _ rfl), ?_⟩
  · have := g (j + 1) u hu
    rwa [show off + k * 12 + (j + 1) = off + k * 12 + 1 + j by omega] at this
  · obtain ⟨⟨a1, c1, e1, _⟩, ⟨a2, c2, e2, _⟩⟩ := ht
    rw [e1, e2]; exact ⟨rfl, rfl⟩

theorem EtAt.cells {w : World} {b o : Nat} {x : Ent} {v1 v2 : Value} (h : EtAt w b o x v1 v2) :
    w.cell? ⟨b, o, none⟩ = some (.int .i64 x.at_) ∧ w.cell? ⟨b, o + 1, none⟩ = some (.int .i64 x.r.kind) ∧ w.cell? ⟨b, o + 2, none⟩ = some (.int .i64 x.r.txn) ∧ w.cell? ⟨b, o + 3, none⟩ = some (.int .i64 x.r.page) ∧ w.cell? ⟨b, o + 4, none⟩ = some (.int .i64 x.r.off) ∧ w.cell? ⟨b, o + 5, none⟩ = some (.int .i64 x.r.prev) ∧
    w.cell? ⟨b, o + 6, none⟩ = some (.int .i64 x.r.next) ∧ w.cell? ⟨b, o + 7, none⟩ = some (.int .i64 x.r.beg) ∧ w.cell? ⟨b, o + 8, none⟩ = some (.string x.r.before) ∧ w.cell? ⟨b, o + 9, none⟩ = some (.string x.r.after) ∧ w.cell? ⟨b, o + 10, none⟩ = some v1 ∧ w.cell? ⟨b, o + 11, none⟩ = some v2 :=
  ⟨h.1, h.2 0 _ rfl, h.2 1 _ rfl, h.2 2 _ rfl, h.2 3 _ rfl, h.2 4 _ rfl, h.2 5 _ rfl, h.2 6 _ rfl, h.2 7 _ rfl, h.2 8 _ rfl, h.2 9 _ rfl, h.2 10 _ rfl⟩
theorem take_snoc' {α : Type} {l : List α} {k : Nat} (h : k < l.length) : l.take (k + 1) = l.take k ++ [l[k]] := List.take_succ_eq_append_getElem h
def NewK (w : World) : Nat → Prop := fun i => w.heap.size ≤ i
/-- An entry of a list whose tables lie below what is new. -/
theorem entK_new {w wr : World} {x : Ent} {v1 v2 : Value} (ht : Tabs w x.r v1 v2) (hok : x.r.ok ∧ fits x.at_) (hc : Chg NoB w wr) {F : Nat → Prop} (hF : ∀ k, F k → w.heap.size ≤ k) : EntK F wr (x, v1, v2) :=
  ⟨ht.mono hc, hok.1, hok.2, fun k hk => ⟨fun h => by have := Rd.slLt (size := 3) (fun _ => rfl) (by decide) ht.1 h; have := hF k hk; omega, fun h => by have := Rd.slLt (size := 2) (fun _ => rfl) (by decide) ht.2 h; have := hF k hk; omega⟩⟩
theorem snoc_cases {α : Type} (l : List α) : l = [] ∨ ∃ ys y, l = ys ++ [y] := by
  rcases h : l.reverse with _ | ⟨y, ys⟩
  · exact .inl (by simpa using h)
  · exact .inr ⟨ys.reverse, y, by rw [← List.reverse_reverse l, h]; simp⟩

theorem slInt : SlT Try.prog 124 3 (.int .i64 0) 1 8 := ⟨Try.underlying124, by kernel_rfl, rfl, by decide⟩
theorem slStr : SlT Try.prog 50 9 (.string ⟨#[]⟩) 1 16 := ⟨Try.underlying50, by kernel_rfl, rfl, by decide⟩
end Go.Proofs.Ytghklbflbodajaa
