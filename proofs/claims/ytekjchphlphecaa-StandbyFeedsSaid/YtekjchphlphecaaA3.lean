import Derived.Test.YtekjchphlphecaaA2
import Derived.Test.YtekjchphlphecaaA1
import Derived.Laws.OwnMore
namespace Go.Proofs.Ytekjchphlphecaa
open Go.RowKit Go.ChangeMaps Go.MapKept
set_option linter.unusedVariables false
set_option linter.unusedSimpArgs false

def encP (p : Pg) : List Value := [.int .i64 p.at_, .string p.data]
def pgsC (l : List Pg) : List Value := l.flatMap encP
theorem pgsC_len (l : List Pg) : (pgsC l).length = l.length * 2 := by
  induction l with
  | nil => rfl
  | cons x l ih => simp only [pgsC, encP, List.flatMap_cons, List.length_append, List.length_cons, List.length_nil] at *; omega
theorem pgsC_set (l : List Pg) (k : Nat) (p : Pg) (hk : k < l.length) : (pgsC l).take (k * 2) ++ encP p ++ (pgsC l).drop (k * 2 + 2) = pgsC (l.set k p) := by
  induction l generalizing k with
  | nil => simp at hk
  | cons x l ih =>
    cases k with
    | zero => simp [pgsC, encP]
    | succ k =>
      have e : (k + 1) * 2 = k * 2 + 2 := by omega
      have := ih k (by simpa using hk)
      rw [e]
      simp only [pgsC, encP, List.flatMap_cons, List.set_cons_succ] at *
      simp [this]
theorem pgsC_get (l : List Pg) (k : Nat) (hk : k < l.length) : (pgsC l)[k * 2]? = some (.int .i64 l[k].at_) ∧ (pgsC l)[k * 2 + 1]? = some (.string l[k].data) := by
  induction l generalizing k with
  | nil => simp at hk
  | cons x l ih =>
    cases k with
    | zero => simp [pgsC, encP]
    | succ k =>
      have e : (k + 1) * 2 = k * 2 + 2 := by omega
      have := ih k (by simpa using hk)
      rw [e]
      simp only [pgsC, encP, List.flatMap_cons] at *
      simpa using this

/-- Its numbers fit, its texts are short. -/
def Rec.okk (r : Rec) : Prop := r.ok ∧ r.before.size ≤ 2 ^ 62 ∧ r.after.size ≤ 2 ^ 62
/-- A record's cells lie at an address. -/
def RcAt (w : World) (b o : Nat) (r : Rec) (v1 v2 : Value) : Prop := ∀ j u, (r.cs v1 v2)[j]? = some u → w.cell? ⟨b, o + j, none⟩ = some u
theorem RcAt.cells {w : World} {b o : Nat} {r : Rec} {v1 v2 : Value} (h : RcAt w b o r v1 v2) :
    w.cell? ⟨b, o, none⟩ = some (.int .i64 r.kind) ∧ w.cell? ⟨b, o + 1, none⟩ = some (.int .i64 r.txn) ∧ w.cell? ⟨b, o + 2, none⟩ = some (.int .i64 r.page) ∧ w.cell? ⟨b, o + 3, none⟩ = some (.int .i64 r.off) ∧ w.cell? ⟨b, o + 4, none⟩ = some (.int .i64 r.prev) ∧
    w.cell? ⟨b, o + 5, none⟩ = some (.int .i64 r.next) ∧ w.cell? ⟨b, o + 6, none⟩ = some (.int .i64 r.beg) ∧ w.cell? ⟨b, o + 7, none⟩ = some (.string r.before) ∧ w.cell? ⟨b, o + 8, none⟩ = some (.string r.after) :=
  ⟨h 0 _ rfl, h 1 _ rfl, h 2 _ rfl, h 3 _ rfl, h 4 _ rfl, h 5 _ rfl, h 6 _ rfl, h 7 _ rfl, h 8 _ rfl⟩
theorem RcAt.keep {w w' : World} {b o : Nat} {r : Rec} {v1 v2 : Value} {S : Nat → Prop} (h : RcAt w b o r v1 v2) (hc : Chg S w w') (hs : ¬ S b) : RcAt w' b o r v1 v2 := fun j u hu => hc.cell (h j u hu) hs

/-- A page among others, in a block. -/
theorem pg_cells {w : World} {g : Nat} {t : TypeId} {pre post : List Value} {PL : List Pg} {f : Nat × Nat} (hg : w.heap[g]? = some (.cells (pre ++ pgsC PL ++ post).toArray t f)) (k : Nat) (hk : k < PL.length) :
    w.cell? ⟨g, pre.length + k * 2, none⟩ = some (.int .i64 PL[k].at_) ∧ w.cell? ⟨g, pre.length + k * 2 + 1, none⟩ = some (.string PL[k].data) := by
  obtain ⟨h1, h2⟩ := pgsC_get PL k hk
  have hl := pgsC_len PL
  rw [cell_blk hg, cell_blk hg]
  constructor
  · rw [List.getElem?_toArray, List.append_assoc, List.getElem?_append_right (by omega), List.getElem?_append_left (by omega), Nat.add_sub_cancel_left]; exact h1
  · rw [List.getElem?_toArray, List.append_assoc, List.getElem?_append_right (by omega), List.getElem?_append_left (by omega), show pre.length + k * 2 + 1 - pre.length = k * 2 + 1 by omega]; exact h2
theorem pg_splice (pre post : List Value) (PL : List Pg) (k : Nat) (p : Pg) (hk : k < PL.length) :
    (pre ++ pgsC PL ++ post).take (pre.length + k * 2) ++ encP p ++ (pre ++ pgsC PL ++ post).drop (pre.length + k * 2 + (encP p).length) = pre ++ pgsC (PL.set k p) ++ post := by
  have e1 : (encP p).length = 2 := rfl
  have hl := pgsC_len PL
  rw [← pgsC_set PL k p hk, e1, Nat.add_assoc, List.append_assoc pre, List.take_length_add_append, List.drop_length_add_append, List.take_append_of_le_length (by omega), List.drop_append_of_le_length (by omega)]
  simp
theorem getD_at (PL : List Pg) (k : Nat) (hk : k < PL.length) : PL.getD k Pg.none = PL[k] := by simp [hk]

theorem put_size (p : Pg) (off : Int) (s : ByteArray) (a : Int) : (p.put off s a).1.data.size ≤ 220 := by
  unfold Pg.put
  split
  · simp [Pg.none, ByteArray.size]
  · split
    · simp [Pg.none, ByteArray.size]
    · split
      · simp [Pg.none, ByteArray.size]
      · rename_i h1 h2 h3
        have h4 : p.data.size = 220 := by simp [Pg.right] at h1; exact h1.2.2
        have h5 : p.data.data.toList.length = 220 := by rw [← Lib.size_eq]; exact h4
        have h6 : s.data.toList.length = s.size := (Lib.size_eq s).symm
        simp only [ByteArray.size, List.size_toArray]
        rw [splice_len (by omega)]; omega
/-- One cell is stored into a block that is known whole. -/
theorem step_store1 {P : Program} {ops : Array Oper} {rest : List Oper} {o : Oper} {a : Act} {w : World} {Q : Exit → Act → World → Prop} (hgd : o.guard = none) {ty : TypeId} {x y : Operand} (ho : o.op = .store ty x y)
    (g off : Nat) {v : Value} (hx : a.eval x = .pointer (some ⟨g, off, none⟩)) (hy : a.eval y = v) (hv : v.cells = #[v]) (h1 : v.oneCell' = true) {t : TypeId} {cs : List Value} (hg : w.heap[g]? = some (.cells cs.toArray t (0, 0))) (hlt : off < cs.length) (hi : (P.info? ty).map (·.size) = some 1)
    (hK : ∀ w', w'.heap[g]? = some (.cells (cs.set off v).toArray t (0, 0)) → Chg (OneB g) w w' → w'.heap.size = w.heap.size → wpList P ops Q rest (a.put o.dst undef) w') : wpList P ops Q (o :: rest) a w := by
  have hst := run_storeCells_at P g off t [v] 0 cs.toArray w hg (by simp; omega) (by simpa using h1)
  simp only [Nat.add_zero] at hst
  have hset : cs.toArray.toList.take off ++ [v] ++ cs.toArray.toList.drop (off + [v].length) = cs.set off v := by
    simp only [List.length_cons, List.length_nil, Nat.zero_add]
    rw [List.set_eq_take_append_cons_drop, if_pos hlt]; simp
  have hsv : (storeVar ty ⟨g, off, none⟩ v).run P w = .ok () (w.setRow g (cs.set off v).toArray) := by
    unfold storeVar
    cases hq : P.info? ty with
    | none => simp [hq] at hi
    | some i =>
      simp [hq] at hi
      rw [hset] at hst
      simp [sizeOf, typeInfo, hq, hi, hv, hst]
  refine step_skip (w' := w.setRow g (cs.set off v).toArray) (wanted_none hgd) ?_ (hK _ (setRow_heap w g _ _ t _ hg) ((Chg.refl (OneB g) w).setRow (.inl (OneB.self g)) _) (by simp))
  simp [execOp, ho, hx, hy, Instr.storeAt, Instr.sureAddr, hsv, Result.andThen]

/-- What a record does to its page. -/
def Pg.apply (p : Pg) (at_ : Int) (r : Rec) : Pg := if (r.kind = 1 ∨ r.kind = 2) ∧ p.at_ < at_ then (let q := p.put r.off r.after at_; if q.2 = 0 then q.1 else p) else p
theorem apply_size (p : Pg) (at_ : Int) (r : Rec) (h : p.data.size ≤ 220) : (p.apply at_ r).data.size ≤ 220 := by
  unfold Pg.apply
  dsimp only
  split
  · split
    · exact put_size _ _ _ _
    · exact h
  · exact h
/-- .. to the page that it names. -/
def pSet (PL : List Pg) (n : Int) (f : Pg → Pg) : List Pg := if n < 0 ∨ (PL.length : Int) ≤ n then PL else PL.set n.toNat (f (PL.getD n.toNat Pg.none))
theorem pSet_len (PL : List Pg) (n : Int) (f : Pg → Pg) : (pSet PL n f).length = PL.length := by unfold pSet; split <;> simp
theorem pSet_size {PL : List Pg} (h : ∀ q ∈ PL, q.data.size ≤ 220) (n : Int) {f : Pg → Pg} (hf : ∀ p, p.data.size ≤ 220 → (f p).data.size ≤ 220) : ∀ q ∈ pSet PL n f, q.data.size ≤ 220 := by
  intro q hq
  unfold pSet at hq
  split at hq
  · exact h q hq
  · rcases List.mem_or_eq_of_mem_set hq with h1 | rfl
    · exact h q h1
    · have : n.toNat < PL.length := by omega
      rw [getD_at PL _ this]
      exact hf _ (h _ (List.getElem_mem _))
end Go.Proofs.Ytekjchphlphecaa

namespace Go.Proofs.Ytekjchphlphecaa
open Go.RowKit Go.ChangeMaps Go.MapKept
set_option linter.unusedVariables false
set_option linter.unusedSimpArgs false

/-- An entry's cells at an address. -/
def EtAt (w : World) (b o : Nat) (x : Ent) (v1 v2 : Value) : Prop := w.cell? ⟨b, o, none⟩ = some (.int .i64 x.at_) ∧ RcAt w b (o + 1) x.r v1 v2
theorem EtAt.keep {w w' : World} {b o : Nat} {x : Ent} {v1 v2 : Value} {S : Nat → Prop} (h : EtAt w b o x v1 v2) (hc : Chg S w w') (hs : ¬ S b) : EtAt w' b o x v1 v2 := ⟨hc.cell h.1 hs, h.2.keep hc hs⟩

/-- Element k of a list of entries. -/
theorem Ents.at {w wr : World} {a : Option Addr} {l : List Ent} (h : ∀ i x, l[i]? = some x → ∃ cs b off, EntAt w x cs ∧ cs.length = 12 ∧ a = some ⟨b, off, none⟩ ∧ ∀ j u, cs[j]? = some u → w.cell? ⟨b, off + i * 12 + j, none⟩ = some u)
    (hc : Chg NoB w wr) (k : Nat) (hk : k < l.length) : ∃ x b off v1 v2, Hid (l[k] = x) ∧ a = some ⟨b, off, none⟩ ∧ Tabs w x.r v1 v2 ∧ Hid (x.r.ok ∧ fits x.at_) ∧ EtAt wr b (off + k * 12) x v1 v2 ∧ b < w.heap.size ∧ (v1.oneCell' = true ∧ v2.oneCell' = true) := by
  obtain ⟨cs, b, off, ⟨v1, v2, rfl, ht, hok⟩, _, ha, h2⟩ := h k _ (List.getElem?_eq_getElem hk)
  have g : ∀ j u, (Value.int .i64 l[k].at_ :: l[k].r.cs v1 v2)[j]? = some u → wr.cell? ⟨b, off + k * 12 + j, none⟩ = some u := fun j u hu => hc.cell (h2 j u hu) (fun e => e)
  refine ⟨l[k], b, off, v1, v2, rfl, ha, ht, hok, ⟨g 0 _ rfl, fun j u hu => ?_⟩, World.block_lt_of_cell? w _ (h2 0 _ rfl), ?_⟩
  · have := g (j + 1) u hu
    rwa [show off + k * 12 + (j + 1) = off + k * 12 + 1 + j by omega] at this
  · obtain ⟨⟨a1, c1, e1, _⟩, ⟨a2, c2, e2, _⟩⟩ := ht
    rw [e1, e2]; exact ⟨rfl, rfl⟩

theorem EtAt.cells {w : World} {b o : Nat} {x : Ent} {v1 v2 : Value} (h : EtAt w b o x v1 v2) :
    w.cell? ⟨b, o, none⟩ = some (.int .i64 x.at_) ∧ w.cell? ⟨b, o + 1, none⟩ = some (.int .i64 x.r.kind) ∧ w.cell? ⟨b, o + 2, none⟩ = some (.int .i64 x.r.txn) ∧ w.cell? ⟨b, o + 3, none⟩ = some (.int .i64 x.r.page) ∧ w.cell? ⟨b, o + 4, none⟩ = some (.int .i64 x.r.off) ∧ w.cell? ⟨b, o + 5, none⟩ = some (.int .i64 x.r.prev) ∧
    w.cell? ⟨b, o + 6, none⟩ = some (.int .i64 x.r.next) ∧ w.cell? ⟨b, o + 7, none⟩ = some (.int .i64 x.r.beg) ∧ w.cell? ⟨b, o + 8, none⟩ = some (.string x.r.before) ∧ w.cell? ⟨b, o + 9, none⟩ = some (.string x.r.after) ∧ w.cell? ⟨b, o + 10, none⟩ = some v1 ∧ w.cell? ⟨b, o + 11, none⟩ = some v2 :=
  ⟨h.1, h.2 0 _ rfl, h.2 1 _ rfl, h.2 2 _ rfl, h.2 3 _ rfl, h.2 4 _ rfl, h.2 5 _ rfl, h.2 6 _ rfl, h.2 7 _ rfl, h.2 8 _ rfl, h.2 9 _ rfl, h.2 10 _ rfl⟩
theorem take_snoc' {α : Type} {l : List α} {k : Nat} (h : k < l.length) : l.take (k + 1) = l.take k ++ [l[k]] := List.take_succ_eq_append_getElem h
def NewK (w : World) : Nat → Prop := fun i => w.heap.size ≤ i
/-- An entry of a list whose tables lie below what is new. -/
theorem entK_new {w wr : World} {x : Ent} {v1 v2 : Value} (ht : Tabs w x.r v1 v2) (hok : x.r.ok ∧ fits x.at_) (hc : Chg NoB w wr) {F : Nat → Prop} (hF : ∀ k, F k → w.heap.size ≤ k) : EntK F wr (x, v1, v2) :=
  ⟨ht.mono hc, hok.1, hok.2, fun k hk => ⟨fun h => by have := Rd.slLt (size := 3) (fun _ => rfl) (by decide) ht.1 h; have := hF k hk; omega, fun h => by have := Rd.slLt (size := 2) (fun _ => rfl) (by decide) ht.2 h; have := hF k hk; omega⟩⟩
theorem snoc_cases {α : Type} (l : List α) : l = [] ∨ ∃ ys y, l = ys ++ [y] := by
  rcases h : l.reverse with _ | ⟨y, ys⟩
  · exact .inl (by simpa using h)
  · exact .inr ⟨ys.reverse, y, by rw [← List.reverse_reverse l, h]; simp⟩

theorem slInt : SlT Try.prog 38 3 (.int .i64 0) 1 8 := ⟨Try.underlying38, by kernel_rfl, rfl, by decide⟩
theorem slStr : SlT Try.prog 40 9 (.string ⟨#[]⟩) 1 16 := ⟨Try.underlying40, by kernel_rfl, rfl, by decide⟩
end Go.Proofs.Ytekjchphlphecaa

namespace Go.Proofs.Ytekjchphlphecaa
open Go.RowKit Go.ChangeMaps Go.MapKept
set_option linter.unusedVariables false
set_option linter.unusedSimpArgs false

theorem flatMap_inv {α : Type} {size : Nat} {enc : α → List Value} (he : ∀ x, (enc x).length = size) {l : List α} {j : Nat} {u : Value} (h : (l.flatMap enc)[j]? = some u) : ∃ i x r, l[i]? = some x ∧ (enc x)[r]? = some u ∧ j = i * size + r := by
  induction l generalizing j with
  | nil => simp at h
  | cons y l ih =>
    rw [List.flatMap_cons] at h
    by_cases hj : j < size
    · rw [List.getElem?_append_left (by rw [he]; exact hj)] at h
      exact ⟨0, y, j, rfl, h, by omega⟩
    · rw [List.getElem?_append_right (by rw [he]; omega), he] at h
      obtain ⟨i, x, r, h1, h2, h3⟩ := ih h
      exact ⟨i + 1, x, r, by simpa using h1, h2, by rw [Nat.add_mul]; omega⟩

theorem newsB {w : World} {b : Nat} {cs : List Value} {t : TypeId} {f : Nat × Nat} (h : w.heap[b]? = some (.cells cs.toArray t f)) : ∀ j u, cs[j]? = some u → w.cell? ((⟨b, 0, none⟩ : Addr).add j) = some u := fun j u hu => by
  have e1 : (⟨b, 0, none⟩ : Addr).add j = ⟨b, j, none⟩ := by unfold Addr.add; split <;> simp_all
  rw [e1, cell_blk h]; simpa using hu
section
variable {P : Program} {w : World} {ops : Array Oper} {rest : List Oper} {o : Oper} {a : Act} {Q : Exit → Act → World → Prop} {e : TypeId} {size n : Nat} {v : Value} {xs : List Value}
/-- append of one element, just laid into the block b, behind a guard that holds. -/
theorem step_app1w {t : TypeId} {z : Value} {bytes : Nat} (T : SlT P t e z size bytes) (hg : Region.wanted o (yielded ops a.tmps) = true) (s x : Operand) (hop : o.op = .call { callee := .builtin .append, args := #[s, x], argTypes := #[t, t] })
    {base : Nat} (hown : w.ownsRow base e size v n xs) (hs : a.eval s = v) (b : Nat) (cs : List Value) (hx : a.eval x = .slice (some ⟨b, 0, none⟩) 1 1)
    {c : Array Value} {e' : TypeId} {f : Nat × Nat} (hb : w.heap[b]? = some (.cells c e' f)) (hc : c = cs.toArray) (hl : cs.length = size) (h1 : ∀ u ∈ cs, u.oneCell' = true)
    (hn : (n + 1) * bytes ≤ 140737488355328) (hn2 : n + 1 ≤ maxLen) (hbase : base ≤ w.heap.size)
    (hK : ∀ v' w', w'.ownsRow base e size v' (n + 1) (xs ++ cs) → Chg (OwnB v) w w' → (∀ i, OwnB v' i → OwnB v i ∨ w.heap.size ≤ i) → wpList P ops Q rest (a.put o.dst v') w') : wpList P ops Q (o :: rest) a w := by
  subst hc
  obtain ⟨v', w', hr, h2, h3, h4, h5⟩ := run_app T o.type hown ⟨b, 0, none⟩ 1 1 cs (by omega) (newsB hb) h1 hn hn2 hbase
  refine step_run hg ?_ (hK v' w' h2 h3 h4)
  simp [execOp, hop, resolve, invoke, builtin, hs, hx, hr, Result.andThen]
/-- append of a slice that is read as a list. -/
theorem step_appR {t : TypeId} {z : Value} {bytes : Nat} (T : SlT P t e z size bytes) (hg : o.guard = none) (s x : Operand) (hop : o.op = .call { callee := .builtin .append, args := #[s, x], argTypes := #[t, t] })
    (hown : OwW w e size v n xs) (hs : a.eval s = v) {α : Type} {enc : α → List Value} (he : ∀ x, (enc x).length = size) (h1 : ∀ x, ∀ u ∈ enc x, u.oneCell' = true) {v2 : Value} {l2 : List α} (hr : Rd w size enc v2 l2) (hx : a.eval x = v2)
    (hn : (n + l2.length) * bytes ≤ 140737488355328) (hn2 : n + l2.length ≤ maxLen)
    (hK : ∀ v' w', OwW w' e size v' (n + l2.length) (xs ++ l2.flatMap enc) → Chg (OwnB v) w w' → (∀ i, OwnB v' i → OwnB v i ∨ w.heap.size ≤ i) → wpList P ops Q rest (a.put o.dst v') w') : wpList P ops Q (o :: rest) a w := by
  obtain ⟨ad, c, rfl, hc, hm, hcell⟩ := hr
  have hfl : (l2.flatMap enc).length = l2.length * size := by
    clear hcell hn hn2 hK hc hm hx
    induction l2 with
    | nil => simp
    | cons y l ih => rw [List.flatMap_cons, List.length_append, he, ih, List.length_cons, Nat.add_mul]; omega
  cases ad with
  | none =>
    have h0 : l2 = [] := by
      cases l2 with
      | nil => rfl
      | cons y l => obtain ⟨b, off, h, _⟩ := hcell 0 y rfl; cases h
    subst h0
    have hrun : (Builtin.append_ #[t, t] o.type #[v, .slice none 0 c]).run P w = .ok v w := by
      obtain ⟨i, hi, hz0, hz1, hz2⟩ := info_parts T.inf
      rcases hown.2 with ⟨rfl, rfl⟩ | ⟨g, cap, cur, rfl, _, hnc, _⟩
      · simp [Builtin.append_, run_underlying T.und, sizeOf, typeInfo, hi, Builtin.lenOf, Builtin.firstCells]
      · simp [Builtin.append_, run_underlying T.und, sizeOf, typeInfo, hi, Builtin.lenOf, Builtin.firstCells, hnc, storeCells]
    refine step_run (wanted_none hg) ?_ (hK v w (by simpa using hown) (Chg.refl _ _) (fun i hi => .inl hi))
    simp [execOp, hop, resolve, invoke, builtin, hs, hx, hrun, Result.andThen]
  | some ad =>
    refine step_appW T hg s x hop hown hs ad l2.length c (l2.flatMap enc) hx hfl (fun j u hj => ?_) (fun u hu => ?_) hn hn2 hK
    · obtain ⟨i, y, r, g1, g2, rfl⟩ := flatMap_inv he hj
      obtain ⟨b, off, hb, g3⟩ := hcell i y g1
      cases hb
      have e1 : (⟨b, off, none⟩ : Addr).add (i * size + r) = ⟨b, off + i * size + r, none⟩ := by unfold Addr.add; split <;> simp_all [Nat.add_assoc]
      rw [e1]
      exact g3 r u g2
    · obtain ⟨y, _, hy⟩ := List.mem_flatMap.1 hu
      exact h1 y u hy
end

/-! ### an int laid into a rising list -/
def insAt (ys : List Int) (x : Int) : Nat := (ys.takeWhile (fun y => decide (y < x))).length
def insI (ys : List Int) (x : Int) : List Int := ys.take (insAt ys x) ++ [x] ++ ys.drop (insAt ys x)
theorem insAt_le (ys : List Int) (x : Int) : insAt ys x ≤ ys.length := (List.takeWhile_sublist _).length_le
theorem insAt_lt {ys : List Int} {x : Int} {j : Nat} (h : j < insAt ys x) : ∃ h2 : j < ys.length, ys[j] < x := by
  refine ⟨Nat.lt_of_lt_of_le h (insAt_le ys x), ?_⟩
  have h3 : (ys.takeWhile (fun y => decide (y < x)))[j]'h = ys[j]'(Nat.lt_of_lt_of_le h (insAt_le ys x)) := (List.takeWhile_prefix (fun y => decide (y < x))).getElem h
  have h4 := List.getElem_mem h
  rw [h3] at h4
  have := List.all_eq_true.1 (List.all_takeWhile (l := ys) (p := fun y => decide (y < x))) _ h4
  simpa using this
theorem insAt_stop : ∀ {ys : List Int} {x : Int} (h : insAt ys x < ys.length), ¬ ys[insAt ys x] < x
  | [], x, h => by simp at h
  | y :: ys, x, h => by
    by_cases hy : y < x
    · have e : insAt (y :: ys) x = insAt ys x + 1 := by simp [insAt, hy]
      simp only [e, List.getElem_cons_succ]
      exact insAt_stop (by simp [e] at h; omega)
    · have e : insAt (y :: ys) x = 0 := by simp [insAt, hy]
      simp only [e, List.getElem_cons_zero]
      exact hy
theorem insI_mem {ys : List Int} {x z : Int} : z ∈ insI ys x ↔ z = x ∨ z ∈ ys := by
  unfold insI
  have h := List.take_append_drop (insAt ys x) ys
  constructor
  · intro hz
    simp only [List.mem_append, List.mem_singleton] at hz
    rcases hz with (hz | hz) | hz
    · exact .inr (List.mem_of_mem_take hz)
    · exact .inl hz
    · exact .inr (List.mem_of_mem_drop hz)
  · rintro (rfl | hz)
    · simp
    · rw [← h] at hz
      simp only [List.mem_append, List.mem_singleton] at hz ⊢
      rcases hz with hz | hz
      · exact .inl (.inl hz)
      · exact .inr hz
theorem insI_len (ys : List Int) (x : Int) : (insI ys x).length = ys.length + 1 := by
  have := insAt_le ys x
  unfold insI
  simp
  omega
theorem insI_lt {ys : List Int} {x : Int} (h : ys.Pairwise (fun a b => a < b)) (hx : x ∉ ys) : (insI ys x).Pairwise (fun a b => a < b) := by
  have h2 := h
  rw [← List.take_append_drop (insAt ys x) ys] at h2
  rw [List.pairwise_append] at h2
  obtain ⟨p1, p2, p3⟩ := h2
  have hlo : ∀ z ∈ ys.take (insAt ys x), z < x := fun z hz => by
    obtain ⟨j, hj, rfl⟩ := List.getElem_of_mem hz
    rw [List.length_take] at hj
    rw [List.getElem_take]
    exact (insAt_lt (by omega)).2
  have hhi : ∀ z ∈ ys.drop (insAt ys x), x < z := fun z hz => by
    obtain ⟨j, hj, rfl⟩ := List.getElem_of_mem hz
    rw [List.length_drop] at hj
    rw [List.getElem_drop]
    have h0 : insAt ys x < ys.length := by omega
    have h1 := insAt_stop h0
    have h3 : ys[insAt ys x] ≤ ys[insAt ys x + j] := by
      rcases Nat.eq_zero_or_pos j with rfl | hp
      · simp
      · have := List.pairwise_iff_getElem.1 h (insAt ys x) (insAt ys x + j) h0 (by omega) (by omega)
        omega
    have h4 : ys[insAt ys x] ≠ x := fun e => hx (by rw [← e]; exact List.getElem_mem _)
    omega
  unfold insI
  rw [List.pairwise_append, List.pairwise_append]
  refine ⟨⟨p1, by simp, fun a ha b hb => ?_⟩, p2, fun a ha b hb => ?_⟩
  · obtain rfl := List.mem_singleton.1 hb; exact hlo a ha
  · rcases List.mem_append.1 ha with ha | ha
    · exact p3 a ha b hb
    · obtain rfl := List.mem_singleton.1 ha; exact hhi b hb
theorem insAll {l : List Int} (h : l.Nodup) : l.foldl insI [] = sortI l := by
  have key : ∀ (l ys : List Int), ys.Pairwise (fun a b => a < b) → l.Nodup → (∀ x ∈ l, x ∉ ys) → (l.foldl insI ys).Pairwise (fun a b => a < b) ∧ ∀ z, z ∈ l.foldl insI ys ↔ z ∈ ys ∨ z ∈ l := by
    intro l
    induction l with
    | nil => intro ys h1 _ _; exact ⟨h1, by simp⟩
    | cons x l ih =>
      intro ys h1 h2 h3
      rw [List.nodup_cons] at h2
      obtain ⟨g1, g2⟩ := ih (insI ys x) (insI_lt h1 (h3 x (by simp))) h2.2 (fun y hy hm => by
        rcases insI_mem.1 hm with rfl | hm
        · exact h2.1 hy
        · exact h3 y (List.mem_cons_of_mem _ hy) hm)
      refine ⟨g1, fun z => ?_⟩
      rw [List.foldl_cons, g2 z, insI_mem, List.mem_cons]
      constructor
      · rintro ((rfl | h) | h)
        · exact .inr (.inl rfl)
        · exact .inl h
        · exact .inr (.inr h)
      · rintro (h | rfl | h)
        · exact .inl (.inr h)
        · exact .inl (.inl rfl)
        · exact .inr h
  obtain ⟨g1, g2⟩ := key l [] List.Pairwise.nil h (by simp)
  exact lt_ext g1 (sortI_lt h) (fun z => by rw [g2 z, sortI_mem]; simp)
theorem foldl_ins_len (l : List Int) : ∀ ys : List Int, (l.foldl insI ys).length = ys.length + l.length := by
  induction l with
  | nil => simp
  | cons x l ih => intro ys; rw [List.foldl_cons, ih, insI_len, List.length_cons]; omega
end Go.Proofs.Ytekjchphlphecaa

namespace Go.Proofs.Ytekjchphlphecaa
open Go.RowKit Go.ChangeMaps
set_option linter.unusedVariables false
set_option linter.unusedSimpArgs false

/-! ### maps as lists -/
section mp
variable {ν : Type}
theorem mget_none_iff {m : List (Int × ν)} {k : Int} : mget m k = none ↔ k ∉ m.map (·.1) := by
  unfold mget
  rw [Option.map_eq_none_iff, List.find?_eq_none]
  constructor
  · intro h hk
    obtain ⟨p, hp, rfl⟩ := List.mem_map.1 hk
    simpa using h p hp
  · intro h p hp
    have : p.1 ≠ k := fun e => h (e ▸ List.mem_map.2 ⟨p, hp, rfl⟩)
    simpa using this
theorem mget_nil (k : Int) : mget ([] : List (Int × ν)) k = none := rfl
theorem mget_cons (p : Int × ν) (m : List (Int × ν)) (k : Int) : mget (p :: m) k = if p.1 = k then some p.2 else mget m k := by
  unfold mget
  rw [List.find?_cons]
  by_cases h : p.1 = k
  · simp [h]
  · have : (p.1 == k) = false := by simpa using h
    rw [this, if_neg h]
theorem mget_append_new (m : List (Int × ν)) (k : Int) (v : ν) (j : Int) (h : mget m k = none) : mget (m ++ [(k, v)]) j = if j = k then some v else mget m j := by
  induction m with
  | nil =>
    rw [List.nil_append, mget_cons, mget_nil]
    by_cases h1 : k = j
    · rw [if_pos h1, if_pos h1.symm]
    · rw [if_neg h1, if_neg (fun e => h1 e.symm)]
  | cons p m ih =>
    rw [mget_cons] at h
    split at h
    · cases h
    · rename_i hp
      rw [List.cons_append, mget_cons, ih h, mget_cons]
      by_cases h1 : p.1 = j
      · rw [if_pos h1, if_pos h1, if_neg (fun e => hp (h1.trans e))]
      · rw [if_neg h1, if_neg h1]
theorem mget_upd (m : List (Int × ν)) (k : Int) (v : ν) (j : Int) : mget (m.map (fun p => if p.1 == k then (k, v) else p)) j = if j = k then (mget m k).map (fun _ => v) else mget m j := by
  induction m with
  | nil => simp [mget_nil]
  | cons p m ih =>
    rw [List.map_cons, mget_cons, ih, mget_cons, mget_cons]
    by_cases h1 : p.1 = k
    · have h2 : (p.1 == k) = true := by simpa using h1
      rw [h2]
      simp only [if_true]
      by_cases h3 : k = j
      · rw [if_pos h3, if_pos h3.symm, if_pos h1]; rfl
      · rw [if_neg h3, if_neg (fun e => h3 e.symm), if_neg (fun e => h3 e.symm), if_neg (fun e => h3 (h1.symm.trans e))]
    · have h2 : (p.1 == k) = false := by simpa using h1
      rw [h2]
      simp only [Bool.false_eq_true, if_false]
      by_cases h3 : p.1 = j
      · rw [if_pos h3, if_pos h3, if_neg (fun e => h1 (h3.trans e))]
      · rw [if_neg h3, if_neg h3, if_neg h1]
theorem mput_cases (m : List (Int × ν)) (k : Int) (v : ν) : (mget m k = none ∧ mput m k v = m ++ [(k, v)]) ∨ ((mget m k).isSome = true ∧ mput m k v = m.map (fun p => if p.1 == k then (k, v) else p)) := by
  cases h : mget m k with
  | none =>
    left
    have hn := mget_none_iff.1 h
    have : m.any (fun p => p.1 == k) = false := by
      rw [List.any_eq_false]
      intro p hp e
      exact hn (List.mem_map.2 ⟨p, hp, by simpa using e⟩)
    exact ⟨rfl, by simp [mput, this]⟩
  | some x =>
    right
    have hn : k ∈ m.map (·.1) := by
      rcases Decidable.em (k ∈ m.map (·.1)) with h1 | h1
      · exact h1
      · rw [mget_none_iff.2 h1] at h; cases h
    have : m.any (fun p => p.1 == k) = true := by
      rw [List.any_eq_true]
      obtain ⟨p, hp, e⟩ := List.mem_map.1 hn
      exact ⟨p, hp, by simpa using e⟩
    exact ⟨rfl, by simp [mput, this]⟩
theorem mget_mput (m : List (Int × ν)) (k : Int) (v : ν) (j : Int) : mget (mput m k v) j = if j = k then some v else mget m j := by
  rcases mput_cases m k v with ⟨h1, h2⟩ | ⟨h1, h2⟩
  · rw [h2, mget_append_new _ _ _ _ h1]
  · rw [h2, mget_upd]
    obtain ⟨x, hx⟩ := Option.isSome_iff_exists.1 h1
    rw [hx]; rfl
theorem mput_keys (m : List (Int × ν)) (k : Int) (v : ν) : (mput m k v).map (·.1) = if mget m k = none then m.map (·.1) ++ [k] else m.map (·.1) := by
  rcases mput_cases m k v with ⟨h1, h2⟩ | ⟨h1, h2⟩
  · rw [h2, if_pos h1]; simp
  · rw [h2, if_neg (fun e => by rw [e] at h1; cases h1), List.map_map]
    refine List.map_congr_left fun p hp => ?_
    simp only [Function.comp_def]
    split
    · rename_i h; have h2 : p.1 = k := by simpa using h
      exact h2.symm
    · rfl
theorem mput_nodup {m : List (Int × ν)} (h : (m.map (·.1)).Nodup) (k : Int) (v : ν) : ((mput m k v).map (·.1)).Nodup := by
  rw [mput_keys]
  split
  · rename_i h1
    rw [List.nodup_append]
    exact ⟨h, by simp, fun a ha b hb e => by
      have : b = k := by simpa using hb
      exact mget_none_iff.1 h1 (this ▸ e ▸ ha)⟩
  · exact h
theorem mget_mdel {m : List (Int × ν)} (k : Int) (j : Int) : mget (mdel m k) j = if j = k then none else mget m j := by
  induction m with
  | nil => simp [mdel, mget_nil]
  | cons p m ih =>
    unfold mdel at ih ⊢
    rw [List.filter_cons, mget_cons]
    by_cases h1 : p.1 = k
    · have h2 : (!(p.1 == k)) = false := by simpa using h1
      rw [h2]
      simp only [Bool.false_eq_true, if_false]
      rw [ih]
      by_cases h3 : j = k
      · rw [if_pos h3, if_pos h3]
      · rw [if_neg h3, if_neg h3, if_neg (fun e => h3 (e.symm.trans h1))]
    · have h2 : (!(p.1 == k)) = true := by simpa using h1
      rw [h2]
      simp only [if_true]
      rw [mget_cons, ih]
      by_cases h3 : p.1 = j
      · rw [if_pos h3, if_pos h3, if_neg (fun e => h1 (h3.trans e))]
      · rw [if_neg h3, if_neg h3]
theorem mdel_nodup {m : List (Int × ν)} (h : (m.map (·.1)).Nodup) (k : Int) : ((mdel m k).map (·.1)).Nodup :=
  List.Nodup.sublist (List.Sublist.map _ List.filter_sublist) h
theorem mdel_len (m : List (Int × ν)) (k : Int) : (mdel m k).length ≤ m.length := List.length_filter_le _ _
end mp
theorem mget_some_of {ν : Type} {m : List (Int × ν)} {n : Int} (h : n ∈ m.map (·.1)) : ∃ x, mget m n = some x := by
  cases hm : mget m n with
  | none => exact absurd h (mget_none_iff.1 hm)
  | some x => exact ⟨x, rfl⟩
end Go.Proofs.Ytekjchphlphecaa

namespace Go.Proofs.Ytekjchphlphecaa
open Go.RowKit Go.ChangeMaps Go.MapKept
set_option linter.unusedVariables false
set_option linter.unusedSimpArgs false

theorem okk_of {w : World} {v : Value} {l : List Ent} (hv : Ents w v l) (hf : true = entsFew l) : ∀ x ∈ l, x.r.okk := by
  intro x hx
  obtain ⟨i, hi⟩ := List.getElem?_of_mem hx
  obtain ⟨a, c, _, _, _, h⟩ := hv
  obtain ⟨cs, b, off, ⟨v1, v2, _, _, hok, _⟩, _⟩ := h i x hi
  simp only [entsFew, Bool.true_eq, Bool.and_eq_true, List.all_eq_true] at hf
  have h9 := hf.1 x hx
  unfold Rec.few at h9
  simp only [Bool.and_eq_true, decide_eq_true_eq] at h9
  exact ⟨hok, by omega, by omega⟩
theorem few_200 {l : List Ent} (hf : true = entsFew l) : l.length ≤ 200 := by
  simp only [entsFew, Bool.true_eq, Bool.and_eq_true, decide_eq_true_eq] at hf
  exact hf.2

theorem u64_nonneg (x : Int) : 0 ≤ IntKind.u64.wrap x := by
  simp [IntKind.wrap, IntKind.signed, IntKind.bits]
  omega
theorem w64_small (y : Int) (h1 : -9223372036854775808 ≤ y) (h2 : y ≤ 9223372036854775807) : wrap64 y = y := by
  rw [← IntWalk.i64_left, IntKind.wrap_i64]; omega
theorem u64_small (y : Int) (h1 : 0 ≤ y) (h2 : y ≤ 9223372036854775807) : IntKind.u64.wrap y = y := by
  simp [IntKind.wrap, IntKind.signed, IntKind.bits]; omega

theorem uMod (x m : Int) (h0 : 0 < m) (hn : m ≤ 1001) : ∃ M : Nat, wrap64 ((IntKind.u64.wrap x).tmod m) = (M : Int) ∧ (M : Int) < m := by
  have h := u64_nonneg x
  rw [Int.tmod_eq_emod_of_nonneg h]
  have h1 := Int.emod_nonneg (IntKind.u64.wrap x) (show m ≠ 0 by omega)
  have h2 := Int.emod_lt_of_pos (IntKind.u64.wrap x) h0
  rw [w64_small _ (by omega) (by omega)]
  exact ⟨((IntKind.u64.wrap x) % m).toNat, by omega, by omega⟩

theorem rises_pair {l : List Ent} (h : risesB l = true) : l.Pairwise (fun a b => a.at_ < b.at_) := by
  induction l with
  | nil => simp
  | cons x l ih =>
    cases l with
    | nil => simp
    | cons y l =>
      simp only [risesB, Bool.and_eq_true, decide_eq_true_eq] at h
      have h2 := ih h.2
      rw [List.pairwise_cons] at h2 ⊢
      refine ⟨?_, by rw [List.pairwise_cons]; exact h2⟩
      intro z hz
      rcases List.mem_cons.1 hz with rfl | hz
      · exact h.1
      · have := h2.1 z hz; omega
end Go.Proofs.Ytekjchphlphecaa
