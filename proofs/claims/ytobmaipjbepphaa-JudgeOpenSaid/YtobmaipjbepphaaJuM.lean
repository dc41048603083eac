import Derived.Test.YtobmaipjbepphaaJuSpec
namespace Go.Proofs.Ytobmaipjbepphaa
open Go.RowKit Go.ChangeMaps Go.MapKept
set_option linter.unusedVariables false

theorem jFind_find {E : List JE} {n : Int} : jFind (E.map (·.s)) n = (E.find? (fun e => JI.key e == n)).map (·.s) := by
  unfold jFind; rw [List.find?_map]; rfl
theorem jUpd_set {E : List JE} {i : Nat} {e e' : JE} (hn : (E.map JI.key).Nodup) (h : E[i]? = some e) (ht : e'.s.txn = e.s.txn) : (E.set i e').map (·.s) = jUpd (E.map (·.s)) e'.s := by
  unfold jUpd
  rw [List.map_set, List.map_map]
  apply List.ext_getElem?
  intro j
  rw [List.getElem?_set, List.length_map]
  simp only [List.getElem?_map]
  have hi : i < E.length := (List.getElem?_eq_some_iff.1 h).1
  by_cases hij : i = j
  · subst hij
    rw [if_pos rfl, if_pos hi, h]
    simp [ht]
  · rw [if_neg hij]
    cases hj : E[j]? with
    | none => rfl
    | some f =>
      simp only [Option.map_some, Function.comp_def]
      have hne : (f.s.txn == e'.s.txn) = false := by
        cases hb : f.s.txn == e'.s.txn
        · rfl
        · exfalso
          have e1 : f.s.txn = e.s.txn := by rw [ht] at hb; simpa using hb
          have a1 : (E.map JI.key)[i]? = some e.s.txn := by simp [h, JI]
          have a2 : (E.map JI.key)[j]? = some e.s.txn := by simp [hj, JI, e1]
          exact hij ((List.getElem?_inj (List.getElem?_eq_some_iff.1 a1).1 hn).1 (a1.trans a2.symm))
      rw [hne]; rfl
theorem jUpd_upd (T : List JT) (t u : JT) (h : u.txn = t.txn) : jUpd (jUpd T t) u = jUpd T u := by
  unfold jUpd
  rw [List.map_map]
  apply List.map_congr_left
  intro x _
  simp only [Function.comp_def]
  by_cases hx : (x.txn == t.txn) = true
  · have hx2 : (x.txn == u.txn) = true := by rw [h]; exact hx
    rw [if_pos hx, if_pos hx2]
    rw [if_pos (by rw [h]; simp)]
  · rw [if_neg hx]
theorem jDel_upd (T : List JT) (t : JT) : jDel (jUpd T t) t.txn = jDel T t.txn := by
  unfold jDel jUpd
  rw [List.filter_map]
  have : (T.filter ((fun t_1 => !t_1.txn == t.txn) ∘ fun x => if (x.txn == t.txn) = true then t else x)) = T.filter (fun x => !(x.txn == t.txn)) := by
    apply List.filter_congr
    intro x _
    simp only [Function.comp_def]
    by_cases hx : (x.txn == t.txn) = true
    · rw [if_pos hx, hx]; simp
    · rw [if_neg hx]
  rw [this]
  apply List.ext_getElem?
  intro j
  rw [List.getElem?_map]
  cases hj : (T.filter (fun x => !(x.txn == t.txn)))[j]? with
  | none => rfl
  | some x =>
    have := (List.mem_filter.1 (List.mem_of_getElem? hj)).2
    have h9 : x.txn ≠ t.txn := by simpa using this
    simp [h9]

section
variable {w w' : World} {p ro rb : Nat} {E : List JE} {s : JS} {af : Value} {n : Nat}
theorem JAt.mono (h : JAt w p ro rb E s af n) {m : Nat} (hm : n ≤ m) : JAt w p ro rb E s af m :=
  ⟨h.blk, h.pt, h.es, h.mb, h.ne, h.pl, h.pr, ⟨fun t ht => Nat.le_trans (h.ct.1 t ht) hm, fun x hx => ⟨(h.ct.2 x hx).1, by have := (h.ct.2 x hx).2; omega⟩⟩⟩
theorem JAt.hX (h : JAt w p ro rb E s af n) : ∀ k, (k = p ∨ k = rb) → k < w.heap.size := by
  rintro k (rfl | rfl)
  · exact lt_of_block h.blk
  · exact h.mb.lt
theorem JAt.find (h : JAt w p ro rb E s af n) (k : Int) :
    (mget (E.map JI.row) k = none ∧ jFind s.op k = none) ∨ ∃ (i : Nat) (e : JE), E[i]? = some e ∧ e.s.txn = k ∧ mget (E.map JI.row) k = some e.b ∧ jFind s.op k = some e.s := by
  rcases h.pt.find k with ⟨h1, _, h3⟩ | ⟨i, e, h1, h2, h3, h4⟩
  · exact .inl ⟨h1, by rw [← h.es, jFind_find, h3]; rfl⟩
  · exact .inr ⟨i, e, h1, h2, h3, by rw [← h.es, jFind_find, h4]; rfl⟩
/-- One is turned. -/
theorem JAt.set (h : JAt w p ro rb E s af n) {i : Nat} {e e' : JE} (hi : E[i]? = some e) (ht : e'.s.txn = e.s.txn) (hb : e'.b = e.b) (hc : Chg (JI.fp e) w w') (hok : JI.ok w' e')
    (hnew : ∀ k, OwnB e'.mv k → OwnB e.mv k ∨ w.heap.size ≤ k) (hl : e'.s.stand.length ≤ n) : JAt w' p ro rb (E.set i e') { s with op := jUpd s.op e'.s } af n := by
  have hm : e ∈ E := List.mem_of_getElem? hi
  have ho := (h.pt.own e hm).2.2
  refine ⟨hc.heap h.blk (ho p (.inl rfl)), h.pt.set hi ht hb hc hok hnew h.hX, ?_, h.mb.chg hc (ho rb (.inr rfl)), h.ne, h.pl, h.pr, ⟨fun t htm => ?_, h.ct.2⟩⟩
  · rw [jUpd_set h.pt.nodup hi ht, h.es]
  · unfold jUpd at htm
    obtain ⟨x, hx, rfl⟩ := List.mem_map.1 htm
    split
    · exact hl
    · exact h.ct.1 x hx
theorem juFp_set {i : Nat} {e e' : JE} (hi : E[i]? = some e) (hb : e'.b = e.b) (hnew : ∀ k, OwnB e'.mv k → OwnB e.mv k ∨ w.heap.size ≤ k) : ∀ k, juFp p ro rb (E.set i e') k → juFp p ro rb E k ∨ w.heap.size ≤ k := by
  rintro k (rfl | rfl | hk)
  · exact .inl (.inl rfl)
  · exact .inl (.inr (.inl rfl))
  · rcases ptFp_set (I := JI) hi hb hnew k hk with h | h
    · exact .inl (.inr (.inr h))
    · exact .inr h
/-- A new one. -/
theorem JAt.push (h : JAt w p ro rb E s af n) {e : JE} (hm : MapI w' ro ptrV (E.map JI.row ++ [JI.row e])) (hc : Chg (OneB ro) w w') (hb : w.heap.size ≤ e.b) (hmv : e.mv = .slice none 0 0) (hst : e.s.stand = []) (hok : JI.ok w' e) : JAt w' p ro rb (E ++ [e]) { s with op := s.op ++ [e.s] } af n := by
  have hxr := h.pt.xr
  refine ⟨hc.heap h.blk (fun x => hxr (.inl (Eq.symm x))), h.pt.push hm hc hb (fun k hk => ?_) hok h.hX, by simp [h.es], h.mb.chg hc (fun x => hxr (.inr (Eq.symm x))), h.ne, h.pl, h.pr, ⟨fun t ht => ?_, h.ct.2⟩⟩
  · have : OwnB e.mv k := hk
    rw [hmv, ownB_nil] at this
    exact this.elim
  · rcases List.mem_append.1 ht with ht | ht
    · exact h.ct.1 t ht
    · obtain rfl := List.mem_singleton.1 ht
      rw [hst]; simp
theorem juFp_push {e : JE} (hb : w.heap.size ≤ e.b) (hmv : e.mv = .slice none 0 0) : ∀ k, juFp p ro rb (E ++ [e]) k → juFp p ro rb E k ∨ w.heap.size ≤ k := by
  rintro k (rfl | rfl | hk)
  · exact .inl (.inl rfl)
  · exact .inl (.inr (.inl rfl))
  · rcases ptFp_push (I := JI) (e := e) hb (fun k hk => by
      have : OwnB e.mv k := hk
      rw [hmv, ownB_nil] at this
      exact this.elim) k hk with h | h
    · exact .inl (.inr (.inr h))
    · exact .inr h
/-- One is over. -/
theorem JAt.del (h : JAt w p ro rb E s af n) (k : Int) (hm : MapI w' ro ptrV (mdel (E.map JI.row) k)) (hc : Chg (OneB ro) w w') : JAt w' p ro rb (E.filter (fun e => !(JI.key e == k))) { s with op := jDel s.op k } af n := by
  have hxr := h.pt.xr
  refine ⟨hc.heap h.blk (fun x => hxr (.inl (Eq.symm x))), h.pt.del k hm hc, ?_, h.mb.chg hc (fun x => hxr (.inr (Eq.symm x))), h.ne, h.pl, h.pr, ⟨fun t ht => h.ct.1 t (List.mem_filter.1 ht).1, h.ct.2⟩⟩
  rw [← h.es]
  unfold jDel
  rw [List.filter_map]
  rfl
theorem juFp_del {k : Int} : ∀ i, juFp p ro rb (E.filter (fun e => !(JI.key e == k))) i → juFp p ro rb E i := by
  rintro i (rfl | rfl | hk)
  · exact .inl rfl
  · exact .inr (.inl rfl)
  · exact .inr (.inr (ptFp_del (I := JI) i hk))
/-- Its own block is turned. -/
theorem JAt.own (h : JAt w p ro rb E s af n) {l : Int} {pg : List Pg} (hc : Chg (OneB p) w w') (hb : w'.heap[p]? = some (.cells (juC l ro pg rb af).toArray 62 (0, 0))) (hl : pg.length = 8) (hp : ∀ q ∈ pg, q.data.size ≤ 220) : JAt w' p ro rb E { s with last := l, pg := pg } af n := by
  refine ⟨hb, h.pt.keep hc (fun k hk x => ?_), h.es, h.mb.chg hc (fun x => h.ne (Eq.symm x)), h.ne, hl, hp, h.ct⟩
  have hkp : k = p := hk
  subst hkp
  rcases x with rfl | ⟨e, he, hk⟩
  · exact h.pt.xr (.inl rfl)
  · exact (h.pt.own e he).2.2 k (.inl rfl) hk
/-- The places of its beginnings are turned. -/
theorem JAt.begs (h : JAt w p ro rb E s af n) {B : List (Int × Int)} (hc : Chg (OneB rb) w w') (hb : MapI w' rb (Value.int .i64) B) (hB : ∀ x ∈ B, 0 ≤ x.2 ∧ x.2 ≤ n) : JAt w' p ro rb E { s with beg := B } af n := by
  refine ⟨hc.heap h.blk (fun x => h.ne x), h.pt.keep hc (fun k hk x => ?_), h.es, hb, h.ne, h.pl, h.pr, ⟨h.ct.1, hB⟩⟩
  have hkp : k = rb := hk
  subst hkp
  rcases x with rfl | ⟨e, he, hk⟩
  · exact h.pt.xr (.inr rfl)
  · exact (h.pt.own e he).2.2 k (.inr rfl) hk
theorem JAt.cells (h : JAt w p ro rb E s af n) : w.cell? ⟨p, 0, none⟩ = some (.int .i64 s.last) ∧ w.cell? ⟨p, 1, none⟩ = some (.map (some ro)) ∧ w.cell? ⟨p, 18, none⟩ = some (.map (some rb)) ∧ w.cell? ⟨p, 19, none⟩ = some af := by
  have hl := pgsC_len s.pg
  rw [h.pl] at hl
  refine ⟨?_, ?_, ?_, ?_⟩ <;> rw [cell_blk h.blk]
  · rfl
  · rfl
  · simp only [juC, List.getElem?_toArray, List.getElem?_cons_succ]
    rw [List.getElem?_append_right (by omega)]; simp [hl]
  · simp only [juC, List.getElem?_toArray, List.getElem?_cons_succ]
    rw [List.getElem?_append_right (by omega)]; simp [hl]
end
theorem mput_new {ν : Type} {m : List (Int × ν)} {k : Int} {v : ν} (h : mget m k = none) : mput m k v = m ++ [(k, v)] := by
  unfold mget at h
  have h1 : m.find? (fun p => p.1 == k) = none := by simpa using h
  have h2 : m.any (fun p => p.1 == k) = false := by
    rw [List.any_eq_false]; intro x hx; have := List.find?_eq_none.1 h1 x hx; simpa using this
  unfold mput; rw [h2]; rfl
theorem jUndo_len (l : List Rec) (r : Rec) : (jUndo l r).2.length ≤ l.length := by
  unfold jUndo
  split
  · exact Nat.le_refl _
  · simp
theorem jGet_txn (T : List JT) (a k : Int) : (jGet T a k).txn = k := by
  unfold jGet
  cases h : jFind T k with
  | none => rfl
  | some t =>
    unfold jFind at h
    have := List.find?_some h
    simpa using this
theorem mput_mem {ν : Type} {m : List (Int × ν)} {k : Int} {v : ν} {y : Int × ν} (h : y ∈ mput m k v) : y ∈ m ∨ y = (k, v) := by
  unfold mput at h
  split at h
  · obtain ⟨z, hz, rfl⟩ := List.mem_map.1 h
    split
    · exact .inr rfl
    · exact .inl hz
  · rcases List.mem_append.1 h with h | h
    · exact .inl h
    · exact .inr (by simpa using h)
/-- One cell is stored into a block that is known whole. -/
theorem step_store1 {P : Program} {ops : Array Oper} {rest : List Oper} {o : Oper} {a : Act} {w : World} {Q : Exit → Act → World → Prop} (hgd : o.guard = none) {ty : TypeId} {x y : Operand} (ho : o.op = .store ty x y)
    (g off : Nat) {v : Value} (hx : a.eval x = .pointer (some ⟨g, off, none⟩)) (hy : a.eval y = v) (hv : v.cells = #[v]) (h1 : v.oneCell' = true) {t : TypeId} {cs : List Value} (hg : w.heap[g]? = some (.cells cs.toArray t (0, 0))) (hlt : off < cs.length) (hi : (P.info? ty).map (·.size) = some 1)
    (hK : ∀ w', w'.heap[g]? = some (.cells (cs.set off v).toArray t (0, 0)) → Chg (OneB g) w w' → w'.heap.size = w.heap.size → wpList P ops Q rest (a.put o.dst undef) w') : wpList P ops Q (o :: rest) a w := by
  have hst := run_storeCells_at P g off t [v] 0 cs.toArray w hg (by simp; omega) (by simpa using h1)
  simp only [Nat.add_zero] at hst
  have hset : cs.toArray.toList.take off ++ [v] ++ cs.toArray.toList.drop (off + [v].length) = cs.set off v := by
    simp only [List.length_cons, List.length_nil, Nat.zero_add]
    rw [List.set_eq_take_append_cons_drop, if_pos hlt]; simp
  have hsv : (storeVar ty ⟨g, off, none⟩ v).run P w = .ok () (w.setRow g (cs.set off v).toArray) := by
    unfold storeVar
    cases hq : P.info? ty with
    | none => simp [hq] at hi
    | some i =>
      simp [hq] at hi
      rw [hset] at hst
      simp [sizeOf, typeInfo, hq, hi, hv, hst]
  refine step_skip (w' := w.setRow g (cs.set off v).toArray) (wanted_none hgd) ?_ (hK _ (setRow_heap w g _ _ t _ hg) ((Chg.refl (OneB g) w).setRow (.inl (OneB.self g)) _) (by simp))
  simp [execOp, ho, hx, hy, Instr.storeAt, Instr.sureAddr, hsv, Result.andThen]
theorem jPut_len (P : List Pg) (r : Rec) : (jPut P r).length = P.length := by
  unfold jPut
  split
  · rfl
  · split
    · simp
    · rfl
theorem put_size (p : Pg) (off : Int) (s : ByteArray) (a : Int) : (p.put off s a).1.data.size ≤ 220 := by
  unfold Pg.put
  split
  · simp [Pg.none, ByteArray.size]
  · split
    · simp [Pg.none, ByteArray.size]
    · split
      · simp [Pg.none, ByteArray.size]
      · rename_i h1 h2 h3
        have h4 : p.data.size = 220 := by simp [Pg.right] at h1; exact h1.2.2
        have h5 : p.data.data.toList.length = 220 := by rw [← Lib.size_eq]; exact h4
        have h6 : s.data.toList.length = s.size := (Lib.size_eq s).symm
        simp only [ByteArray.size, List.size_toArray]
        rw [splice_len (by omega)]; omega
theorem jPut_size {P : List Pg} (h : ∀ q ∈ P, q.data.size ≤ 220) (r : Rec) : ∀ q ∈ jPut P r, q.data.size ≤ 220 := by
  unfold jPut
  split
  · exact h
  · split
    · intro q hq
      rcases List.mem_or_eq_of_mem_set hq with hq | rfl
      · exact h q hq
      · exact put_size _ _ _ _
    · exact h
end Go.Proofs.Ytobmaipjbepphaa
