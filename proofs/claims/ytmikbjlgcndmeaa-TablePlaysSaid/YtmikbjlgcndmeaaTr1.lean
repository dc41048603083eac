import Derived.Test.YtmikbjlgcndmeaaTr0
import Derived.Test.YtmikbjlgcndmeaaOrd
import Derived.Test.YtmikbjlgcndmeaaCell
namespace Go.Proofs.Ytmikbjlgcndmeaa
open Go.RowKit Go.ChangeMaps Go.MapKept
set_option linter.unusedVariables false
set_option linter.unusedSimpArgs false
set_option linter.unnecessarySimpa false
set_option maxHeartbeats 8000000

theorem step_storeC {P : Program} {ops : Array Oper} {rest : List Oper} {o : Oper} {a : Act} {w : World} {Q : Exit → Act → World → Prop} (hgd : o.guard = none) {ty : TypeId} {x y : Operand} (ho : o.op = .store ty x y)
    (g off : Nat) {v : Value} (hx : a.eval x = .pointer (some ⟨g, off, none⟩)) (hy : a.eval y = v) (hv : v.cells = #[v]) (h1 : v.oneCell' = true) {t : TypeId} {cs : List Value} (hg : w.heap[g]? = some (.cells cs.toArray t (0, 0))) (hlt : off < cs.length) (hi : (P.info? ty).map (·.size) = some 1)
    (hK : ∀ w', w'.heap[g]? = some (.cells (cs.set off v).toArray t (0, 0)) → Chg (OneB g) w w' → w'.heap.size = w.heap.size → wpList P ops Q rest (a.put o.dst undef) w') : wpList P ops Q (o :: rest) a w := by
  have hst := run_storeCells_at P g off t [v] 0 cs.toArray w hg (by simp; omega) (by simpa using h1)
  simp only [Nat.add_zero] at hst
  have hset : cs.toArray.toList.take off ++ [v] ++ cs.toArray.toList.drop (off + [v].length) = cs.set off v := by
    simp only [List.length_cons, List.length_nil, Nat.zero_add]
    rw [List.set_eq_take_append_cons_drop, if_pos hlt]; simp
  have hsv : (storeVar ty ⟨g, off, none⟩ v).run P w = .ok () (w.setRow g (cs.set off v).toArray) := by
    unfold storeVar
    cases hq : P.info? ty with
    | none => simp [hq] at hi
    | some i =>
      simp [hq] at hi
      rw [hset] at hst
      simp [sizeOf, typeInfo, hq, hi, hv, hst]
  refine step_skip (w' := w.setRow g (cs.set off v).toArray) (wanted_none hgd) ?_ (hK _ (setRow_heap w g _ _ t _ hg) ((Chg.refl (OneB g) w).setRow (.inl (OneB.self g)) _) (by simp))
  simp [execOp, ho, hx, hy, Instr.storeAt, Instr.sureAddr, hsv, Result.andThen]

theorem encT_len (xs : List (TxS × Value)) : (xs.flatMap encT).length = xs.length * 5 := by
  induction xs with
  | nil => rfl
  | cons x l ih => rw [List.flatMap_cons, List.length_append, ih, List.length_cons, Nat.add_mul]; simp [encT]; omega
/-- A transaction's field is stored. -/
theorem step_setT {P : Program} {ops : Array Oper} {rest : List Oper} {o : Oper} {a : Act} {w0 : Rsv} {w : World} {Q : Exit → Act → World → Prop} (hgd : o.guard = none) {ty : TypeId} {ox oy : Operand} (ho : o.op = .store ty ox oy)
    {p g n cap : Nat} {xs : List (TxS × Value)} (h : RtAt w0 w p (.slice (some ⟨g, 0, none⟩) n cap) xs) (i j : Nat) {x : TxS × Value} (x' : TxS × Value) {v : Value} (hi : xs[i]? = some x) (hj : j < 5) (hx : a.eval ox = .pointer (some ⟨g, i * 5 + j, none⟩)) (hy : a.eval oy = v) (hv : v.cells = #[v]) (h1 : v.oneCell' = true)
    (hx' : encT x' = (encT x).set j v) (ht : x'.1.txn = x.1.txn) (hmk : MkK w0 p (.slice (some ⟨g, 0, none⟩) n cap) w x') (hfit : 0 ≤ x'.1.left ∧ x'.1.left ≤ 1048576 ∧ x'.1.marks.length ≤ 4) (hinf : (P.info? ty).map (·.size) = some 1)
    (hK : ∀ w', RtAt w0 w' p (.slice (some ⟨g, 0, none⟩) n cap) (xs.set i x') → wpList P ops Q rest (a.put o.dst undef) w') : wpList P ops Q (o :: rest) a w := by
  have hil := (List.getElem?_eq_some_iff.1 hi).1
  obtain ⟨g', cap', post, e, hb, hcap, hback⟩ := h.row.post (by omega)
  cases e
  have hlen := encT_len xs
  refine step_storeC hgd ho g (i * 5 + j) hx hy hv h1 hb (by rw [List.length_append, hlen]; have : i * 5 + 5 ≤ xs.length * 5 := by omega
                                                             omega) hinf fun w' hb' hc hs => hK w' ?_
  have hset : (xs.flatMap encT ++ post).set (i * 5 + j) v = (xs.set i x').flatMap encT ++ post := by
    rw [List.set_append_left _ _ (by rw [hlen]; have : i * 5 + 5 ≤ xs.length * 5 := by omega
                                     omega), flatMap_set (fun x => by simp [encT]) hi hj hx']
  rw [hset] at hb'
  have hg : OwnB (.slice (some ⟨g, 0, none⟩) xs.length cap) g := by simp [OwnB, Value.ownBlock]
  have hgp : g ≠ p := fun e => h.no (by rw [← e]; exact hg)
  have hkp : ∀ y, MkK w0 p (.slice (some ⟨g, 0, none⟩) xs.length cap) w y → MkK w0 p (.slice (some ⟨g, 0, none⟩) xs.length cap) w' y := fun y hy => hy.keep hc fun k hk => .inr (.inl (by have h' : k = g := hk; rw [h']; exact hg))
  refine ⟨hc.heap h.blk (fun e => hgp (Eq.symm e)), ?_, fun y hy => ?_, h.no, h.own, h.ge, h.chg.trans hc fun k hk => .inl (by have h' : k = g := hk; rw [h']; exact h.own g hg), by rw [List.length_set]; exact h.few, ?_, fun y hy => ?_⟩
  · have := hback w' _ (by rw [encT_len, encT_len, List.length_set]) hb'
    rw [List.length_set]; exact this
  · rcases List.mem_or_eq_of_mem_set hy with h2 | rfl
    · exact hkp y (h.mks y h2)
    · exact hkp _ hmk
  · rw [List.pairwise_iff_getElem]
    intro k m hk hm hkm
    have hps := List.pairwise_iff_getElem.1 h.srt k m (by simpa using hk) (by simpa using hm) hkm
    have hxi : xs[i] = x := (List.getElem?_eq_some_iff.1 hi).2
    rw [List.getElem_set, List.getElem_set]
    split
    · rename_i e1
      subst e1
      rw [if_neg (by omega), ht, ← hxi]; exact hps
    · split
      · rename_i e1 e2
        subst e2
        rw [ht, ← hxi]; exact hps
      · exact hps
  · rcases List.mem_or_eq_of_mem_set hy with h2 | rfl
    · exact h.fit y h2
    · exact hfit
/-- The cells of a transaction. -/
theorem RtAt.cells {w0 : Rsv} {w : World} {p : Nat} {lv : Value} {xs : List (TxS × Value)} (h : RtAt w0 w p lv xs) {i : Nat} {x : TxS × Value} (hi : xs[i]? = some x) :
    ∃ g cap, lv = .slice (some ⟨g, 0, none⟩) xs.length cap ∧ xs.length ≤ cap ∧ w.cell? ⟨g, i * 5, none⟩ = some (.int .i64 x.1.txn) ∧ w.cell? ⟨g, i * 5 + 1, none⟩ = some (.int .i64 x.1.first) ∧ w.cell? ⟨g, i * 5 + 2, none⟩ = some (.int .i64 x.1.last) ∧ w.cell? ⟨g, i * 5 + 3, none⟩ = some (.int .i64 x.1.left) ∧ w.cell? ⟨g, i * 5 + 4, none⟩ = some x.2 := by
  obtain ⟨g, cap, e, h1, h2⟩ := h.row.cell (enc := encT) (fun x => by simp [encT]) hi
  exact ⟨g, cap, e, h1, h2 0 _ rfl, h2 1 _ rfl, h2 2 _ rfl, h2 3 _ rfl, h2 4 _ rfl⟩

theorem findIdx_take {L : TTab} {n : Int} {k : Nat} (h : ∀ j (hj : j < k) (hl : j < L.length), L[j].txn ≠ n) (hk : k < L.length) (he : L[k].txn = n) : rIdx L n = (k : Int) := by
  unfold rIdx
  have : L.findIdx? (fun s => s.txn == n) = some k := by
    rw [List.findIdx?_eq_some_iff_getElem]
    exact ⟨hk, by simpa using he, fun j hj => by simpa using h j hj (by omega)⟩
  rw [this]
theorem findIdx_none {L : TTab} {n : Int} (h : ∀ j (hl : j < L.length), L[j].txn ≠ n) : rIdx L n = -1 := by
  unfold rIdx
  have : L.findIdx? (fun s => s.txn == n) = none := by
    rw [List.findIdx?_eq_none_iff]
    intro x hx
    obtain ⟨j, hj, rfl⟩ := List.getElem_of_mem hx
    simpa using h j hj
  rw [this]
set_option maxRecDepth 100000 in
theorem rFind_calls (w0 : Rsv) (w : World) (p : Nat) (lv : Value) (xs : List (TxS × Value)) (n : Int) (h : RtAt w0 w p lv xs) (res : Int) (hres : Hid (res = rIdx (xs.map (·.1)) n)) :
    Calls Try.prog 30 #[.pointer (some ⟨p, 0, none⟩), .int .i64 n] w fun e w' => e = .returned (.int .i64 res) ∧ Chg NoB w w' := by
  have hp := h.cell
  have HH := hid h
  obtain ⟨ao, co, rfl, h1, h2, h3⟩ := h.row.form
  have h4 := h.few
  clear h
  go_enter Try.func30, Try.ntmps30
  go_wp2
  go_loopw [5] (fun i wr => ∃ k : Nat, k ≤ xs.length ∧ i = .int .i64 k ∧ wr = w ∧ Hid (∀ j (hj : j < k) (hl : j < (xs.map (fun x : TxS × Value => x.1)).length), (xs.map (fun x : TxS × Value => x.1))[j].txn ≠ n)) (fun i _ => xs.length - (intOf i).toNat)
  case atStart => exact ⟨0, by omega, rfl, rfl, hid (fun j hj => by omega)⟩
  case round =>
    obtain ⟨k, hk, rfl, rfl, HE⟩ := hrel
    by_cases hlt : k < xs.length
    · obtain ⟨g, cap, e, hcap, c0, _⟩ := HH.out.cells (List.getElem?_eq_getElem hlt)
      cases e
      obtain ⟨t, ht⟩ := named xs[k].1.txn
      rw [← ht.out] at c0
      have hk0 : (0 : Int) ≤ (k : Int) := by omega
      have hk1 : (k : Int) < (xs.length : Int) := by omega
      cases he : (t == n)
      · go_wp2
        go_roundw
        case rel =>
          refine ⟨k + 1, by omega, by go_num, by simp, hid (fun j hj hl => ?_)⟩
          by_cases hjk : j < k
          · exact HE.out j hjk hl
          · obtain rfl : j = k := by omega
            rw [List.getElem_map, ← ht.out]
            simpa using he
        case measure => simp [intOf]; omega
      · go_wp2
        go_ret
        exact ⟨ret_int (by rw [hres.out]; symm; exact findIdx_take HE.out (by simpa using hlt) (by rw [List.getElem_map, ← ht.out]; simpa using he)), Chg.refl _ _⟩
    · obtain rfl : k = xs.length := by omega
      go_wp2
      go_ret
      exact ⟨ret_int (by rw [hres.out]; symm; exact findIdx_none fun j hl => HE.out j (by simpa using hl) hl), Chg.refl _ _⟩
end Go.Proofs.Ytmikbjlgcndmeaa
