import Derived.Test.YtmikbjlgcndmeaaTbw
import Derived.Test.YtmikbjlgcndmeaaAppR
import Derived.Test.YtmikbjlgcndmeaaOrd
namespace Go.Proofs.Ytmikbjlgcndmeaa
open Go.RowKit Go.ChangeMaps Go.MapKept
set_option linter.unusedVariables false
set_option linter.unusedSimpArgs false
set_option linter.unnecessarySimpa false

/-- The block of a slice that has elements. -/
def SlB (v : Value) (k : Nat) : Prop := ∃ off n c, v = .slice (some ⟨k, off, none⟩) n c ∧ 0 < n
theorem Rd.keepS {α : Type} {w w' : World} {size : Nat} {enc : α → List Value} {v : Value} {l : List α} {S : Nat → Prop} (h : Rd w size enc v l) (hc : Chg S w w') (hs : ∀ k, SlB v k → ¬ S k) : Rd w' size enc v l := by
  obtain ⟨a, c, hv, h1, h2, h3⟩ := h
  refine ⟨a, c, hv, h1, h2, fun i x hi => ?_⟩
  obtain ⟨b, off, ha, h4⟩ := h3 i x hi
  have hl : 0 < l.length := by have := (List.getElem?_eq_some_iff.1 hi).1; omega
  exact ⟨b, off, ha, fun j u hu => hc.cell (h4 j u hu) (hs b ⟨off, _, _, by rw [hv, ha], hl⟩)⟩
theorem Rd.slLt {α : Type} {w : World} {size : Nat} {enc : α → List Value} (he : ∀ x, (enc x).length = size) (hp : 0 < size) {v : Value} {l : List α} (h : Rd w size enc v l) {k : Nat} (hk : SlB v k) : k < w.heap.size := by
  obtain ⟨a, c, hv, h1, h2, h3⟩ := h
  obtain ⟨off, n, c', e, hn⟩ := hk
  rw [hv] at e
  cases e
  obtain ⟨b, off', ha, h4⟩ := h3 0 _ (List.getElem?_eq_getElem hn)
  cases ha
  have hlt : 0 < (enc l[0]).length := by rw [he]; exact hp
  exact World.block_lt_of_cell? w _ (h4 0 _ (List.getElem?_eq_getElem hlt))
theorem take_snoc' {α : Type} {l : List α} {k : Nat} (h : k < l.length) : l.take (k + 1) = l.take k ++ [l[k]] := List.take_succ_eq_append_getElem h
/-- A row of one's own as its block has it, and back. -/
theorem OwW.post {w : World} {n size : Nat} {e : TypeId} {v : Value} {xs : List Value} (h : OwW w e size v n xs) (hn : 0 < n) : ∃ g cap post, v = .slice (some ⟨g, 0, none⟩) n cap ∧ w.heap[g]? = some (.cells (xs ++ post).toArray e (0, 0)) ∧ n ≤ cap ∧
    ∀ (w' : World) (ys : List Value), ys.length = xs.length → w'.heap[g]? = some (.cells (ys ++ post).toArray e (0, 0)) → OwW w' e size v n ys := by
  obtain ⟨hl, h2⟩ := h
  rcases h2 with ⟨rfl, h0⟩ | ⟨g, cap, cur, rfl, hg, hn1, hm, hs, ht⟩
  · omega
  · refine ⟨g, cap, cur.toList.drop (n * size), rfl, by rw [hg, ← ht, List.take_append_drop], hn1, fun w' ys hy hg' => ⟨by omega, .inr ⟨g, cap, _, rfl, hg', hn1, hm, ?_, ?_⟩⟩⟩
    · have h3 := congrArg List.length ht
      rw [List.length_take] at h3
      simp only [List.size_toArray, List.length_append, List.length_drop]
      simp at h3 ⊢
      omega
    · rw [List.toList_toArray, List.take_left' (by omega)]
theorem flatMap_set {α : Type} {size : Nat} {enc : α → List Value} (he : ∀ x, (enc x).length = size) {l : List α} {i j : Nat} {x y : α} {v : Value} (hi : l[i]? = some x) (hj : j < size) (hy : enc y = (enc x).set j v) : (l.flatMap enc).set (i * size + j) v = (l.set i y).flatMap enc := by
  induction l generalizing i with
  | nil => simp at hi
  | cons z l ih =>
    cases i with
    | zero =>
      simp at hi
      subst hi
      rw [List.flatMap_cons, List.set_cons_zero, List.flatMap_cons, hy, Nat.zero_mul, Nat.zero_add, List.set_append_left _ _ (by rw [he]; exact hj)]
    | succ i =>
      rw [List.flatMap_cons, List.set_cons_succ, List.flatMap_cons, List.set_append_right _ _ (by rw [he, Nat.add_mul]; omega), he]
      have e1 : (i + 1) * size + j - size = i * size + j := by rw [Nat.add_mul]; omega
      rw [e1, ih (by simpa using hi)]

/-- The cells of a transaction. -/
def encT (x : TxS × Value) : List Value := [.int .i64 x.1.txn, .int .i64 x.1.first, .int .i64 x.1.last, .int .i64 x.1.left, x.2]
theorem slTxn : SlT Try.prog 37 73 (.agg #[.int .i64 0, .int .i64 0, .int .i64 0, .int .i64 0, .slice none 0 0]) 5 56 := ⟨Try.underlying37, by kernel_rfl, rfl, by decide⟩
theorem slMk : SlT Try.prog 71 75 (.agg #[.int .i64 0, .int .i64 0]) 2 16 := ⟨Try.underlying71, by kernel_rfl, rfl, by decide⟩

/-- What others have: none of it is touched. -/
structure Rsv where
  w : World
  K : Nat → Prop
  lo : ∀ k, K k → k < w.heap.size
def Rsv.S (r : Rsv) : Nat → Prop := fun k => ¬ r.K k
theorem Rsv.new {r : Rsv} {w : World} (hc : Chg r.S r.w w) {k : Nat} (h : w.heap.size ≤ k) : r.S k := fun hk => by have := r.lo k hk; have := hc.size; omega
/-- A transaction's marks lie outside of the table's own blocks. -/
structure MkK (w0 : Rsv) (p : Nat) (lv : Value) (w : World) (x : TxS × Value) : Prop where
  rd : Rd w 2 encMk x.2 x.1.marks
  out : ∀ k, SlB x.2 k → k ≠ p ∧ ¬ OwnB lv k ∧ w0.S k
theorem MkK.keep {w0 : Rsv} {p : Nat} {lv : Value} {w w' : World} {x : TxS × Value} {S : Nat → Prop} (h : MkK w0 p lv w x) (hc : Chg S w w') (hs : ∀ k, S k → k = p ∨ OwnB lv k ∨ w.heap.size ≤ k) : MkK w0 p lv w' x :=
  ⟨h.rd.keepS hc fun k hk hS => by
    have h1 := h.out k hk
    rcases hs k hS with h2 | h2 | h2
    · exact h1.1 h2
    · exact h1.2.1 h2
    · have := Rd.slLt (size := 2) (fun _ => rfl) (by decide) h.rd hk; omega, h.out⟩
theorem MkK.turn {w0 : Rsv} {p : Nat} {lv lv' : Value} {w : World} {x : TxS × Value} (h : MkK w0 p lv w x) (hs : ∀ k, OwnB lv' k → OwnB lv k ∨ w.heap.size ≤ k) : MkK w0 p lv' w x :=
  ⟨h.rd, fun k hk => ⟨(h.out k hk).1, fun h2 => by
    rcases hs k h2 with h3 | h3
    · exact (h.out k hk).2.1 h3
    · have := Rd.slLt (size := 2) (fun _ => rfl) (by decide) h.rd hk; omega, (h.out k hk).2.2⟩⟩

/-- The reference's table, made since w0. -/
structure RtAt (w0 : Rsv) (w : World) (p : Nat) (lv : Value) (xs : List (TxS × Value)) : Prop where
  blk : w.heap[p]? = some (.cells #[lv] 39 (0, 0))
  row : OwW w 73 5 lv xs.length (xs.flatMap encT)
  mks : ∀ x ∈ xs, MkK w0 p lv w x
  no : ¬ OwnB lv p
  own : ∀ k, OwnB lv k → w0.S k
  ge : w0.S p
  chg : Chg w0.S w0.w w
  few : xs.length ≤ 4
  srt : xs.Pairwise (fun a b => a.1.txn < b.1.txn)
  fit : ∀ x ∈ xs, 0 ≤ x.1.left ∧ x.1.left ≤ 1048576 ∧ x.1.marks.length ≤ 4
def RT (w0 : Rsv) (w : World) (p : Nat) (L : TTab) : Prop := ∃ lv xs, xs.map (·.1) = L ∧ RtAt w0 w p lv xs
theorem RtAt.keep {w0 : Rsv} {w w' : World} {p : Nat} {lv : Value} {xs : List (TxS × Value)} (h : RtAt w0 w p lv xs) (hc : Chg NoB w w') : RtAt w0 w' p lv xs :=
  ⟨hc.heap h.blk nob, h.row.keep hc (fun _ _ => nob), fun x hx => (h.mks x hx).keep hc (fun _ e => e.elim), h.no, h.own, h.ge, h.chg.trans hc (fun _ e => e.elim), h.few, h.srt, h.fit⟩
theorem RT.keep {w0 : Rsv} {w w' : World} {p : Nat} {L : TTab} (h : RT w0 w p L) (hc : Chg NoB w w') : RT w0 w' p L := by
  obtain ⟨lv, xs, h1, h2⟩ := h; exact ⟨lv, xs, h1, h2.keep hc⟩
theorem RtAt.cell {w0 : Rsv} {w : World} {p : Nat} {lv : Value} {xs : List (TxS × Value)} (h : RtAt w0 w p lv xs) : w.cell? ⟨p, 0, none⟩ = some lv := by rw [cell_blk h.blk]; rfl

/-- Where one is: -1: it isn't there. -/
def rIdx (L : TTab) (n : Int) : Int := match L.findIdx? (fun s => s.txn == n) with | some i => (i : Int) | none => -1
theorem rIdx_cases (L : TTab) (n : Int) : (rIdx L n = -1 ∧ tFind L n = none) ∨ ∃ i s, rIdx L n = ((i : Nat) : Int) ∧ L[i]? = some s ∧ s.txn = n ∧ tFind L n = some s := by
  unfold rIdx
  cases h : L.findIdx? (fun s => s.txn == n) with
  | none =>
    left
    refine ⟨rfl, ?_⟩
    rw [List.findIdx?_eq_none_iff] at h
    unfold tFind
    rw [List.find?_eq_none]
    intro x hx
    have := h x hx
    simpa using this
  | some i =>
    right
    obtain ⟨hi, h1, h2⟩ := List.findIdx?_eq_some_iff_getElem.1 h
    refine ⟨i, L[i], rfl, List.getElem?_eq_getElem hi, by simpa using h1, ?_⟩
    unfold tFind
    rw [List.find?_eq_some_iff_getElem]
    exact ⟨h1, i, hi, rfl, fun j hj => by simpa using h2 j hj⟩
end Go.Proofs.Ytmikbjlgcndmeaa
