import Derived.Test.YtmikbjlgcndmeaaTr5
namespace Go.Proofs.Ytmikbjlgcndmeaa
open Go.RowKit Go.ChangeMaps Go.MapKept
set_option linter.unusedVariables false
set_option linter.unusedSimpArgs false
set_option linter.unnecessarySimpa false
set_option maxHeartbeats 8000000

theorem OwW.rd {α : Type} {w : World} {e : TypeId} {size : Nat} {enc : α → List Value} (he : ∀ x, (enc x).length = size) {v : Value} {l : List α} (h : OwW w e size v l.length (l.flatMap enc)) : Rd w size enc v l := by
  obtain ⟨ao, co, e1, h1, h2, h3⟩ := h.form
  refine ⟨ao, co, e1, h1, h2, fun i x hi => ?_⟩
  obtain ⟨g, cap, e2, h4, h5⟩ := h.cell he hi
  rw [e1] at e2
  cases e2
  exact ⟨g, 0, rfl, fun j u hu => by rw [Nat.zero_add]; exact h5 j u hu⟩
/-- The tail of a slice. -/
theorem Rd.tail {α : Type} {w : World} {size : Nat} {enc : α → List Value} {c g : Nat} {l : List α} (h : Rd w size enc (.slice (some ⟨g, 0, none⟩) l.length c) l) (k : Nat) (hk : k ≤ l.length) : Rd w size enc (.slice (if c = k then some ⟨g, 0, none⟩ else some ⟨g, k * size, none⟩) (l.length - k) (c - k)) (l.drop k) := by
  obtain ⟨a', c', e, h1, h2, h3⟩ := h
  cases e
  refine ⟨_, _, by rw [List.length_drop], by rw [List.length_drop]; omega, by rw [List.length_drop]; omega, fun i x hi => ?_⟩
  rw [List.getElem?_drop] at hi
  have hlt := (List.getElem?_eq_some_iff.1 hi).1
  obtain ⟨b, off, hb, h4⟩ := h3 _ _ hi
  cases hb
  refine ⟨g, k * size, by rw [if_neg (by omega)], fun j u hu => ?_⟩
  have := h4 j u hu
  rwa [show 0 + (k + i) * size + j = k * size + i * size + j by rw [Nat.add_mul]; omega] at this
theorem step_appQ {P : Program} {w : World} {ops : Array Oper} {rest : List Oper} {o : Oper} {a : Act} {Q : Exit → Act → World → Prop} {e : TypeId} {size n : Nat} {v : Value} {xs : List Value} {t : TypeId} {z : Value} {bytes : Nat} (T : SlT P t e z size bytes) (hg : o.guard = none) (s x : Operand) (hop : o.op = .call { callee := .builtin .append, args := #[s, x], argTypes := #[t, t] })
    (hown : OwW w e size v n xs) (hs : a.eval s = v) {α : Type} {enc : α → List Value} (he : ∀ x, (enc x).length = size) {v2 : Value} {l2 : List α} (h1 : ∀ x ∈ l2, ∀ u ∈ enc x, u.oneCell' = true) (hr : Rd w size enc v2 l2) (hx : a.eval x = v2)
    (hn : (n + l2.length) * bytes ≤ 140737488355328) (hn2 : n + l2.length ≤ maxLen)
    (hK : ∀ v' w', OwW w' e size v' (n + l2.length) (xs ++ l2.flatMap enc) → Chg (OwnB v) w w' → (∀ i, OwnB v' i → OwnB v i ∨ w.heap.size ≤ i) → wpList P ops Q rest (a.put o.dst v') w') : wpList P ops Q (o :: rest) a w := by
  have hr' : Rd w size (fun y : {y : α // y ∈ l2} => enc y.1) v2 l2.attach := by
    obtain ⟨ad, c, e, h2, h3, h4⟩ := hr
    refine ⟨ad, c, by rw [List.length_attach]; exact e, by rw [List.length_attach]; exact h2, by rw [List.length_attach]; exact h3, fun i y hi => ?_⟩
    have hi2 := (List.getElem?_eq_some_iff.1 hi).1
    have hi3 := (List.getElem?_eq_some_iff.1 hi).2
    rw [List.length_attach] at hi2
    have : l2[i]? = some y.1 := by rw [List.getElem?_eq_getElem hi2, ← hi3, List.getElem_attach]
    exact h4 i y.1 this
  have hfm : l2.attach.flatMap (fun y : {y : α // y ∈ l2} => enc y.1) = l2.flatMap enc := by
    have h5 : (l2.attach.map (fun y : {y : α // y ∈ l2} => y.1)).flatMap enc = l2.attach.flatMap (fun y : {y : α // y ∈ l2} => enc y.1) := by rw [List.flatMap_map]
    rw [List.attach_map_subtype_val] at h5
    exact h5.symm
  refine step_appR T hg s x hop hown hs (enc := fun y : {y : α // y ∈ l2} => enc y.1) (fun y => he y.1) (fun y u hu => h1 y.1 y.2 u hu) hr' hx (by rw [List.length_attach]; exact hn) (by rw [List.length_attach]; exact hn2) ?_
  rw [List.length_attach, hfm]
  exact hK
theorem MkK.one {w0 : Rsv} {p : Nat} {lv : Value} {w : World} {x : TxS × Value} (h : MkK w0 p lv w x) : ∀ u ∈ encT x, u.oneCell' = true := by
  obtain ⟨a, c, e, _⟩ := h.rd
  intro u hu
  simp only [encT, List.mem_cons, List.not_mem_nil, or_false] at hu
  rcases hu with rfl | rfl | rfl | rfl | rfl
  · rfl
  · rfl
  · rfl
  · rfl
  · rw [e]; rfl

theorem srt_erase {xs : List (TxS × Value)} (h : xs.Pairwise (fun a b => a.1.txn < b.1.txn)) {i : Nat} {x : TxS × Value} (hi : xs[i]? = some x) : (xs.map (·.1)).filter (fun s => !(s.txn == x.1.txn)) = (xs.take i ++ xs.drop (i + 1)).map (·.1) := by
  have hil := (List.getElem?_eq_some_iff.1 hi).1
  have hie := (List.getElem?_eq_some_iff.1 hi).2
  have e : xs = xs.take i ++ x :: xs.drop (i + 1) := by rw [← hie, ← List.drop_eq_getElem_cons hil, List.take_append_drop]
  have h2 := h
  rw [e, List.pairwise_append, List.pairwise_cons] at h2
  obtain ⟨p1, ⟨p2, p3⟩, p4⟩ := h2
  have h3 : xs.map (·.1) = (xs.take i).map (·.1) ++ x.1 :: (xs.drop (i + 1)).map (·.1) := by rw [← List.map_cons, ← List.map_append, ← e]
  rw [h3, List.filter_append, List.filter_cons, List.map_append]
  have f1 : (x.1.txn == x.1.txn) = true := by simp
  rw [f1]
  simp only [Bool.not_true, Bool.false_eq_true, if_false]
  congr 1
  · rw [List.filter_eq_self]
    intro s hs
    obtain ⟨y, hy, rfl⟩ := List.mem_map.1 hs
    have := p4 y hy x (by simp)
    simp; omega
  · rw [List.filter_eq_self]
    intro s hs
    obtain ⟨y, hy, rfl⟩ := List.mem_map.1 hs
    have := p2 y hy
    simp; omega
end Go.Proofs.Ytmikbjlgcndmeaa
