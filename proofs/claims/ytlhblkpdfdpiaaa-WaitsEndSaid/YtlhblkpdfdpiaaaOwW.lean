import Derived.Test.YtlhblkpdfdpiaaaSl
import Derived.ArgAppend
import Derived.Deep.Upon
namespace Go.Proofs.Ytlhblkpdfdpiaaa
open Go.RowKit Go.ChangeMaps Go.MapKept
set_option linter.unusedVariables false
set_option linter.unusedSimpArgs false
set_option linter.unnecessarySimpa false

def setL (c : Array Value) : Nat → List Value → Array Value
  | _, [] => c
  | o, v :: r => setL (c.setIfInBounds o v) (o + 1) r
theorem setL_size : ∀ (vs : List Value) (o : Nat) (c : Array Value), (setL c o vs).size = c.size
  | [], _, _ => rfl
  | v :: r, o, c => by rw [setL, setL_size r]; simp
theorem setL_list : ∀ (vs : List Value) (o : Nat) (c : Array Value), o + vs.length ≤ c.size → (setL c o vs).toList = c.toList.take o ++ vs ++ c.toList.drop (o + vs.length)
  | [], o, c, h => by simp [setL]
  | v :: r, o, c, h => by
    simp only [List.length_cons] at h
    rw [setL, setL_list r _ _ (by simp; omega)]
    have ho : o < c.toList.length := by simp; omega
    simp only [Array.toList_setIfInBounds, List.length_cons]
    rw [List.take_set, List.drop_set_of_lt (by omega)]
    have e1 : (c.toList.take (o + 1)).set o v = c.toList.take o ++ [v] := by
      rw [List.take_succ_eq_append_getElem ho, List.set_append_right _ _ (by simp; omega)]
      have : o - (c.toList.take o).length = 0 := by simp at ho; simp; omega
      rw [this]; rfl
    rw [e1]
    simp only [List.append_assoc, List.cons_append, List.nil_append, show o + 1 + r.length = o + (r.length + 1) by omega]
theorem setCells_blk {g : Nat} {t : TypeId} {f : Nat × Nat} : ∀ (vs : List Value) (o : Nat) (w : World) (c : Array Value), w.heap[g]? = some (.cells c t f) → (w.setCells g o vs).heap[g]? = some (.cells (setL c o vs) t f)
  | [], _, _, _, h => h
  | v :: r, o, w, c, h => setCells_blk r (o + 1) _ _ (blk_setCell h o v)
theorem setCells_size {g : Nat} : ∀ (vs : List Value) (o : Nat) (w : World), (w.setCells g o vs).heap.size = w.heap.size
  | [], _, _ => rfl
  | v :: r, o, w => by rw [World.setCells, setCells_size r]; simp [World.setCell]
theorem Chg.setCells {S : Nat → Prop} {a : World} {g : Nat} : ∀ (vs : List Value) (o : Nat) (w : World), Chg S a w → (S g ∨ a.heap.size ≤ g) → Chg S a (w.setCells g o vs)
  | [], _, _, h, _ => h
  | v :: r, o, w, h, hs => Chg.setCells r (o + 1) _ (h.setCell (p := ⟨g, o, none⟩) hs v) hs

/-- A slice at the head of a block of one's own, of which more may lie behind. -/
def OwW (w : World) (e : TypeId) (size : Nat) (v : Value) (n : Nat) (xs : List Value) : Prop :=
  xs.length = n * size ∧ ((v = .slice none 0 0 ∧ n = 0) ∨ ∃ g cap cur, v = .slice (some ⟨g, 0, none⟩) n cap ∧ w.heap[g]? = some (.cells cur e (0, 0)) ∧ n ≤ cap ∧ cap ≤ maxLen ∧ cap * size ≤ cur.size ∧ cur.toList.take (n * size) = xs)

section
variable {P : Program} {w w' : World} {ops : Array Oper} {rest : List Oper} {o : Oper} {a : Act} {Q : Exit → Act → World → Prop} {e : TypeId} {size n : Nat} {v : Value} {xs : List Value}
theorem OwW.nil : OwW w e size (.slice none 0 0) 0 [] := ⟨by simp, .inl ⟨rfl, rfl⟩⟩
theorem OwW.of_own {base : Nat} (h : w.ownsRow base e size v n xs) : OwW w e size v n xs := by
  refine ⟨h.1, ?_⟩
  rcases h.2 with h1 | ⟨g, cap, cur, h1, h2, h3, h4, h5, h6, h7⟩
  · exact .inl h1
  · exact .inr ⟨g, cap, cur, h1, h3, h4, h5, by omega, h7⟩
theorem OwW.keep {S : Nat → Prop} (h : OwW w e size v n xs) (hc : Chg S w w') (hs : ∀ k, OwnB v k → ¬ S k) : OwW w' e size v n xs := by
  refine ⟨h.1, ?_⟩
  rcases h.2 with h1 | ⟨g, cap, cur, rfl, h3, h4⟩
  · exact .inl h1
  · exact .inr ⟨g, cap, cur, rfl, hc.heap h3 (hs g (by simp [OwnB, Value.ownBlock])), h4⟩
theorem OwW.lt (h : OwW w e size v n xs) {k : Nat} (hk : OwnB v k) : k < w.heap.size := by
  rcases h.2 with ⟨rfl, _⟩ | ⟨g, cap, cur, rfl, h3, h4⟩
  · simp [OwnB, Value.ownBlock] at hk
  · simp [OwnB, Value.ownBlock] at hk
    subst hk
    exact lt_of_block h3
theorem OwW.form (h : OwW w e size v n xs) : ∃ ao c, v = .slice ao n c ∧ n ≤ c ∧ n ≤ maxLen ∧ c ≤ maxLen := by
  rcases h.2 with ⟨rfl, rfl⟩ | ⟨g, cap, cur, rfl, h3, h4, h5, h6⟩
  · exact ⟨_, _, rfl, Nat.le_refl _, by simp, by simp [maxLen]⟩
  · exact ⟨_, _, rfl, h4, Nat.le_trans h4 h5, h5⟩
/-- A cell of an element. -/
theorem OwW.cell {α : Type} {enc : α → List Value} (he : ∀ x, (enc x).length = size) {l : List α} (h : OwW w e size v l.length (l.flatMap enc)) {i : Nat} {x : α} (hi : l[i]? = some x) :
    ∃ g cap, v = .slice (some ⟨g, 0, none⟩) l.length cap ∧ l.length ≤ cap ∧ ∀ j u, (enc x)[j]? = some u → w.cell? ⟨g, i * size + j, none⟩ = some u := by
  rcases h.2 with ⟨rfl, h0⟩ | ⟨g, cap, cur, rfl, h3, h4, h5, h6, h7⟩
  · have := (List.getElem?_eq_some_iff.1 hi).1; omega
  · refine ⟨g, cap, rfl, h4, fun j u hu => ?_⟩
    have h8 := flatMap_get he hi hu
    rw [← h7, List.getElem?_take] at h8
    split at h8
    · rw [cell_blk h3]; simpa using h8
    · cases h8
/-- .. cut short: x[:n:n] -/
theorem OwW.cut {g cap : Nat} (h : OwW w e size (.slice (some ⟨g, 0, none⟩) n cap) n xs) (m : Nat) (hm : m ≤ n) : OwW w e size (.slice (some ⟨g, 0, none⟩) m m) m (xs.take (m * size)) := by
  have hms : m * size ≤ n * size := Nat.mul_le_mul_right _ hm
  refine ⟨by rw [List.length_take, h.1]; omega, ?_⟩
  rcases h.2 with ⟨h1, _⟩ | ⟨g', cap', cur, h1, h3, h4, h5, h6, h7⟩
  · cases h1
  · cases h1
    have : m * size ≤ cap * size := Nat.mul_le_mul_right _ (by omega)
    exact .inr ⟨g, m, cur, rfl, h3, Nat.le_refl _, by omega, by omega, by rw [← h7, List.take_take, Nat.min_eq_left hms]⟩

/-- append of m elements that lie at ad, none of which lie in the block itself. -/
theorem step_appW {t : TypeId} {z : Value} {bytes : Nat} (T : SlT P t e z size bytes) (hg : o.guard = none) (s x : Operand) (hop : o.op = .call { callee := .builtin .append, args := #[s, x], argTypes := #[t, t] })
    (hown : OwW w e size v n xs) (hs : a.eval s = v)
    (ad : Addr) (m c : Nat) (news : List Value) (hx : a.eval x = .slice (some ad) m c) (hl : news.length = m * size) (hnews : ∀ j u, news[j]? = some u → w.cell? (ad.add j) = some u) (h1 : ∀ u ∈ news, u.oneCell' = true)
    (hn : (n + m) * bytes ≤ 140737488355328) (hn2 : n + m ≤ maxLen)
    (hK : ∀ v' w', OwW w' e size v' (n + m) (xs ++ news) → Chg (OwnB v) w w' → (∀ i, OwnB v' i → OwnB v i ∨ w.heap.size ≤ i) → wpList P ops Q rest (a.put o.dst v') w') : wpList P ops Q (o :: rest) a w := by
  obtain ⟨i, hi, hz0, hz1, hz2⟩ := info_parts T.inf
  rcases hown.2 with ⟨rfl, rfl⟩ | ⟨g, cap, cur, rfl, h3, h4, h5, h6, h7⟩
  · have hx0 : xs = [] := List.eq_nil_of_length_eq_zero (by simpa using hown.1)
    subst hx0
    exact step_app T hg s x hop (World.ownsRow_nil w w.heap.size e size) hs ad m c news hx hl hnews h1 hn hn2 (Nat.le_refl _) fun v' w' g1 g2 g3 g4 => hK v' w' (OwW.of_own g1) g2 g3
  · have hcell : ∀ j, j < cur.size → (w.cell? ⟨g, j, none⟩).isSome = true := fun j hj => by rw [cell_blk h3]; simp [hj]
    have hfit : n + m ≤ cap → n * size + news.length ≤ cur.size := fun h => by
      have : (n + m) * size ≤ cap * size := Nat.mul_le_mul_right _ h
      rw [hl, ← Nat.add_mul]; omega
    refine wpList_append_arg w hg s x t hop e i z size bytes T.und hi hz0 hz1 hz2 T.zs T.pos g 0 n cap xs hs hown.1 (fun j u hu => ?_) ad m c news hx hl hnews h1 (fun hr j hj => ?_) hn2 hn (fun hr => ?_) (fun hr v' w' g1 g2 => ?_)
    · rw [Nat.zero_add, cell_blk h3]
      rw [← h7, List.getElem?_take] at hu
      split at hu
      · simpa using hu
      · cases hu
    · have := hfit hr
      exact ⟨by rw [Nat.zero_add]; exact hcell _ (by omega), frozen_blk h3 _⟩
    · have hf := hfit hr
      rw [Nat.zero_add]
      have hb := setCells_blk news (n * size) w cur h3
      refine hK _ _ ⟨by rw [List.length_append, hown.1, hl, Nat.add_mul], .inr ⟨g, cap, _, rfl, hb, hr, h5, by rw [setL_size]; exact h6, ?_⟩⟩ (Chg.setCells news _ w (Chg.refl _ _) (.inl (by simp [OwnB, Value.ownBlock]))) (fun k hk => .inl (by simpa [OwnB, Value.ownBlock] using hk))
      rw [setL_list news _ _ hf, h7]
      have : (n + m) * size = (xs ++ news).length := by rw [List.length_append, hown.1, hl, Nat.add_mul]
      rw [this, List.take_left']
      rfl
    · exact hK _ _ (OwW.of_own g1) (Chg.of_grown g2 fun k hk => by cases hk) (fun k hk => .inr (OwnB.ge g1 k hk).1)
end
end Go.Proofs.Ytlhblkpdfdpiaaa
