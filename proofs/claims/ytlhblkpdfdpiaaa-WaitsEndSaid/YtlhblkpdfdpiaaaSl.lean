import Derived.Test.YtlhblkpdfdpiaaaBase
namespace Go.Proofs.Ytlhblkpdfdpiaaa
open Go.RowKit Go.ChangeMaps Go.MapKept
set_option linter.unusedVariables false
set_option linter.unusedSimpArgs false
set_option linter.unnecessarySimpa false

/-- x under a name of its own. -/
theorem named {α : Type} (x : α) : ∃ y, Hid (y = x) := ⟨x, rfl⟩

/-- What was made since w may turn. -/
theorem Chg.new {S : Nat → Prop} {w a b : World} (h : Chg NoB w a) (k : Chg S a b) (hs : ∀ i, S i → w.heap.size ≤ i) : Chg NoB w b := h.trans k fun i hi => .inr (hs i hi)

/-! ### slices that are read -/
section rd
variable {α : Type} {w : World}

/-- v is a slice whose elements, each of size cells, are l. -/
def Rd (w : World) (size : Nat) (enc : α → List Value) (v : Value) (l : List α) : Prop :=
  ∃ a c, v = .slice a l.length c ∧ l.length ≤ c ∧ l.length ≤ maxLen ∧ (∀ i x, l[i]? = some x → ∃ b off, a = some ⟨b, off, none⟩ ∧ ∀ j u, (enc x)[j]? = some u → w.cell? ⟨b, off + i * size + j, none⟩ = some u)

def encI (x : Int) : List Value := [.int .i64 x]

theorem flatMap_get {size : Nat} {enc : α → List Value} (he : ∀ x, (enc x).length = size) {l : List α} {i : Nat} {x : α} (hi : l[i]? = some x) {j : Nat} {u : Value} (hu : (enc x)[j]? = some u) : (l.flatMap enc)[i * size + j]? = some u := by
  induction l generalizing i with
  | nil => simp at hi
  | cons y l ih =>
    have hj : j < size := by have := (List.getElem?_eq_some_iff.1 hu).1; rwa [he] at this
    rw [List.flatMap_cons]
    cases i with
    | zero =>
      simp at hi
      subst hi
      rw [List.getElem?_append_left (by rw [he]; omega)]
      simpa using hu
    | succ i =>
      rw [List.getElem?_append_right (by rw [he]; rw [Nat.add_mul]; omega), he]
      have e1 : (i + 1) * size + j - size = i * size + j := by rw [Nat.add_mul]; omega
      rw [e1]
      exact ih (by simpa using hi)

theorem Rd.of_own {base : Nat} {e : TypeId} {size : Nat} {enc : α → List Value} (he : ∀ x, (enc x).length = size) {v : Value} {l : List α} (h : w.ownsRow base e size v l.length (l.flatMap enc)) : Rd w size enc v l := by
  obtain ⟨h1, h2⟩ := h
  rcases h2 with ⟨rfl, h3⟩ | ⟨g, cap, cur, rfl, hb, hg, hn, hm, hs, ht⟩
  · have : l = [] := List.eq_nil_of_length_eq_zero h3
    subst this
    exact ⟨none, 0, rfl, Nat.le_refl _, by simp, fun i x hi => by simp at hi⟩
  · refine ⟨_, cap, rfl, hn, Nat.le_trans hn hm, fun i x hi => ⟨g, 0, rfl, fun j u hu => ?_⟩⟩
    have h4 := flatMap_get he hi hu
    rw [← ht] at h4
    rw [List.getElem?_take] at h4
    split at h4
    · rw [cell_blk hg, Nat.zero_add]; simpa using h4
    · cases h4

theorem flatMap_encI (l : List Int) : l.flatMap encI = l.map (Value.int .i64) := by induction l <;> simp_all [encI]
theorem Rd.ints_of {base : Nat} {e : TypeId} {v : Value} {l : List Int} (h : w.ownsRow base e 1 v l.length (l.map (Value.int .i64))) : Rd w 1 encI v l := by
  refine Rd.of_own (base := base) (e := e) (enc := encI) (fun _ => rfl) ?_
  rw [flatMap_encI]; exact h

/-- The element k of a slice of ints. -/
theorem Rd.int_at {a : Option Addr} {l : List Int} (h : ∀ i x, l[i]? = some x → ∃ b off, a = some ⟨b, off, none⟩ ∧ ∀ j u, (encI x)[j]? = some u → w.cell? ⟨b, off + i * 1 + j, none⟩ = some u) (k : Nat) (hk : k < l.length) :
    ∃ b off, a = some ⟨b, off, none⟩ ∧ w.cell? ⟨b, off + k, none⟩ = some (.int .i64 l[k]) := by
  obtain ⟨b, off, ha, h2⟩ := h k _ (List.getElem?_eq_getElem hk)
  exact ⟨b, off, ha, by simpa using h2 0 _ rfl⟩

/-- The cells of element k, in a later world. -/
theorem Rd.cells {α : Type} {w wr : World} {size : Nat} {enc : α → List Value} {a : Option Addr} {l : List α} (h : ∀ i x, l[i]? = some x → ∃ b off, a = some ⟨b, off, none⟩ ∧ ∀ j u, (enc x)[j]? = some u → w.cell? ⟨b, off + i * size + j, none⟩ = some u)
    (hc : Chg NoB w wr) (k : Nat) (hk : k < l.length) : ∃ b off, a = some ⟨b, off, none⟩ ∧ ∀ j u, (enc l[k])[j]? = some u → wr.cell? ⟨b, off + k * size + j, none⟩ = some u := by
  obtain ⟨b, off, ha, h2⟩ := h k _ (List.getElem?_eq_getElem hk)
  exact ⟨b, off, ha, fun j u hu => hc.cell (h2 j u hu) (fun e => e)⟩

theorem Rd.keep {size : Nat} {enc : α → List Value} {v : Value} {l : List α} {S : Nat → Prop} {w' : World} (h : Rd w size enc v l) (hc : Chg S w w') (hs : ∀ b off, (∃ n c, v = .slice (some ⟨b, off, none⟩) n c) → ¬ S b) : Rd w' size enc v l := by
  obtain ⟨a, c, hv, h1, h2, h3⟩ := h
  refine ⟨a, c, hv, h1, h2, fun i x hi => ?_⟩
  obtain ⟨b, off, ha, h4⟩ := h3 i x hi
  exact ⟨b, off, ha, fun j u hu => hc.cell (h4 j u hu) (hs b off ⟨_, _, by rw [hv, ha]⟩)⟩
end rd

/-! ### append, and where its result lies -/
section app
variable {P : Program} {w : World} {ops : Array Oper} {rest : List Oper} {o : Oper} {a : Act} {Q : Exit → Act → World → Prop}

theorem run_app {t e : TypeId} {z : Value} {size bytes : Nat} (T : SlT P t e z size bytes) (ty : TypeId) {base n : Nat} {v : Value} {xs : List Value} (hown : w.ownsRow base e size v n xs)
    (ad : Addr) (m c : Nat) (news : List Value) (hl : news.length = m * size) (hnews : ∀ j u, news[j]? = some u → w.cell? (ad.add j) = some u) (h1 : ∀ u ∈ news, u.oneCell' = true)
    (hn : (n + m) * bytes ≤ 140737488355328) (hn2 : n + m ≤ maxLen) (hbase : base ≤ w.heap.size) :
    ∃ v' w', (Builtin.append_ #[t, t] ty #[v, .slice (some ad) m c]).run P w = .ok v' w' ∧ w'.ownsRow base e size v' (n + m) (xs ++ news) ∧ Chg (OwnB v) w w' ∧ (∀ i, OwnB v' i → OwnB v i ∨ w.heap.size ≤ i) ∧ (v' = .slice none 0 0 ↔ v = .slice none 0 0 ∧ m = 0) := by
  obtain ⟨i, hi, hz0, hz1, hz2⟩ := info_parts T.inf
  obtain ⟨v', w', hr, h2, h3, h4⟩ := run_append_own (P := P) w base t ty e i z size bytes T.und hi hz0 hz1 hz2 T.zs T.pos v n xs hown ad m c news hl hnews h1 hn2 hn hbase
  refine ⟨v', w', hr, h2, Chg.of_grown h3 fun k hk => .inl hk, ?_, h4⟩
  subst hz1
  subst hz2
  rcases hown.2 with ⟨rfl, rfl⟩ | ⟨g, cap, cur, rfl, hbg, hg, hnc, hcm, hcs, htake⟩
  · by_cases hm : m = 0
    · subst hm
      have := h4.2 ⟨rfl, rfl⟩
      subst this
      intro k hk
      exact .inl hk
    · have hr2 := run_append_nil (P := P) w t ty e i z T.und hi hz0 ad m c news hl hnews (by omega) (by unfold maxLen at hn2; omega) (by have hb := hn; simp only [Nat.zero_add] at hb; omega)
      rw [hr] at hr2
      injection hr2 with e1 _
      subst e1
      intro k hk
      simp [OwnB, Value.ownBlock] at hk
      exact .inr (by omega)
  · by_cases hroom : n + m ≤ cap
    · have hfit : n * i.size + news.length ≤ cur.size := by rw [hl, hcs, ← Nat.add_mul]; exact Nat.mul_le_mul_right _ hroom
      have hr2 := run_append_room (P := P) w t ty e i T.und hi g n cap cur hg ad m c news hl hnews h1 hroom hfit
      rw [hr] at hr2
      injection hr2 with e1 _
      subst e1
      intro k hk
      exact .inl hk
    · have holds : ∀ j u, xs[j]? = some u → w.cell? ((⟨g, 0, none⟩ : Addr).add j) = some u := hown.cells (g := g) rfl
      have hr2 := run_append_grow (P := P) w t ty e i z T.und hi hz0 ⟨g, 0, none⟩ n cap xs hown.1 holds ad m c news hl hnews (by omega) (by unfold maxLen at hn2; omega) (growslice_fits (by omega) hn)
      rw [hr] at hr2
      injection hr2 with e1 _
      subst e1
      intro k hk
      simp [OwnB, Value.ownBlock] at hk
      exact .inr (by omega)

/-- append of the m elements that lie at ad. -/
theorem step_app {t e : TypeId} {z : Value} {size bytes : Nat} (T : SlT P t e z size bytes) (hg : o.guard = none) (s x : Operand) (hop : o.op = .call { callee := .builtin .append, args := #[s, x], argTypes := #[t, t] })
    {base n : Nat} {v : Value} {xs : List Value} (hown : w.ownsRow base e size v n xs) (hs : a.eval s = v)
    (ad : Addr) (m c : Nat) (news : List Value) (hx : a.eval x = .slice (some ad) m c) (hl : news.length = m * size) (hnews : ∀ j u, news[j]? = some u → w.cell? (ad.add j) = some u) (h1 : ∀ u ∈ news, u.oneCell' = true)
    (hn : (n + m) * bytes ≤ 140737488355328) (hn2 : n + m ≤ maxLen) (hbase : base ≤ w.heap.size)
    (hK : ∀ v' w', w'.ownsRow base e size v' (n + m) (xs ++ news) → Chg (OwnB v) w w' → (∀ i, OwnB v' i → OwnB v i ∨ w.heap.size ≤ i) → (v' = .slice none 0 0 ↔ v = .slice none 0 0 ∧ m = 0) → wpList P ops Q rest (a.put o.dst v') w') : wpList P ops Q (o :: rest) a w := by
  obtain ⟨v', w', hr, h2, h3, h4, h5⟩ := run_app T o.type hown ad m c news hl hnews h1 hn hn2 hbase
  refine step_run (wanted_none hg) ?_ (hK v' w' h2 h3 h4 h5)
  simp [execOp, hop, resolve, invoke, builtin, hs, hx, hr, Result.andThen]

/-- append of one element, just laid into the block b. -/
theorem step_app1 {t e : TypeId} {z : Value} {size bytes : Nat} (T : SlT P t e z size bytes) (hg : o.guard = none) (s x : Operand) (hop : o.op = .call { callee := .builtin .append, args := #[s, x], argTypes := #[t, t] })
    {base n : Nat} {v : Value} {xs : List Value} (hown : w.ownsRow base e size v n xs) (hs : a.eval s = v) (b : Nat) (cs : List Value) (hx : a.eval x = .slice (some ⟨b, 0, none⟩) 1 1)
    {c : Array Value} {e' : TypeId} {f : Nat × Nat} (hb : w.heap[b]? = some (.cells c e' f)) (hc : c = cs.toArray) (hl : cs.length = size) (h1 : ∀ u ∈ cs, u.oneCell' = true)
    (hn : (n + 1) * bytes ≤ 140737488355328) (hn2 : n + 1 ≤ maxLen) (hbase : base ≤ w.heap.size)
    (hK : ∀ v' w', w'.ownsRow base e size v' (n + 1) (xs ++ cs) → Chg (OwnB v) w w' → (∀ i, OwnB v' i → OwnB v i ∨ w.heap.size ≤ i) → v' ≠ .slice none 0 0 → wpList P ops Q rest (a.put o.dst v') w') : wpList P ops Q (o :: rest) a w := by
  subst hc
  refine step_app T hg s x hop hown hs ⟨b, 0, none⟩ 1 1 cs hx (by omega) (fun j u hu => ?_) h1 hn hn2 hbase fun v' w' h2 h3 h4 h5 => hK v' w' h2 h3 h4 (fun e => by simpa using h5.1 e)
  have e1 : (⟨b, 0, none⟩ : Addr).add j = ⟨b, j, none⟩ := by unfold Addr.add; split <;> simp_all
  rw [e1, cell_blk hb]
  simpa using hu
end app

end Go.Proofs.Ytlhblkpdfdpiaaa
