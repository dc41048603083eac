import Derived.Test.YtmhmlfdidnhaoaaBase
namespace Go.Proofs.Ytmhmlfdidnhaoaa
open Go.RowKit Go.ChangeMaps Go.MapKept
set_option linter.unusedVariables false

/-- x under a name of its own. -/
theorem named {α : Type} (x : α) : ∃ y, Hid (y = x) := ⟨x, rfl⟩

/-- What was made since w may turn. -/
theorem Chg.new {S : Nat → Prop} {w a b : World} (h : Chg NoB w a) (k : Chg S a b) (hs : ∀ i, S i → w.heap.size ≤ i) : Chg NoB w b := h.trans k fun i hi => .inr (hs i hi)

/-! ### slices that are read -/
section rd
variable {α : Type} {w : World}

/-- v is a slice whose elements, each of size cells, are l. -/
def Rd (w : World) (size : Nat) (enc : α → List Value) (v : Value) (l : List α) : Prop :=
  ∃ a c, v = .slice a l.length c ∧ l.length ≤ c ∧ l.length ≤ maxLen ∧ (∀ i x, l[i]? = some x → ∃ b off, a = some ⟨b, off, none⟩ ∧ ∀ j u, (enc x)[j]? = some u → w.cell? ⟨b, off + i * size + j, none⟩ = some u)

def encI (x : Int) : List Value := [.int .i64 x]

theorem flatMap_get {size : Nat} {enc : α → List Value} (he : ∀ x, (enc x).length = size) {l : List α} {i : Nat} {x : α} (hi : l[i]? = some x) {j : Nat} {u : Value} (hu : (enc x)[j]? = some u) : (l.flatMap enc)[i * size + j]? = some u := by
  induction l generalizing i with
  | nil => simp at hi
  | cons y l ih =>
    have hj : j < size := by have := (List.getElem?_eq_some_iff.1 hu).1; rwa [he] at this
    rw [List.flatMap_cons]
    cases i with
    | zero =>
      simp at hi
      subst hi
      rw [List.getElem?_append_left (by rw [he]; omega)]
      simpa using hu
    | succ i =>
      rw [List.getElem?_append_right (by rw [he]; rw [Nat.add_mul]; omega), he]
      have e1 : (i + 1) * size + j - size = i * size + j := by rw [Nat.add_mul]; omega
      rw [e1]
      exact ih (by simpa using hi)

theorem Rd.of_own {base : Nat} {e : TypeId} {size : Nat} {enc : α → List Value} (he : ∀ x, (enc x).length = size) {v : Value} {l : List α} (h : w.ownsRow base e size v l.length (l.flatMap enc)) : Rd w size enc v l := by
  obtain ⟨h1, h2⟩ := h
  rcases h2 with ⟨rfl, h3⟩ | ⟨g, cap, cur, rfl, hb, hg, hn, hm, hs, ht⟩
  · have : l = [] := List.eq_nil_of_length_eq_zero h3
    subst this
    exact ⟨none, 0, rfl, Nat.le_refl _, by simp, fun i x hi => by simp at hi⟩
  · refine ⟨_, cap, rfl, hn, Nat.le_trans hn hm, fun i x hi => ⟨g, 0, rfl, fun j u hu => ?_⟩⟩
    have h4 := flatMap_get he hi hu
    rw [← ht] at h4
    rw [List.getElem?_take] at h4
    split at h4
    · rw [cell_blk hg, Nat.zero_add]; simpa using h4
    · cases h4

theorem flatMap_encI (l : List Int) : l.flatMap encI = l.map (Value.int .i64) := by induction l <;> simp_all [encI]
theorem Rd.ints_of {base : Nat} {e : TypeId} {v : Value} {l : List Int} (h : w.ownsRow base e 1 v l.length (l.map (Value.int .i64))) : Rd w 1 encI v l := by
  refine Rd.of_own (base := base) (e := e) (enc := encI) (fun _ => rfl) ?_
  rw [flatMap_encI]; exact h

/-- The element k of a slice of ints. -/
theorem Rd.int_at {a : Option Addr} {l : List Int} (h : ∀ i x, l[i]? = some x → ∃ b off, a = some ⟨b, off, none⟩ ∧ ∀ j u, (encI x)[j]? = some u → w.cell? ⟨b, off + i * 1 + j, none⟩ = some u) (k : Nat) (hk : k < l.length) :
    ∃ b off, a = some ⟨b, off, none⟩ ∧ w.cell? ⟨b, off + k, none⟩ = some (.int .i64 l[k]) := by
  obtain ⟨b, off, ha, h2⟩ := h k _ (List.getElem?_eq_getElem hk)
  exact ⟨b, off, ha, by simpa using h2 0 _ rfl⟩

/-- The cells of element k, in a later world. -/
theorem Rd.cells {α : Type} {w wr : World} {size : Nat} {enc : α → List Value} {a : Option Addr} {l : List α} (h : ∀ i x, l[i]? = some x → ∃ b off, a = some ⟨b, off, none⟩ ∧ ∀ j u, (enc x)[j]? = some u → w.cell? ⟨b, off + i * size + j, none⟩ = some u)
    (hc : Chg NoB w wr) (k : Nat) (hk : k < l.length) : ∃ b off, a = some ⟨b, off, none⟩ ∧ ∀ j u, (enc l[k])[j]? = some u → wr.cell? ⟨b, off + k * size + j, none⟩ = some u := by
  obtain ⟨b, off, ha, h2⟩ := h k _ (List.getElem?_eq_getElem hk)
  exact ⟨b, off, ha, fun j u hu => hc.cell (h2 j u hu) (fun e => e)⟩

theorem Rd.keep {size : Nat} {enc : α → List Value} {v : Value} {l : List α} {S : Nat → Prop} {w' : World} (h : Rd w size enc v l) (hc : Chg S w w') (hs : ∀ b off, (∃ n c, v = .slice (some ⟨b, off, none⟩) n c) → ¬ S b) : Rd w' size enc v l := by
  obtain ⟨a, c, hv, h1, h2, h3⟩ := h
  refine ⟨a, c, hv, h1, h2, fun i x hi => ?_⟩
  obtain ⟨b, off, ha, h4⟩ := h3 i x hi
  exact ⟨b, off, ha, fun j u hu => hc.cell (h4 j u hu) (hs b off ⟨_, _, by rw [hv, ha]⟩)⟩
end rd

end Go.Proofs.Ytmhmlfdidnhaoaa
