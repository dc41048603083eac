import Derived.Test.YtobmaipjbepphaaSl
namespace Go.Proofs.Ytobmaipjbepphaa
open Go.RowKit Go.ChangeMaps Go.MapKept
set_option linter.unusedVariables false

/-- What lies behind the pointers of a map: the key, the block, the blocks besides, and what is true of it. -/
structure TI (ε : Type) where
  key : ε → Int
  blk : ε → Nat
  ob : ε → Nat → Prop
  ok : World → ε → Prop
  keep : ∀ {w w' : World} {e : ε} {S : Nat → Prop}, ok w e → Chg S w w' → (∀ k, (k = blk e ∨ ob e k) → ¬ S k) → ok w' e
  lt : ∀ {w : World} {e : ε} {k : Nat}, ok w e → (k = blk e ∨ ob e k) → k < w.heap.size

variable {ε : Type}
def TI.fp (I : TI ε) (e : ε) : Nat → Prop := fun k => k = I.blk e ∨ I.ob e k
def ptrV (b : Nat) : Value := .pointer (some ⟨b, 0, none⟩)
def TI.row (I : TI ε) (e : ε) : Int × Nat := (I.key e, I.blk e)

/-- Block r is a map of pointers to E; the blocks X are others. -/
structure PT (I : TI ε) (X : Nat → Prop) (w : World) (r : Nat) (E : List ε) : Prop where
  map : MapI w r ptrV (E.map I.row)
  ok : ∀ e ∈ E, I.ok w e
  sep : ∀ (i j : Nat) (e f : ε), E[i]? = some e → E[j]? = some f → i ≠ j → ∀ k, I.fp e k → ¬ I.fp f k
  own : ∀ e ∈ E, ¬ I.ob e (I.blk e) ∧ ¬ I.fp e r ∧ ∀ k, X k → ¬ I.fp e k
  xr : ¬ X r

/-- Its blocks. -/
def ptFp (I : TI ε) (r : Nat) (E : List ε) : Nat → Prop := fun k => k = r ∨ ∃ e ∈ E, I.fp e k

section
variable {I : TI ε} {X : Nat → Prop} {w w' : World} {r : Nat} {E : List ε}

theorem PT.keep (h : PT I X w r E) {S : Nat → Prop} (hc : Chg S w w') (hs : ∀ k, S k → ¬ ptFp I r E k) : PT I X w' r E :=
  ⟨h.map.chg hc (fun e => hs _ e (.inl rfl)), fun e he => I.keep (h.ok e he) hc (fun k hk x => hs _ x (.inr ⟨e, he, hk⟩)), h.sep, h.own, h.xr⟩
theorem PT.keep0 (h : PT I X w r E) (hc : Chg NoB w w') : PT I X w' r E := h.keep hc fun _ e => e.elim
theorem PT.lt (h : PT I X w r E) : ∀ k, ptFp I r E k → k < w.heap.size := by
  rintro k (rfl | ⟨e, he, hk⟩)
  · exact h.map.lt
  · exact I.lt (h.ok e he) hk
theorem PT.nodup (h : PT I X w r E) : (E.map I.key).Nodup := by
  have := h.map.nodup
  simpa [List.map_map, Function.comp_def, TI.row] using this

/-- One is found, or none. -/
theorem PT.find (h : PT I X w r E) (n : Int) :
    (mget (E.map I.row) n = none ∧ (∀ e ∈ E, I.key e ≠ n) ∧ E.find? (fun e => I.key e == n) = none) ∨
    ∃ (i : Nat) (e : ε), E[i]? = some e ∧ I.key e = n ∧ mget (E.map I.row) n = some (I.blk e) ∧ E.find? (fun e => I.key e == n) = some e := by
  cases hf : E.find? (fun e => I.key e == n) with
  | none =>
    left
    have h1 := List.find?_eq_none.1 hf
    refine ⟨?_, fun e he x => h1 e he (by simpa using x), rfl⟩
    unfold mget; rw [List.find?_map]; simp only [Function.comp_def, TI.row]; rw [hf]; rfl
  | some e =>
    right
    obtain ⟨i, hi⟩ := List.getElem?_of_mem (List.mem_of_find?_eq_some hf)
    refine ⟨i, e, hi, by simpa using List.find?_some hf, ?_, rfl⟩
    unfold mget; rw [List.find?_map]; simp only [Function.comp_def, TI.row]; rw [hf]; rfl

theorem pt_map_set {α β : Type} {l : List α} {i : Nat} {x y : α} {f : α → β} (h : l[i]? = some x) (hf : f y = f x) : (l.set i y).map f = l.map f := by
  rw [List.map_set]
  apply List.ext_getElem?
  intro j
  rw [List.getElem?_set]
  split
  · rename_i e
    subst e
    split
    · simp [h, hf]
    · rename_i hl; simp at hl; simp [hl]
  · rfl

/-- One of them is turned. -/
theorem PT.set (h : PT I X w r E) {i : Nat} {e e' : ε} (hi : E[i]? = some e) (ht : I.key e' = I.key e) (hb : I.blk e' = I.blk e)
    (hc : Chg (I.fp e) w w') (hok : I.ok w' e') (hnew : ∀ k, I.ob e' k → I.ob e k ∨ w.heap.size ≤ k) (hX : ∀ k, X k → k < w.heap.size) : PT I X w' r (E.set i e') := by
  have hm : e ∈ E := List.mem_of_getElem? hi
  have hrl := h.lt r (.inl rfl)
  have hfp : ∀ k, I.fp e' k → I.fp e k ∨ w.heap.size ≤ k := by
    rintro k (hk | hk)
    · exact .inl (.inl (hk.trans hb))
    · rcases hnew k hk with h1 | h1
      · exact .inl (.inr h1)
      · exact .inr h1
  have hget : ∀ j f, (E.set i e')[j]? = some f → (j = i ∧ f = e') ∨ (j ≠ i ∧ E[j]? = some f) := by
    intro j f hf
    rw [List.getElem?_set] at hf
    split at hf
    · rename_i e1
      split at hf
      · cases hf; exact .inl ⟨e1.symm, rfl⟩
      · cases hf
    · rename_i e1; exact .inr ⟨fun x => e1 x.symm, hf⟩
  have hmem : ∀ f ∈ E.set i e', f = e' ∨ ∃ j, j ≠ i ∧ E[j]? = some f := by
    intro f hf
    obtain ⟨j, hj⟩ := List.getElem?_of_mem hf
    rcases hget j f hj with ⟨_, rfl⟩ | ⟨h1, h2⟩
    · exact .inl rfl
    · exact .inr ⟨j, h1, h2⟩
  refine ⟨?_, ?_, ?_, ?_, h.xr⟩
  · rw [pt_map_set hi (by simp [TI.row, ht, hb])]
    exact h.map.chg hc (h.own e hm).2.1
  · intro f hf
    rcases hmem f hf with rfl | ⟨j, h1, h2⟩
    · exact hok
    · have hf2 := List.mem_of_getElem? h2
      exact I.keep (h.ok f hf2) hc (h.sep j i f e h2 hi h1)
  · intro j1 j2 f1 f2 h1 h2 hne k hk1 hk2
    rcases hget j1 f1 h1 with ⟨rfl, rfl⟩ | ⟨n1, g1⟩
    · rcases hget j2 f2 h2 with ⟨rfl, rfl⟩ | ⟨n2, g2⟩
      · exact hne rfl
      · rcases hfp k hk1 with hk1 | hk1
        · exact h.sep _ _ _ _ hi g2 (fun x => n2 x.symm) k hk1 hk2
        · have := h.lt k (.inr ⟨f2, List.mem_of_getElem? g2, hk2⟩); omega
    · rcases hget j2 f2 h2 with ⟨rfl, rfl⟩ | ⟨n2, g2⟩
      · rcases hfp k hk2 with hk2 | hk2
        · exact h.sep _ _ _ _ hi g1 (fun x => n1 x.symm) k hk2 hk1
        · have := h.lt k (.inr ⟨f1, List.mem_of_getElem? g1, hk1⟩); omega
      · exact h.sep _ _ _ _ g1 g2 hne k hk1 hk2
  · intro f hf
    rcases hmem f hf with rfl | ⟨j, h1, h2⟩
    · refine ⟨?_, ?_, ?_⟩
      · intro hk
        rw [hb] at hk
        rcases hnew _ hk with h1 | h1
        · exact (h.own e hm).1 h1
        · have := h.lt (I.blk e) (.inr ⟨e, hm, .inl rfl⟩); omega
      · intro hk
        rcases hfp _ hk with h1 | h1
        · exact (h.own e hm).2.1 h1
        · omega
      · intro k hx hk
        rcases hfp _ hk with h1 | h1
        · exact (h.own e hm).2.2 k hx h1
        · have := hX k hx; omega
    · exact h.own f (List.mem_of_getElem? h2)

theorem ptFp_set {i : Nat} {e e' : ε} (hi : E[i]? = some e) (hb : I.blk e' = I.blk e) (hnew : ∀ k, I.ob e' k → I.ob e k ∨ w.heap.size ≤ k) : ∀ k, ptFp I r (E.set i e') k → ptFp I r E k ∨ w.heap.size ≤ k := by
  rintro k (rfl | ⟨f, hf, hk⟩)
  · exact .inl (.inl rfl)
  · rcases List.mem_or_eq_of_mem_set hf with hf | rfl
    · exact .inl (.inr ⟨f, hf, hk⟩)
    · rcases hk with hk | hk
      · exact .inl (.inr ⟨e, List.mem_of_getElem? hi, .inl (hk.trans hb)⟩)
      · rcases hnew k hk with h1 | h1
        · exact .inl (.inr ⟨e, List.mem_of_getElem? hi, .inr h1⟩)
        · exact .inr h1

/-- A new one. -/
theorem PT.push (h : PT I X w r E) {e : ε} (hm : MapI w' r ptrV (E.map I.row ++ [I.row e])) (hc : Chg (OneB r) w w') (hb : w.heap.size ≤ I.blk e) (hob : ∀ k, I.ob e k → w.heap.size ≤ k ∧ k ≠ I.blk e) (hok : I.ok w' e) (hX : ∀ k, X k → k < w.heap.size) : PT I X w' r (E ++ [e]) := by
  have hrl := h.lt r (.inl rfl)
  have hfp : ∀ k, I.fp e k → w.heap.size ≤ k := by
    rintro k (rfl | hk)
    · exact hb
    · exact (hob k hk).1
  have hget : ∀ j f, (E ++ [e])[j]? = some f → (j < E.length ∧ E[j]? = some f) ∨ (j = E.length ∧ f = e) := by
    intro j f hf
    rw [List.getElem?_append] at hf
    split at hf
    · rename_i hj; exact .inl ⟨hj, hf⟩
    · rename_i hj
      have : j - E.length = 0 := by
        have := (List.getElem?_eq_some_iff.1 hf).1
        simp at this; omega
      rw [this] at hf
      simp at hf
      exact .inr ⟨by omega, hf.symm⟩
  have hold : ∀ f ∈ E, ∀ k, I.fp f k → k < w.heap.size := fun f hf k hk => h.lt k (.inr ⟨f, hf, hk⟩)
  refine ⟨by simpa using hm, ?_, ?_, ?_, h.xr⟩
  · intro f hf
    rcases List.mem_append.1 hf with hf | hf
    · exact I.keep (h.ok f hf) hc fun k hk x => (h.own f hf).2.1 (by rw [← (show k = r from x)]; exact hk)
    · obtain rfl : f = e := by simpa using hf
      exact hok
  · intro j1 j2 f1 f2 h1 h2 hne k hk1 hk2
    rcases hget j1 f1 h1 with ⟨n1, g1⟩ | ⟨n1, rfl⟩ <;> rcases hget j2 f2 h2 with ⟨n2, g2⟩ | ⟨n2, rfl⟩
    · exact h.sep _ _ _ _ g1 g2 hne k hk1 hk2
    · have := hold f1 (List.mem_of_getElem? g1) k hk1
      have := hfp k hk2
      omega
    · have := hold f2 (List.mem_of_getElem? g2) k hk2
      have := hfp k hk1
      omega
    · exact hne (n1.trans n2.symm)
  · intro f hf
    rcases List.mem_append.1 hf with hf | hf
    · exact h.own f hf
    · obtain rfl : f = e := by simpa using hf
      refine ⟨fun x => (hob _ x).2 rfl, fun x => ?_, fun k hx x => ?_⟩
      · have := hfp _ x; omega
      · have := hfp _ x; have := hX k hx; omega

theorem ptFp_push {e : ε} (hb : w.heap.size ≤ I.blk e) (hob : ∀ k, I.ob e k → w.heap.size ≤ k) : ∀ k, ptFp I r (E ++ [e]) k → ptFp I r E k ∨ w.heap.size ≤ k := by
  rintro k (rfl | ⟨f, hf, hk⟩)
  · exact .inl (.inl rfl)
  · rcases List.mem_append.1 hf with hf | hf
    · exact .inl (.inr ⟨f, hf, hk⟩)
    · obtain rfl : f = e := by simpa using hf
      rcases hk with rfl | hk
      · exact .inr hb
      · exact .inr (hob k hk)

/-- One is over. -/
theorem PT.del (h : PT I X w r E) (n : Int) (hm : MapI w' r ptrV (mdel (E.map I.row) n)) (hc : Chg (OneB r) w w') : PT I X w' r (E.filter (fun e => !(I.key e == n))) := by
  have hmem : ∀ f ∈ E.filter (fun e => !(I.key e == n)), f ∈ E := fun f hf => (List.mem_filter.1 hf).1
  refine ⟨?_, ?_, ?_, fun f hf => h.own f (hmem f hf), h.xr⟩
  · have : (E.filter (fun e => !(I.key e == n))).map I.row = mdel (E.map I.row) n := by
      unfold mdel; rw [List.filter_map]; rfl
    rw [this]; exact hm
  · intro f hf
    have hf := hmem f hf
    exact I.keep (h.ok f hf) hc fun k hk x => (h.own f hf).2.1 (by rw [← (show k = r from x)]; exact hk)
  · have hp : E.Pairwise (fun e f => ∀ k, I.fp e k → ¬ I.fp f k) := by
      rw [List.pairwise_iff_getElem]
      intro i j hi hj hij
      exact h.sep i j _ _ (List.getElem?_eq_getElem hi) (List.getElem?_eq_getElem hj) (by omega)
    have hp2 := hp.filter (fun e => !(I.key e == n))
    rw [List.pairwise_iff_getElem] at hp2
    intro i j e f hi hj hne k hk1 hk2
    obtain ⟨li, ei⟩ := List.getElem?_eq_some_iff.1 hi
    obtain ⟨lj, ej⟩ := List.getElem?_eq_some_iff.1 hj
    rcases Nat.lt_or_gt_of_ne hne with hlt | hlt
    · exact hp2 i j li lj hlt k (ei ▸ hk1) (ej ▸ hk2)
    · exact hp2 j i lj li hlt k (ej ▸ hk2) (ei ▸ hk1)
theorem ptFp_del {n : Int} : ∀ k, ptFp I r (E.filter (fun e => !(I.key e == n))) k → ptFp I r E k := by
  rintro k (rfl | ⟨f, hf, hk⟩)
  · exact .inl rfl
  · exact .inr ⟨f, (List.mem_filter.1 hf).1, hk⟩
theorem PT.nil {I : TI ε} {X : Nat → Prop} (hm : MapI w r (ptrV) ([] : List (Int × Nat))) (hx : ¬ X r) : PT I X w r [] := ⟨hm, by simp, by intro i j e f h; simp at h, by simp, hx⟩
end
end Go.Proofs.Ytobmaipjbepphaa
