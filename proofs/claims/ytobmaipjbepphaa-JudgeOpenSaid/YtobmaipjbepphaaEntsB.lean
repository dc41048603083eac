import Derived.Test.YtobmaipjbepphaaRecFn
import Derived.Test.YtobmaipjbepphaaCell
namespace Go.Proofs.Ytobmaipjbepphaa
open Go.RowKit Go.ChangeMaps
set_option linter.unusedVariables false

/-- The cells of a record that has no tables. -/
def Rec.csn (r : Rec) : List Value := r.cs (.slice none 0 0) (.slice none 0 0)
/-- The cells of an entry without tables. -/
def Ent.csn (x : Ent) : List Value := .int .i64 x.at_ :: x.r.csn
theorem tabs_nil {w : World} {r : Rec} (h1 : r.txns = []) (h2 : r.pages = []) : Tabs w r (.slice none 0 0) (.slice none 0 0) := by
  refine ⟨⟨none, 0, by rw [h1]; rfl, by simp [h1], by simp [h1, maxLen], fun i x hi => by rw [h1] at hi; simp at hi⟩, ⟨none, 0, by rw [h2]; rfl, by simp [h2], by simp [h2, maxLen], fun i x hi => by rw [h2] at hi; simp at hi⟩⟩
theorem Ents.of_cells {w : World} {v : Value} {l : List Ent} (h : Rd w 12 Ent.csn v l) (hn : ∀ x ∈ l, x.r.txns = [] ∧ x.r.pages = [] ∧ x.r.ok ∧ fits x.at_) : Ents w v l := by
  obtain ⟨a, c, h1, h2, h3, h4⟩ := h
  refine ⟨a, c, h1, h2, h3, fun i x hi => ?_⟩
  obtain ⟨b, off, h5, h6⟩ := h4 i x hi
  obtain ⟨n1, n2, n3, n4⟩ := hn x (List.mem_of_getElem? hi)
  exact ⟨_, b, off, ⟨_, _, rfl, tabs_nil n1 n2, n3, n4⟩, by simp [Ent.csn, Rec.csn, Rec.cs], h5, fun j u hu => h6 j u hu⟩
/-- A slice over a whole block. -/
theorem Rd.of_blk {α : Type} {w : World} {size : Nat} {enc : α → List Value} (he : ∀ x, (enc x).length = size) {l : List α} {b : Nat} {cs : Array Value} {t : TypeId} {f : Nat × Nat} (hb : w.heap[b]? = some (.cells cs t f)) (hcs : cs.toList = l.flatMap enc) (hl : l.length ≤ maxLen) :
    Rd w size enc (.slice (some ⟨b, 0, none⟩) l.length l.length) l := by
  refine ⟨_, _, rfl, Nat.le_refl _, hl, fun i x hi => ⟨b, 0, rfl, fun j u hu => ?_⟩⟩
  have := flatMap_get he hi hu
  rw [cell_blk hb, ← Array.getElem?_toList, hcs, Nat.zero_add]
  exact this
theorem few_len {l : List Ent} (h : true = entsFew l) : l.length ≤ 1000000 := by
  simp [entsFew] at h
  omega

theorem slEnt : SlT Try.prog 22 32 (.agg #[.int .i64 0, .int .i64 0, .int .i64 0, .int .i64 0, .int .i64 0, .int .i64 0, .int .i64 0, .int .i64 0, .string ⟨#[]⟩, .string ⟨#[]⟩, .slice none 0 0, .slice none 0 0]) 12 144 := ⟨Try.underlying22, by kernel_rfl, rfl, by omega⟩
/-- The cells of an entry with its tables. -/
def encE (p : Ent × Value × Value) : List Value := .int .i64 p.1.at_ :: p.1.r.cs p.2.1 p.2.2

/-- The block of a slice that has elements. -/
def SlB (v : Value) (k : Nat) : Prop := ∃ off n c, v = .slice (some ⟨k, off, none⟩) n c ∧ 0 < n
theorem Rd.keepS {α : Type} {w w' : World} {size : Nat} {enc : α → List Value} {v : Value} {l : List α} {S : Nat → Prop} (h : Rd w size enc v l) (hc : Chg S w w') (hs : ∀ k, SlB v k → ¬ S k) : Rd w' size enc v l := by
  obtain ⟨a, c, hv, h1, h2, h3⟩ := h
  refine ⟨a, c, hv, h1, h2, fun i x hi => ?_⟩
  obtain ⟨b, off, ha, h4⟩ := h3 i x hi
  have hl : 0 < l.length := by have := (List.getElem?_eq_some_iff.1 hi).1; omega
  exact ⟨b, off, ha, fun j u hu => hc.cell (h4 j u hu) (hs b ⟨off, _, _, by rw [hv, ha], hl⟩)⟩
theorem Rd.slLt {α : Type} {w : World} {size : Nat} {enc : α → List Value} (he : ∀ x, (enc x).length = size) (hp : 0 < size) {v : Value} {l : List α} (h : Rd w size enc v l) {k : Nat} (hk : SlB v k) : k < w.heap.size := by
  obtain ⟨a, c, hv, h1, h2, h3⟩ := h
  obtain ⟨off, n, c', e, hn⟩ := hk
  rw [hv] at e
  cases e
  obtain ⟨b, off', ha, h4⟩ := h3 0 _ (List.getElem?_eq_getElem hn)
  cases ha
  have hlt : 0 < (enc l[0]).length := by rw [he]; exact hp
  exact World.block_lt_of_cell? w _ (h4 0 _ (List.getElem?_eq_getElem hlt))
theorem SlB.nil {k : Nat} : ¬ SlB (.slice none 0 0) k := by rintro ⟨_, _, _, e, _⟩; cases e

/-- An entry whose tables lie outside of F. -/
structure EntK (F : Nat → Prop) (w : World) (p : Ent × Value × Value) : Prop where
  tabs : Tabs w p.1.r p.2.1 p.2.2
  ok : p.1.r.ok
  fit : fits p.1.at_
  out : ∀ k, F k → ¬ SlB p.2.1 k ∧ ¬ SlB p.2.2 k
theorem EntK.keep {F S : Nat → Prop} {w w' : World} {p : Ent × Value × Value} (h : EntK F w p) (hc : Chg S w w') (hs : ∀ k, S k → F k ∨ w.heap.size ≤ k) : EntK F w' p := by
  have lt1 : ∀ k, SlB p.2.1 k → k < w.heap.size := fun k hk => Rd.slLt (size := 3) (fun _ => rfl) (by decide) h.tabs.1 hk
  have lt2 : ∀ k, SlB p.2.2 k → k < w.heap.size := fun k hk => Rd.slLt (size := 2) (fun _ => rfl) (by decide) h.tabs.2 hk
  refine ⟨⟨h.tabs.1.keepS hc fun k hk e => ?_, h.tabs.2.keepS hc fun k hk e => ?_⟩, h.ok, h.fit, h.out⟩
  · rcases hs k e with h1 | h1
    · exact (h.out k h1).1 hk
    · have := lt1 k hk; omega
  · rcases hs k e with h1 | h1
    · exact (h.out k h1).2 hk
    · have := lt2 k hk; omega
theorem EntK.mono {F F' : Nat → Prop} {w : World} {p : Ent × Value × Value} (h : EntK F w p) (hF : ∀ k, F' k → F k ∨ w.heap.size ≤ k) : EntK F' w p := by
  refine ⟨h.tabs, h.ok, h.fit, fun k hk => ?_⟩
  rcases hF k hk with h1 | h1
  · exact h.out k h1
  · exact ⟨fun hk => by have := Rd.slLt (size := 3) (fun _ => rfl) (by decide) h.tabs.1 hk; omega, fun hk => by have := Rd.slLt (size := 2) (fun _ => rfl) (by decide) h.tabs.2 hk; omega⟩

/-- A list of entries of one's own; their tables lie outside of it and of F. -/
def OwnE (F : Nat → Prop) (w : World) (base : Nat) (v : Value) (L : List Ent) : Prop :=
  ∃ xs : List (Ent × Value × Value), xs.map (·.1) = L ∧ (∀ p ∈ xs, EntK (fun k => OwnB v k ∨ F k) w p) ∧ w.ownsRow base 32 12 v xs.length (xs.flatMap encE)
theorem OwnE.nil (F : Nat → Prop) (w : World) (base : Nat) : OwnE F w base (.slice none 0 0) [] := ⟨[], rfl, by simp, World.ownsRow_nil _ _ _ _⟩
theorem OwnE.ents {F : Nat → Prop} {w : World} {base : Nat} {v : Value} {L : List Ent} (h : OwnE F w base v L) : Ents w v L := by
  obtain ⟨xs, rfl, h2, h3⟩ := h
  obtain ⟨a, c, e1, e2, e3, e4⟩ := Rd.of_own (fun x => by simp [encE, Rec.cs]) h3
  refine ⟨a, c, by rw [e1]; simp, by simpa using e2, by simpa using e3, fun i x hi => ?_⟩
  rw [List.getElem?_map] at hi
  obtain ⟨p, hp, rfl⟩ := Option.map_eq_some_iff.1 hi
  obtain ⟨b, off, e5, e6⟩ := e4 i p hp
  have hk := h2 p (List.mem_of_getElem? hp)
  exact ⟨_, b, off, ⟨_, _, rfl, hk.tabs, hk.ok, hk.fit⟩, by simp [Rec.cs], e5, fun j u hu => e6 j u hu⟩
theorem OwnE.form {F : Nat → Prop} {w : World} {base : Nat} {v : Value} {L : List Ent} (h : OwnE F w base v L) : ∃ ao co, v = .slice ao L.length co := by
  obtain ⟨xs, rfl, h2, h3⟩ := h
  obtain ⟨ao, co, rfl⟩ := ownsForm h3
  exact ⟨ao, co, by simp⟩
theorem OwnE.own {F : Nat → Prop} {w : World} {base : Nat} {v : Value} {L : List Ent} (h : OwnE F w base v L) : ∃ xs : List (Ent × Value × Value), xs.length = L.length ∧ w.ownsRow base 32 12 v xs.length (xs.flatMap encE) := by
  obtain ⟨xs, rfl, h2, h3⟩ := h
  exact ⟨xs, by simp, h3⟩
theorem OwnE.ge {F : Nat → Prop} {w : World} {base : Nat} {v : Value} {L : List Ent} (h : OwnE F w base v L) {k : Nat} (hk : OwnB v k) : base ≤ k ∧ k < w.heap.size := by
  obtain ⟨xs, rfl, h2, h3⟩ := h
  exact OwnB.ge h3 k hk
/-- What lies elsewhere may turn. -/
theorem OwnE.keep {F S : Nat → Prop} {w w' : World} {base : Nat} {v : Value} {L : List Ent} (h : OwnE F w base v L) (hc : Chg S w w') (hs : ∀ k, S k → F k ∨ w.heap.size ≤ k) (ho : ∀ k, OwnB v k → ¬ S k) : OwnE F w' base v L := by
  obtain ⟨xs, rfl, h2, h3⟩ := h
  refine ⟨xs, rfl, fun p hp => (h2 p hp).keep hc fun k hk => ?_, ownsRow.chg h3 hc ho⟩
  rcases hs k hk with h1 | h1
  · exact .inl (.inr h1)
  · exact .inr h1
theorem OwnE.keep0 {F : Nat → Prop} {w w' : World} {base : Nat} {v : Value} {L : List Ent} (h : OwnE F w base v L) (hc : Chg NoB w w') : OwnE F w' base v L := h.keep hc (fun _ e => e.elim) (fun _ _ => fun e => e)

/-- append of one entry, laid into a block of its own. -/
theorem step_appE {P : Program} {w : World} {ops : Array Oper} {rest : List Oper} {o : Oper} {a : Act} {Q : Exit → Act → World → Prop} (T : SlT P 22 32 (.agg #[.int .i64 0, .int .i64 0, .int .i64 0, .int .i64 0, .int .i64 0, .int .i64 0, .int .i64 0, .int .i64 0, .string ⟨#[]⟩, .string ⟨#[]⟩, .slice none 0 0, .slice none 0 0]) 12 144)
    (hg : o.guard = none) (s x : Operand) (hop : o.op = .call { callee := .builtin .append, args := #[s, x], argTypes := #[22, 22] })
    {F : Nat → Prop} {base : Nat} {v : Value} {L : List Ent} (hown : OwnE F w base v L) (hs : a.eval s = v) (b : Nat) (y : Ent) (v1 v2 : Value) (hx : a.eval x = .slice (some ⟨b, 0, none⟩) 1 1)
    {c : Array Value} {e' : TypeId} {f : Nat × Nat} (hb : w.heap[b]? = some (.cells c e' f)) (hc : c = (encE (y, v1, v2)).toArray) (hone : v1.oneCell' = true ∧ v2.oneCell' = true) (hy : EntK (fun k => OwnB v k ∨ F k) w (y, v1, v2))
    (hn : L.length ≤ 100000000) (hbase : base ≤ w.heap.size)
    (hK : ∀ v' w', OwnE F w' base v' (L ++ [y]) → Chg (OwnB v) w w' → (∀ i, OwnB v' i → OwnB v i ∨ w.heap.size ≤ i) → wpList P ops Q rest (a.put o.dst v') w') : wpList P ops Q (o :: rest) a w := by
  obtain ⟨xs, rfl, h2, h3⟩ := hown
  rw [List.length_map] at hn
  refine step_app1 T hg s x hop h3 hs b (encE (y, v1, v2)) hx hb hc (by simp [encE, Rec.cs]) (by obtain ⟨o1, o2⟩ := hone; intro u hu; simp only [encE, Rec.cs, List.mem_cons, List.not_mem_nil, or_false] at hu; rcases hu with h | h | h | h | h | h | h | h | h | h | h | h <;> subst h <;> first | rfl | assumption) (by omega) (by unfold maxLen; omega) hbase fun v' w' g1 g2 g3 g4 => ?_
  refine hK v' w' ⟨xs ++ [(y, v1, v2)], by simp, ?_, by simpa using g1⟩ g2 g3
  intro p hp
  have hp' : EntK (fun k => OwnB v k ∨ F k) w p := by
    rcases List.mem_append.1 hp with h | h
    · exact h2 p h
    · obtain rfl := List.mem_singleton.1 h; exact hy
  have h5 : EntK (fun k => (OwnB v' k ∨ F k) ∨ OwnB v k) w p := hp'.mono fun k hk => by
    rcases hk with (hk | hk) | hk
    · rcases g3 k hk with h | h
      · exact .inl (.inl h)
      · exact .inr h
    · exact .inl (.inr hk)
    · exact .inl (.inl hk)
  exact (h5.keep g2 fun k hk => .inl (.inr hk)).mono fun k hk => .inl (.inl hk)
end Go.Proofs.Ytobmaipjbepphaa
