import Derived.Test.YtmikbjlgcndmeaaProg
import Derived.Test.YtmikbjlgcndmeaaSl
namespace Go.Proofs.Ytmikbjlgcndmeaa
open Go.RowKit Go.ChangeMaps Go.MapKept
set_option linter.unusedVariables false
set_option linter.unusedSimpArgs false
set_option linter.unnecessarySimpa false

/-- A transaction of the table. -/
structure TxS where
  txn : Int
  first : Int
  last : Int
  left : Int
  marks : List (Int × Int)
/-- .. where it lies, and its marks' slice. -/
structure TxE where
  s : TxS
  b : Nat
  mv : Value

abbrev TTab := List TxS
def tFind (T : TTab) (n : Int) : Option TxS := T.find? (fun s => s.txn == n)
def tUpd (T : TTab) (n : Int) (s : TxS) : TTab := T.map (fun x => if x.txn == n then s else x)

def encMk (x : Int × Int) : List Value := [.int .i64 x.1, .int .i64 x.2]

/-- The blocks of a transaction. -/
def TxE.fp (e : TxE) : Nat → Prop := fun k => k = e.b ∨ OwnB e.mv k
/-- The blocks of the table. -/
def tabFp (p r : Nat) (E : List TxE) : Nat → Prop := fun k => k = p ∨ k = r ∨ ∃ e ∈ E, e.fp k

def TxE.cs (e : TxE) : Array Value := #[.int .i64 e.s.txn, .int .i64 e.s.first, .int .i64 e.s.last, .int .i64 e.s.left, e.mv]

/-- The object p is the table E; its map is r. -/
structure TabAt (w : World) (p r : Nat) (E : List TxE) : Prop where
  tab : w.heap[p]? = some (.cells #[.map (some r)] 62 (0, 0))
  map : MapI w r (fun b : Nat => Value.pointer (some ⟨b, 0, none⟩)) (E.map fun e => (e.s.txn, e.b))
  blk : ∀ e ∈ E, w.heap[e.b]? = some (.cells e.cs 68 (0, 0)) ∧ w.ownsRow 0 70 2 e.mv e.s.marks.length (e.s.marks.flatMap encMk)
  sep : ∀ (i j : Nat) (e f : TxE), E[i]? = some e → E[j]? = some f → i ≠ j → ∀ k, e.fp k → ¬ f.fp k
  own : ∀ e ∈ E, ¬ OwnB e.mv e.b ∧ ¬ e.fp p ∧ ¬ e.fp r
  pr : p ≠ r
  few : E.length ≤ 4
  fit : ∀ e ∈ E, 1 ≤ e.s.txn ∧ e.s.txn ≤ 2147483647 ∧ 0 ≤ e.s.left ∧ e.s.left ≤ 1048576 ∧ e.s.marks.length ≤ 4

theorem TabAt.keep {w w' : World} {p r : Nat} {E : List TxE} (h : TabAt w p r E) {S : Nat → Prop} (hc : Chg S w w') (hs : ∀ k, S k → ¬ tabFp p r E k) : TabAt w' p r E :=
  ⟨hc.heap h.tab (fun e => hs _ e (.inl rfl)), h.map.chg hc (fun e => hs _ e (.inr (.inl rfl))),
   fun e he => ⟨hc.heap (h.blk e he).1 (fun x => hs _ x (.inr (.inr ⟨e, he, .inl rfl⟩))), ownsRow.chg (h.blk e he).2 hc (fun k hk x => hs _ x (.inr (.inr ⟨e, he, .inr hk⟩)))⟩,
   h.sep, h.own, h.pr, h.few, h.fit⟩
theorem TabAt.keep0 {w w' : World} {p r : Nat} {E : List TxE} (h : TabAt w p r E) (hc : Chg NoB w w') : TabAt w' p r E := h.keep hc fun _ e => e.elim

theorem TabAt.lt {w : World} {p r : Nat} {E : List TxE} (h : TabAt w p r E) : ∀ k, tabFp p r E k → k < w.heap.size := by
  rintro k (rfl | rfl | ⟨e, he, rfl | hk⟩)
  · exact lt_of_block h.tab
  · exact h.map.lt
  · exact lt_of_block (h.blk e he).1
  · exact (OwnB.ge (h.blk e he).2 k hk).2

theorem TabAt.nodup {w : World} {p r : Nat} {E : List TxE} (h : TabAt w p r E) : (E.map (fun e => e.s.txn)).Nodup := by
  have := h.map.nodup
  simpa [List.map_map, Function.comp_def] using this

/-- One is found, or none. -/
theorem TabAt.find {w : World} {p r : Nat} {E : List TxE} (h : TabAt w p r E) (n : Int) :
    (mget (E.map fun e => (e.s.txn, e.b)) n = none ∧ (∀ e ∈ E, e.s.txn ≠ n) ∧ tFind (E.map (·.s)) n = none) ∨
    ∃ (i : Nat) (e : TxE), E[i]? = some e ∧ e.s.txn = n ∧ mget (E.map fun e => (e.s.txn, e.b)) n = some e.b ∧ tFind (E.map (·.s)) n = some e.s := by
  cases hf : E.find? (fun e => e.s.txn == n) with
  | none =>
    left
    have h1 := List.find?_eq_none.1 hf
    refine ⟨?_, fun e he x => h1 e he (by simpa using x), ?_⟩
    · unfold mget; rw [List.find?_map]; simp only [Function.comp_def]; rw [hf]; rfl
    · unfold tFind; rw [List.find?_map]; simp only [Function.comp_def]; rw [hf]; rfl
  | some e =>
    right
    obtain ⟨i, hi⟩ := List.getElem?_of_mem (List.mem_of_find?_eq_some hf)
    refine ⟨i, e, hi, by simpa using List.find?_some hf, ?_, ?_⟩
    · unfold mget; rw [List.find?_map]; simp only [Function.comp_def]; rw [hf]; rfl
    · unfold tFind; rw [List.find?_map]; simp only [Function.comp_def]; rw [hf]; rfl

theorem map_set_of {α β : Type} {l : List α} {i : Nat} {x y : α} {f : α → β} (h : l[i]? = some x) (hf : f y = f x) : (l.set i y).map f = l.map f := by
  rw [List.map_set]
  apply List.ext_getElem?
  intro j
  rw [List.getElem?_set]
  split
  · rename_i e
    subst e
    split
    · simp [h, hf]
    · rename_i hl; simp at hl; simp [hl]
  · rfl

theorem upd_set {E : List TxE} {i : Nat} {e e' : TxE} (hn : (E.map (fun e => e.s.txn)).Nodup) (h : E[i]? = some e) : (E.set i e').map (·.s) = tUpd (E.map (·.s)) e.s.txn e'.s := by
  unfold tUpd
  rw [List.map_set, List.map_map]
  apply List.ext_getElem?
  intro j
  rw [List.getElem?_set, List.length_map]
  simp only [List.getElem?_map]
  have hi : i < E.length := (List.getElem?_eq_some_iff.1 h).1
  by_cases hij : i = j
  · subst hij
    rw [if_pos rfl, if_pos hi, h]
    simp
  · rw [if_neg hij]
    cases hj : E[j]? with
    | none => rfl
    | some f =>
      simp only [Option.map_some, Function.comp_def]
      have hne : (f.s.txn == e.s.txn) = false := by
        cases hb : f.s.txn == e.s.txn
        · rfl
        · exfalso
          have e1 : f.s.txn = e.s.txn := by simpa using hb
          have a1 : (E.map (fun e => e.s.txn))[i]? = some e.s.txn := by simp [h]
          have a2 : (E.map (fun e => e.s.txn))[j]? = some e.s.txn := by simp [hj, e1]
          exact hij ((List.getElem?_inj (List.getElem?_eq_some_iff.1 a1).1 hn).1 (a1.trans a2.symm))
      rw [hne]; rfl

/-- One of them is turned. -/
theorem TabAt.set {w w' : World} {p r : Nat} {E : List TxE} (h : TabAt w p r E) {i : Nat} {e e' : TxE} (hi : E[i]? = some e) (ht : e'.s.txn = e.s.txn) (hb : e'.b = e.b)
    (hc : Chg e.fp w w') (hblk : w'.heap[e.b]? = some (.cells e'.cs 68 (0, 0))) (hown : w'.ownsRow 0 70 2 e'.mv e'.s.marks.length (e'.s.marks.flatMap encMk))
    (hnew : ∀ k, OwnB e'.mv k → OwnB e.mv k ∨ w.heap.size ≤ k) (hfit : 0 ≤ e'.s.left ∧ e'.s.left ≤ 1048576 ∧ e'.s.marks.length ≤ 4) : TabAt w' p r (E.set i e') := by
  have hm : e ∈ E := List.mem_of_getElem? hi
  have hpl := h.lt p (.inl rfl)
  have hrl := h.lt r (.inr (.inl rfl))
  have hfp : ∀ k, e'.fp k → e.fp k ∨ w.heap.size ≤ k := by
    rintro k (hk | hk)
    · exact .inl (.inl (hk.trans hb))
    · rcases hnew k hk with h1 | h1
      · exact .inl (.inr h1)
      · exact .inr h1
  have hget : ∀ j f, (E.set i e')[j]? = some f → (j = i ∧ f = e') ∨ (j ≠ i ∧ E[j]? = some f) := by
    intro j f hf
    rw [List.getElem?_set] at hf
    split at hf
    · rename_i e1
      split at hf
      · cases hf; exact .inl ⟨e1.symm, rfl⟩
      · cases hf
    · rename_i e1; exact .inr ⟨fun x => e1 x.symm, hf⟩
  have hmem : ∀ f ∈ E.set i e', f = e' ∨ ∃ j, j ≠ i ∧ E[j]? = some f := by
    intro f hf
    obtain ⟨j, hj⟩ := List.getElem?_of_mem hf
    rcases hget j f hj with ⟨_, rfl⟩ | ⟨h1, h2⟩
    · exact .inl rfl
    · exact .inr ⟨j, h1, h2⟩
  refine ⟨hc.heap h.tab (h.own e hm).2.1, ?_, ?_, ?_, ?_, h.pr, by simpa using h.few, ?_⟩
  · rw [map_set_of hi (by rw [ht, hb])]
    exact h.map.chg hc (h.own e hm).2.2
  · intro f hf
    rcases hmem f hf with rfl | ⟨j, h1, h2⟩
    · rw [hb]; exact ⟨hblk, hown⟩
    · have hf2 := List.mem_of_getElem? h2
      have hs := h.sep j i f e h2 hi h1
      exact ⟨hc.heap (h.blk f hf2).1 (hs _ (.inl rfl)), ownsRow.chg (h.blk f hf2).2 hc (fun k hk => hs k (.inr hk))⟩
  · intro j1 j2 f1 f2 h1 h2 hne k hk1 hk2
    rcases hget j1 f1 h1 with ⟨rfl, rfl⟩ | ⟨n1, g1⟩
    · rcases hget j2 f2 h2 with ⟨rfl, rfl⟩ | ⟨n2, g2⟩
      · exact hne rfl
      · rcases hfp k hk1 with hk1 | hk1
        · exact h.sep _ _ _ _ hi g2 (fun x => n2 x.symm) k hk1 hk2
        · have := h.lt k (.inr (.inr ⟨f2, List.mem_of_getElem? g2, hk2⟩)); omega
    · rcases hget j2 f2 h2 with ⟨rfl, rfl⟩ | ⟨n2, g2⟩
      · rcases hfp k hk2 with hk2 | hk2
        · exact h.sep _ _ _ _ hi g1 (fun x => n1 x.symm) k hk2 hk1
        · have := h.lt k (.inr (.inr ⟨f1, List.mem_of_getElem? g1, hk1⟩)); omega
      · exact h.sep _ _ _ _ g1 g2 hne k hk1 hk2
  · intro f hf
    rcases hmem f hf with rfl | ⟨j, h1, h2⟩
    · refine ⟨?_, ?_, ?_⟩
      · intro hk
        rw [hb] at hk
        rcases hnew _ hk with h1 | h1
        · exact (h.own e hm).1 h1
        · have := h.lt e.b (.inr (.inr ⟨e, hm, .inl rfl⟩)); omega
      · intro hk
        rcases hfp _ hk with h1 | h1
        · exact (h.own e hm).2.1 h1
        · omega
      · intro hk
        rcases hfp _ hk with h1 | h1
        · exact (h.own e hm).2.2 h1
        · omega
    · exact h.own f (List.mem_of_getElem? h2)
  · intro f hf
    rcases hmem f hf with rfl | ⟨j, h1, h2⟩
    · obtain ⟨g1, g2, _⟩ := h.fit e hm
      rw [ht]
      exact ⟨g1, g2, hfit⟩
    · exact h.fit f (List.mem_of_getElem? h2)

theorem tabFp_set {p r : Nat} {E : List TxE} {i : Nat} {e e' : TxE} {w : World} (hi : E[i]? = some e) (hb : e'.b = e.b) (hnew : ∀ k, OwnB e'.mv k → OwnB e.mv k ∨ w.heap.size ≤ k) :
    ∀ k, tabFp p r (E.set i e') k → tabFp p r E k ∨ w.heap.size ≤ k := by
  rintro k (rfl | rfl | ⟨f, hf, hk⟩)
  · exact .inl (.inl rfl)
  · exact .inl (.inr (.inl rfl))
  · rcases List.mem_or_eq_of_mem_set hf with hf | rfl
    · exact .inl (.inr (.inr ⟨f, hf, hk⟩))
    · rcases hk with hk | hk
      · exact .inl (.inr (.inr ⟨e, List.mem_of_getElem? hi, .inl (hk.trans hb)⟩))
      · rcases hnew k hk with h1 | h1
        · exact .inl (.inr (.inr ⟨e, List.mem_of_getElem? hi, .inr h1⟩))
        · exact .inr h1

/-- A new one. -/
theorem TabAt.push {w w' : World} {p r : Nat} {E : List TxE} (h : TabAt w p r E) {e : TxE} (hf : E.length < 4) (hp : w'.heap[p]? = w.heap[p]?) (hm : MapI w' r (fun b : Nat => Value.pointer (some ⟨b, 0, none⟩)) ((E.map fun e => (e.s.txn, e.b)) ++ [(e.s.txn, e.b)]))
    (hc : Chg (OneB r) w w') (hb : w.heap.size ≤ e.b) (hmv : e.mv = .slice none 0 0) (hms : e.s.marks = []) (hblk : w'.heap[e.b]? = some (.cells e.cs 68 (0, 0)))
    (hfit : 1 ≤ e.s.txn ∧ e.s.txn ≤ 2147483647 ∧ 0 ≤ e.s.left ∧ e.s.left ≤ 1048576) : TabAt w' p r (E ++ [e]) := by
  have hpl := h.lt p (.inl rfl)
  have hrl := h.lt r (.inr (.inl rfl))
  have hfp : ∀ k, e.fp k → k = e.b := by
    rintro k (hk | hk)
    · exact hk
    · rw [hmv, ownB_nil] at hk; exact hk.elim
  have hget : ∀ j f, (E ++ [e])[j]? = some f → (j < E.length ∧ E[j]? = some f) ∨ (j = E.length ∧ f = e) := by
    intro j f hf
    rw [List.getElem?_append] at hf
    split at hf
    · rename_i hj; exact .inl ⟨hj, hf⟩
    · rename_i hj
      have : j - E.length = 0 := by
        have := (List.getElem?_eq_some_iff.1 hf).1
        simp at this; omega
      rw [this] at hf
      simp at hf
      exact .inr ⟨by omega, hf.symm⟩
  have hold : ∀ f ∈ E, ∀ k, f.fp k → k < w.heap.size := fun f hf k hk => h.lt k (.inr (.inr ⟨f, hf, hk⟩))
  refine ⟨hp.trans h.tab, by simpa using hm, ?_, ?_, ?_, h.pr, by simp; omega, ?_⟩
  · intro f hf
    rcases List.mem_append.1 hf with hf | hf
    · exact ⟨hc.heap (h.blk f hf).1 (fun x => (h.own f hf).2.2 (x ▸ .inl rfl)), ownsRow.chg (h.blk f hf).2 hc (fun k hk x => (h.own f hf).2.2 (x ▸ .inr hk))⟩
    · obtain rfl : f = e := by simpa using hf
      refine ⟨hblk, ?_⟩
      rw [hmv, hms]
      exact World.ownsRow_nil _ _ _ _
  · intro j1 j2 f1 f2 h1 h2 hne k hk1 hk2
    rcases hget j1 f1 h1 with ⟨n1, g1⟩ | ⟨n1, rfl⟩ <;> rcases hget j2 f2 h2 with ⟨n2, g2⟩ | ⟨n2, rfl⟩
    · exact h.sep _ _ _ _ g1 g2 hne k hk1 hk2
    · have := hold f1 (List.mem_of_getElem? g1) k hk1
      have := hfp k hk2
      omega
    · have := hold f2 (List.mem_of_getElem? g2) k hk2
      have := hfp k hk1
      omega
    · exact hne (n1.trans n2.symm)
  · intro f hf
    rcases List.mem_append.1 hf with hf | hf
    · exact h.own f hf
    · obtain rfl : f = e := by simpa using hf
      refine ⟨fun x => by rw [hmv, ownB_nil] at x; exact x.elim, fun x => ?_, fun x => ?_⟩
      · have := hfp _ x; omega
      · have := hfp _ x; omega
  · intro f hf
    rcases List.mem_append.1 hf with hf | hf
    · exact h.fit f hf
    · obtain rfl : f = e := by simpa using hf
      obtain ⟨g1, g2, g3, g4⟩ := hfit
      exact ⟨g1, g2, g3, g4, by rw [hms]; simp⟩

theorem tabFp_push {p r : Nat} {E : List TxE} {e : TxE} {w : World} (hb : w.heap.size ≤ e.b) (hmv : e.mv = .slice none 0 0) :
    ∀ k, tabFp p r (E ++ [e]) k → tabFp p r E k ∨ w.heap.size ≤ k := by
  rintro k (rfl | rfl | ⟨f, hf, hk⟩)
  · exact .inl (.inl rfl)
  · exact .inl (.inr (.inl rfl))
  · rcases List.mem_append.1 hf with hf | hf
    · exact .inl (.inr (.inr ⟨f, hf, hk⟩))
    · obtain rfl : f = e := by simpa using hf
      rcases hk with hk | hk
      · exact .inr (by omega)
      · rw [hmv, ownB_nil] at hk; exact hk.elim

/-- One is over. -/
theorem TabAt.del {w w' : World} {p r : Nat} {E : List TxE} (h : TabAt w p r E) (n : Int) (hm : MapI w' r (fun b : Nat => Value.pointer (some ⟨b, 0, none⟩)) (mdel (E.map fun e => (e.s.txn, e.b)) n)) (hc : Chg (OneB r) w w') : TabAt w' p r (E.filter (fun e => !(e.s.txn == n))) := by
  have hmem : ∀ f ∈ E.filter (fun e => !(e.s.txn == n)), f ∈ E := fun f hf => (List.mem_filter.1 hf).1
  refine ⟨hc.heap h.tab (fun x => h.pr x), ?_, ?_, ?_, fun f hf => h.own f (hmem f hf), h.pr, Nat.le_trans (List.length_filter_le _ _) h.few, fun f hf => h.fit f (hmem f hf)⟩
  · have : (E.filter (fun e => !(e.s.txn == n))).map (fun e => (e.s.txn, e.b)) = mdel (E.map fun e => (e.s.txn, e.b)) n := by
      unfold mdel; rw [List.filter_map]; rfl
    rw [this]; exact hm
  · intro f hf
    have hf := hmem f hf
    exact ⟨hc.heap (h.blk f hf).1 (fun x => (h.own f hf).2.2 (x ▸ .inl rfl)), ownsRow.chg (h.blk f hf).2 hc (fun k hk x => (h.own f hf).2.2 (x ▸ .inr hk))⟩
  · have hp : E.Pairwise (fun e f => ∀ k, e.fp k → ¬ f.fp k) := by
      rw [List.pairwise_iff_getElem]
      intro i j hi hj hij
      exact h.sep i j _ _ (List.getElem?_eq_getElem hi) (List.getElem?_eq_getElem hj) (by omega)
    have hp2 := hp.filter (fun e => !(e.s.txn == n))
    rw [List.pairwise_iff_getElem] at hp2
    intro i j e f hi hj hne k hk1 hk2
    obtain ⟨li, ei⟩ := List.getElem?_eq_some_iff.1 hi
    obtain ⟨lj, ej⟩ := List.getElem?_eq_some_iff.1 hj
    rcases Nat.lt_or_gt_of_ne hne with hlt | hlt
    · exact hp2 i j li lj hlt k (ei ▸ hk1) (ej ▸ hk2)
    · exact hp2 j i lj li hlt k (ej ▸ hk2) (ei ▸ hk1)

theorem tabFp_del {p r : Nat} {E : List TxE} {n : Int} : ∀ k, tabFp p r (E.filter (fun e => !(e.s.txn == n))) k → tabFp p r E k := by
  rintro k (rfl | rfl | ⟨f, hf, hk⟩)
  · exact .inl rfl
  · exact .inr (.inl rfl)
  · exact .inr (.inr ⟨f, (List.mem_filter.1 hf).1, hk⟩)
theorem del_tab {E : List TxE} {n : Int} : (E.filter (fun e => !(e.s.txn == n))).map (·.s) = (E.map (·.s)).filter (fun s => !(s.txn == n)) := by
  rw [List.filter_map]; rfl

/-! ### what the functions say -/
def tBegin (T : TTab) (n : Int) : Int × TTab := if n < 1 ∨ 2147483647 < n then (1, T) else if (tFind T n).isSome then (9, T) else if 4 ≤ T.length then (5, T) else (0, T ++ [⟨n, 0, 0, 0, []⟩])
def tLog (T : TTab) (n a : Int) : Int × TTab := match tFind T n with
  | none => (7, T)
  | some s => if a ≤ s.last then (1, T) else (0, tUpd T n { s with first := if s.first = 0 then a else s.first, last := a })
def tLeft (T : TTab) (n d : Int) : Int × TTab := match tFind T n with
  | none => (7, T)
  | some s => if d < -1048576 ∨ 1048576 < d ∨ s.left + d < 0 ∨ 1048576 < s.left + d then (1, T) else (0, tUpd T n { s with left := s.left + d })
def tMark (T : TTab) (n l : Int) : Int × Int × TTab := match tFind T n with
  | none => (0, 7, T)
  | some s => if l ≠ s.left then (0, 1, T) else if 4 ≤ s.marks.length then (0, 5, T) else ((s.marks.length : Int), 0, tUpd T n { s with marks := s.marks ++ [(s.last, l)] })
def tBack (T : TTab) (n k : Int) : Int × Int × Int × TTab := match tFind T n with
  | none => (0, 0, 7, T)
  | some s => if k < 0 ∨ (s.marks.length : Int) ≤ k then (0, 0, 7, T) else ((s.marks.getD k.toNat (0, 0)).1, (s.marks.getD k.toNat (0, 0)).2, 0, tUpd T n { s with marks := s.marks.take (k.toNat + 1) })
def tEnd (T : TTab) (n : Int) : Int × TTab := match tFind T n with
  | none => (7, T)
  | some s => (0, T.filter (fun s => !(s.txn == n)))
def tNeed (T : TTab) : Int := (T.map (fun s => 1 + s.left)).sum
def tRows (T : TTab) : List TxS := (T.filter (fun s => decide (0 < s.last))).mergeSort (fun a b => decide (a.txn ≤ b.txn))
end Go.Proofs.Ytmikbjlgcndmeaa
