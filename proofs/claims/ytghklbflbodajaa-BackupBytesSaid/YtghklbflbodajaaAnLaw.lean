import Derived.Test.YtghklbflbodajaaA8
namespace Go.Proofs.Ytghklbflbodajaa
open Go.RowKit Go.ChangeMaps
set_option linter.unusedVariables false
set_option linter.unusedSimpArgs false
set_option linter.unnecessarySimpa false

def inC (r : Rec) : Prop := 1 ≤ r.kind ∧ r.kind ≤ 4

theorem aEnt_upd {c : Int} {s : AT} {x : Ent} (h : x.r.kind = 1 ∨ x.r.kind = 2) : aEnt c s x = ⟨mput s.T x.r.txn (aRow s.T x.r.txn x.at_), if (mget s.G x.r.page).isSome then s.G else mput s.G x.r.page x.at_⟩ := by
  unfold aEnt; rw [if_pos h]
theorem aEnt_end {c : Int} {s : AT} {x : Ent} (h : x.r.kind = 3 ∨ x.r.kind = 4) : aEnt c s x = ⟨mdel s.T x.r.txn, s.G⟩ := by
  unfold aEnt; rw [if_neg (by omega), if_pos h]
theorem inC_cases {r : Rec} (h : inC r) : (r.kind = 1 ∨ r.kind = 2) ∨ (r.kind = 3 ∨ r.kind = 4) := by
  unfold inC at h; omega
theorem gput (G : List (Int × Int)) (p a n : Int) : mget (if (mget G p).isSome then G else mput G p a) n = if n = p then some ((mget G p).getD a) else mget G n := by
  by_cases h : (mget G p).isSome = true
  · rw [if_pos h]
    obtain ⟨x, hx⟩ := Option.isSome_iff_exists.1 h
    split
    · rename_i e; rw [e, hx]; rfl
    · rfl
  · rw [if_neg h, mget_mput]
    have : mget G p = none := by simpa using h
    rw [this]; rfl
theorem aEnt_same {c c' : Int} {s t : AT} {x : Ent} (h : ASame s t) (hx : inC x.r) : ASame (aEnt c s x) (aEnt c' t x) := by
  rcases inC_cases hx with hk | hk
  · rw [aEnt_upd hk, aEnt_upd hk]
    refine ⟨fun n => ?_, fun n => ?_⟩
    · dsimp only
      rw [mget_mput, mget_mput, h.t n]
      unfold aRow
      rw [h.t]
    · dsimp only
      rw [gput, gput, h.g n, h.g]
  · rw [aEnt_end hk, aEnt_end hk]
    refine ⟨fun n => ?_, h.g⟩
    dsimp only
    rw [mget_mdel, mget_mdel, h.t n]

/-- All firsts and places are below a; rows stand under their numbers. -/
structure Bd (s : AT) (a : Int) : Prop where
  k : ∀ n x, mget s.T n = some x → x.1 = n ∧ x.2.1 ≤ a
  h : ∀ n x, mget s.G n = some x → x ≤ a
structure Yng (s e : AT) (a : Int) : Prop extends Bd s a where
  t : ∀ n x, mget e.T n = some x → ∃ y, mget s.T n = some y ∧ y.1 = x.1 ∧ y.2.1 ≤ x.2.1 ∧ y.2.2 = x.2.2
  g : ∀ n x, mget e.G n = some x → ∃ y, mget s.G n = some y ∧ y ≤ x

theorem Bd.nil (a : Int) : Bd ⟨[], []⟩ a := ⟨fun n x h => (by cases h), fun n x h => (by cases h)⟩
theorem Bd.mono {s : AT} {a b : Int} (h : Bd s a) (hab : a ≤ b) : Bd s b := ⟨fun n x hx => by have := h.k n x hx; omega, fun n x hx => by have := h.h n x hx; omega⟩
theorem Yng.mono {s e : AT} {a b : Int} (h : Yng s e a) (hab : a ≤ b) : Yng s e b := ⟨h.toBd.mono hab, h.t, h.g⟩
theorem Yng.nil {s : AT} {a : Int} (h : Bd s a) : Yng s ⟨[], []⟩ a := ⟨h, fun n x h => (by cases h), fun n x h => (by cases h)⟩

theorem Bd.ent {c : Int} {s : AT} {a : Int} {x : Ent} (h : Bd s a) (hx : inC x.r) (ha : a ≤ x.at_) : Bd (aEnt c s x) x.at_ := by
  rcases inC_cases hx with hk | hk
  · rw [aEnt_upd hk]
    refine ⟨fun n y hy => ?_, fun n y hy => ?_⟩
    · dsimp only at hy
      rw [mget_mput] at hy
      split at hy
      · rename_i e
        cases hy
        unfold aRow
        refine ⟨e.symm, ?_⟩
        cases hm : mget s.T x.r.txn with
        | none => exact Int.le_refl _
        | some o => have := h.k _ _ hm; dsimp only; omega
      · have := h.k _ _ hy; omega
    · dsimp only at hy
      rw [gput] at hy
      split at hy
      · cases hy
        cases hm : mget s.G x.r.page with
        | none => exact Int.le_refl _
        | some o => have := h.h _ _ hm; simp; omega
      · have := h.h _ _ hy; omega
  · rw [aEnt_end hk]
    refine ⟨fun n y hy => ?_, fun n y hy => ?_⟩
    · dsimp only at hy
      rw [mget_mdel] at hy
      split at hy
      · cases hy
      · have := h.k _ _ hy; omega
    · have := h.h _ _ hy; omega

theorem Yng.ent {c c' : Int} {s e : AT} {a : Int} {x : Ent} (h : Yng s e a) (hx : inC x.r) (ha : a ≤ x.at_) : Yng (aEnt c s x) (aEnt c' e x) x.at_ := by
  refine ⟨h.toBd.ent hx ha, ?_, ?_⟩
  · rcases inC_cases hx with hk | hk
    · rw [aEnt_upd hk, aEnt_upd hk]
      intro n y hy
      dsimp only at hy ⊢
      rw [mget_mput] at hy ⊢
      split at hy
      · rename_i e1
        rw [if_pos e1]
        cases hy
        refine ⟨_, rfl, rfl, ?_, rfl⟩
        unfold aRow
        dsimp only
        cases hm : mget e.T x.r.txn with
        | none =>
          cases hm2 : mget s.T x.r.txn with
          | none => exact Int.le_refl _
          | some o => have := h.k _ _ hm2; dsimp only; omega
        | some o =>
          obtain ⟨y, h1, h2, h3, h4⟩ := h.t _ _ hm
          rw [h1]
          exact h3
      · rename_i e1
        rw [if_neg e1]
        exact h.t _ _ hy
    · rw [aEnt_end hk, aEnt_end hk]
      intro n y hy
      dsimp only at hy ⊢
      rw [mget_mdel] at hy ⊢
      split at hy
      · cases hy
      · rename_i e1
        rw [if_neg e1]
        exact h.t _ _ hy
  · rcases inC_cases hx with hk | hk
    · rw [aEnt_upd hk, aEnt_upd hk]
      intro n y hy
      dsimp only at hy ⊢
      rw [gput] at hy ⊢
      split at hy
      · rename_i e1
        rw [if_pos e1]
        cases hy
        refine ⟨_, rfl, ?_⟩
        cases hm : mget e.G x.r.page with
        | none =>
          cases hm2 : mget s.G x.r.page with
          | none => exact Int.le_refl _
          | some o => have := h.h _ _ hm2; simp; omega
        | some o =>
          obtain ⟨y, h1, h2⟩ := h.g _ _ hm
          rw [h1]
          exact h2
      · rename_i e1
        rw [if_neg e1]
        exact h.g _ _ hy
    · rw [aEnt_end hk, aEnt_end hk]
      exact h.g

/-! ### the tables put together -/
def pickT (f : Option Row3) (o : Option Row3) : Option Row3 := match f with | none => o | some x => some (mrgT o x)
def pickP (f : Option (Int × Int)) (o : Option Int) : Option Int := match f with | none => o | some x => some (mrgP o x.2)
theorem aTxns_get : ∀ (L : List Row3) (T : List (Int × Row3)), (L.map (·.1)).Nodup → ∀ n, mget (L.foldl aTxn T) n = pickT (L.find? (fun x => x.1 == n)) (mget T n) := by
  intro L
  induction L with
  | nil => intro T _ n; rfl
  | cons x L ih =>
    intro T hn n
    simp only [List.map_cons, List.nodup_cons] at hn
    rw [List.foldl_cons, ih _ hn.2, List.find?_cons]
    have hT : mget (aTxn T x) n = if n = x.1 then some (mrgT (mget T x.1) x) else mget T n := by
      unfold aTxn; rw [mget_mput]
    by_cases h : x.1 = n
    · have hb : (x.1 == n) = true := by simpa using h
      have hf : L.find? (fun y => y.1 == n) = none := List.find?_eq_none.2 fun y hy => by
        have : y.1 ≠ n := fun e => hn.1 (by rw [h, ← e]; exact List.mem_map.2 ⟨y, hy, rfl⟩)
        simpa using this
      rw [hb, hf, hT, if_pos h.symm, h]; rfl
    · have hb : (x.1 == n) = false := by simpa using h
      rw [hb, hT, if_neg (fun e => h e.symm)]
theorem aPgs_get : ∀ (L : List (Int × Int)) (T : List (Int × Int)), (L.map (·.1)).Nodup → ∀ n, mget (L.foldl aPage T) n = pickP (L.find? (fun x => x.1 == n)) (mget T n) := by
  intro L
  induction L with
  | nil => intro T _ n; rfl
  | cons x L ih =>
    intro T hn n
    simp only [List.map_cons, List.nodup_cons] at hn
    rw [List.foldl_cons, ih _ hn.2, List.find?_cons]
    have hT : mget (aPage T x) n = if n = x.1 then some (mrgP (mget T x.1) x.2) else mget T n := by
      unfold aPage; rw [mget_mput]
    by_cases h : x.1 = n
    · have hb : (x.1 == n) = true := by simpa using h
      have hf : L.find? (fun y => y.1 == n) = none := List.find?_eq_none.2 fun y hy => by
        have : y.1 ≠ n := fun e => hn.1 (by rw [h, ← e]; exact List.mem_map.2 ⟨y, hy, rfl⟩)
        simpa using this
      rw [hb, hf, hT, if_pos h.symm, h]; rfl
    · have hb : (x.1 == n) = false := by simpa using h
      rw [hb, hT, if_neg (fun e => h e.symm)]

theorem mget_some_of {ν : Type} {m : List (Int × ν)} {n : Int} (h : n ∈ m.map (·.1)) : ∃ x, mget m n = some x := by
  cases hm : mget m n with
  | none => exact absurd h (mget_none_iff.1 hm)
  | some x => exact ⟨x, rfl⟩
theorem find_map {α : Type} (f : Int → α) (g : α → Int) (L : List Int) (hg : ∀ n ∈ L, g (f n) = n) (n : Int) : (L.map f).find? (fun x => g x == n) = if n ∈ L then some (f n) else none := by
  induction L with
  | nil => simp
  | cons y L ih =>
    have h1 := hg y (by simp)
    rw [List.map_cons, List.find?_cons, h1, ih (fun m hm => hg m (by simp [hm]))]
    by_cases h : y = n
    · subst h; simp
    · have hb : (y == n) = false := by simpa using h
      rw [hb]
      have : (n ∈ y :: L) ↔ n ∈ L := by
        rw [List.mem_cons]
        exact ⟨fun e => e.resolve_left fun e => h e.symm, .inr⟩
      simp only [this]
theorem rows_key {s : AT} {a : Int} (h : Bd s a) {n : Int} (hn : n ∈ s.T.map (·.1)) : ((mget s.T n).getD (0, 0, 0)).1 = n := by
  obtain ⟨x, hx⟩ := mget_some_of hn
  rw [hx]; exact (h.k _ _ hx).1
theorem aRows_keys {s : AT} {a : Int} (h : Bd s a) : (aRows s).map (·.1) = sortI (s.T.map (·.1)) := by
  unfold aRows
  rw [List.map_map]
  refine (List.map_congr_left fun n hn => ?_).trans (List.map_id _)
  exact rows_key h (sortI_mem.1 hn)
theorem aPages_keys (s : AT) : (aPages s).map (·.1) = sortI (s.G.map (·.1)) := by
  unfold aPages
  rw [List.map_map]
  exact (List.map_congr_left fun n hn => rfl).trans (List.map_id _)

theorem Yng.merge {s e : AT} {a : Int} (h : Yng s e a) (hs : AOk s) : ASame s ⟨(aRows s).foldl aTxn e.T, (aPages s).foldl aPage e.G⟩ := by
  refine ⟨fun n => ?_, fun n => ?_⟩
  · dsimp only
    rw [aTxns_get _ _ (by rw [aRows_keys h.toBd]; exact sortI_nodup hs.t)]
    unfold aRows
    rw [find_map (fun n => (mget s.T n).getD (0, 0, 0)) (·.1) _ (fun m hm => rows_key h.toBd (sortI_mem.1 hm))]
    by_cases hn : n ∈ sortI (s.T.map (·.1))
    · rw [if_pos hn]
      obtain ⟨x, hx⟩ := mget_some_of (sortI_mem.1 hn)
      unfold pickT mrgT
      rw [hx]
      cases hm : mget e.T n with
      | none => rfl
      | some o =>
        obtain ⟨y, h1, h2, h3, h4⟩ := h.t _ _ hm
        rw [hx] at h1
        cases h1
        dsimp only [Option.getD_some]
        congr 1
        obtain ⟨x1, x2, x3⟩ := x
        dsimp only at *
        congr 1
        congr 1
        · omega
        · omega
    · rw [if_neg hn]
      unfold pickT
      have h1 : mget s.T n = none := mget_none_iff.2 fun e => hn (sortI_mem.2 e)
      rw [h1]
      cases hm : mget e.T n with
      | none => rfl
      | some o =>
        obtain ⟨y, h2, _⟩ := h.t _ _ hm
        rw [h1] at h2; cases h2
  · dsimp only
    rw [aPgs_get _ _ (by rw [aPages_keys]; exact sortI_nodup hs.g)]
    unfold aPages
    rw [find_map (fun n => (n, (mget s.G n).getD 0)) (·.1) _ (fun m hm => rfl)]
    by_cases hn : n ∈ sortI (s.G.map (·.1))
    · rw [if_pos hn]
      obtain ⟨x, hx⟩ := mget_some_of (sortI_mem.1 hn)
      unfold pickP mrgP
      rw [hx]
      cases hm : mget e.G n with
      | none => rfl
      | some o =>
        obtain ⟨y, h1, h2⟩ := h.g _ _ hm
        rw [hx] at h1
        cases h1
        dsimp only [Option.getD_some]
        congr 1
        omega
    · rw [if_neg hn]
      unfold pickP
      have h1 : mget s.G n = none := mget_none_iff.2 fun e => hn (sortI_mem.2 e)
      rw [h1]
      cases hm : mget e.G n with
      | none => rfl
      | some o =>
        obtain ⟨y, h2, _⟩ := h.g _ _ hm
        rw [h1] at h2; cases h2

/-! ### the log that is put together -/
def pos (n : Nat) : Int := 128 + 10 * (n : Int)
def posn (L : List Rec) : List Ent := (List.range L.length).zipWith (fun i r => ⟨pos i, r⟩) L
theorem posn_snoc (L : List Rec) (r : Rec) : posn (L ++ [r]) = posn L ++ [⟨pos L.length, r⟩] := by
  unfold posn
  rw [List.length_append, List.length_singleton, List.range_succ, List.zipWith_append (by simp)]
  rfl
theorem posn_len (L : List Rec) : (posn L).length = L.length := by unfold posn; simp
theorem posn_at {L : List Rec} {i : Nat} (h : i < (posn L).length) : (posn L)[i].at_ = pos i := by
  simp [posn]
theorem posn_rises (L : List Rec) : risesB (posn L) = true := by
  rw [risesB_iff]
  intro i hi
  rw [posn_at, posn_at]
  unfold pos; omega
theorem aFold_snoc (c : Int) (l : List Ent) (x : Ent) : aFold c (l ++ [x]) = aStep c (aFold c l) x := by
  unfold aFold; rw [List.foldl_append]; rfl
def rBegin : Rec := ⟨5, 0, 0, 0, 0, 0, 0, ⟨#[]⟩, ⟨#[]⟩, [], []⟩
def rTabs (c : Int) (t : List Row3) (p : List (Int × Int)) : Rec := ⟨6, 0, 0, 0, 0, 0, c, ⟨#[]⟩, ⟨#[]⟩, t, p⟩

def Ph0 (L : List Rec) : Prop := Bd (aFold 0 (posn L)) (pos L.length)
structure HasB (L : List Rec) (c : Int) : Prop where
  le : c ≤ pos L.length
  has : (posn L).any (isBegin c) = true
  gt : 0 < c
def Ph1 (L : List Rec) (c : Int) : Prop := HasB L c ∧ Yng (aFold 0 (posn L)) (aFold c (posn L)) (pos L.length)
def Ph2 (L : List Rec) (c : Int) : Prop := HasB L c ∧ ASame (aFold 0 (posn L)) (aFold c (posn L))

theorem HasB.snoc {L : List Rec} {c : Int} (h : HasB L c) (r : Rec) : HasB (L ++ [r]) c :=
  ⟨by have := h.le; rw [List.length_append]; unfold pos at *; simp; omega, by rw [posn_snoc, List.any_append, h.has]; rfl, h.gt⟩
theorem step0 (L : List Rec) (r : Rec) : aFold 0 (posn (L ++ [r])) = aEnt 0 (aFold 0 (posn L)) ⟨pos L.length, r⟩ := by
  rw [posn_snoc, aFold_snoc]; unfold aStep; rw [if_pos (by unfold pos; dsimp only; omega)]
theorem stepc {c : Int} {L : List Rec} (h : HasB L c) (r : Rec) : aFold c (posn (L ++ [r])) = aEnt c (aFold c (posn L)) ⟨pos L.length, r⟩ := by
  rw [posn_snoc, aFold_snoc]; unfold aStep; rw [if_pos h.le]
theorem pos_mono (L : List Rec) (r : Rec) : pos L.length ≤ pos (L ++ [r]).length := by unfold pos; simp; omega

theorem Ph0.nil : Ph0 [] := Bd.nil _
theorem Ph0.own {L : List Rec} (h : Ph0 L) {r : Rec} (hr : inC r) : Ph0 (L ++ [r]) := by
  unfold Ph0 at *
  rw [step0]
  exact (h.ent (x := ⟨pos L.length, r⟩) hr (Int.le_refl _)).mono (pos_mono L r)
theorem Ph1.own {L : List Rec} {c : Int} (h : Ph1 L c) {r : Rec} (hr : inC r) : Ph1 (L ++ [r]) c := by
  refine ⟨h.1.snoc r, ?_⟩
  rw [step0, stepc h.1]
  exact (h.2.ent (x := ⟨pos L.length, r⟩) hr (Int.le_refl _)).mono (pos_mono L r)
theorem Ph2.own {L : List Rec} {c : Int} (h : Ph2 L c) {r : Rec} (hr : inC r) : Ph2 (L ++ [r]) c := by
  refine ⟨h.1.snoc r, ?_⟩
  rw [step0, stepc h.1]
  exact aEnt_same (x := ⟨pos L.length, r⟩) h.2 hr
theorem aFold_young : ∀ (l : List Ent) (c : Int), (∀ x ∈ l, x.at_ < c) → ∀ s, l.foldl (aStep c) s = s := by
  intro l
  induction l with
  | nil => intro c _ s; rfl
  | cons x l ih =>
    intro c h s
    rw [List.foldl_cons]
    have h1 := h x (by simp)
    unfold aStep at ih ⊢
    rw [if_neg (by omega)]
    exact ih c (fun y hy => h y (by simp [hy])) s
theorem posn_lt {L : List Rec} : ∀ x ∈ posn L, x.at_ < pos L.length := by
  intro x hx
  obtain ⟨i, hi, rfl⟩ := List.getElem_of_mem hx
  rw [posn_at]
  rw [posn_len] at hi
  unfold pos; omega
theorem Ph0.begin {L : List Rec} (h : Ph0 L) : Ph1 (L ++ [rBegin]) (pos L.length) := by
  have hb : HasB (L ++ [rBegin]) (pos L.length) := by
    refine ⟨pos_mono _ _, ?_, by unfold pos; omega⟩
    rw [posn_snoc, List.any_append]
    have : [(⟨pos L.length, rBegin⟩ : Ent)].any (isBegin (pos L.length)) = true := by simp [isBegin, rBegin]
    rw [this]; simp
  refine ⟨hb, ?_⟩
  have e1 : aFold 0 (posn (L ++ [rBegin])) = aFold 0 (posn L) := by rw [step0]; rfl
  have e2 : aFold (pos L.length) (posn (L ++ [rBegin])) = ⟨[], []⟩ := by
    rw [posn_snoc, aFold_snoc]
    unfold aFold
    rw [aFold_young _ _ posn_lt]
    unfold aStep
    rw [if_pos (Int.le_refl _)]
    rfl
  rw [e1, e2]
  exact (Yng.nil h).mono (pos_mono _ _)
theorem Ph1.tabs {L : List Rec} {c : Int} (h : Ph1 L c) : Ph2 (L ++ [rTabs c (aRows (aFold 0 (posn L))) (aPages (aFold 0 (posn L)))]) c := by
  refine ⟨h.1.snoc _, ?_⟩
  have hp := h.1.gt
  rw [step0, stepc h.1]
  have e1 : ∀ s, aEnt 0 s ⟨pos L.length, rTabs c (aRows (aFold 0 (posn L))) (aPages (aFold 0 (posn L)))⟩ = s := by
    intro s
    unfold aEnt rTabs
    simp
    intro h0; omega
  have e2 : ∀ s, aEnt c s ⟨pos L.length, rTabs c (aRows (aFold 0 (posn L))) (aPages (aFold 0 (posn L)))⟩ = ⟨(aRows (aFold 0 (posn L))).foldl aTxn s.T, (aPages (aFold 0 (posn L))).foldl aPage s.G⟩ := by
    intro s
    unfold aEnt rTabs
    simp
  rw [e1, e2]
  exact h.2.merge (AOk.fold _ _)
theorem tabs0 (L : List Rec) : tabsOf (posn L) 0 = (aRows (aFold 0 (posn L)), aPages (aFold 0 (posn L)), 0) := by
  have : aErr (posn L) 0 = 0 := by unfold aErr; rw [posn_rises]; simp
  unfold tabsOf
  rw [if_pos this]
theorem Ph2.out {L : List Rec} {c : Int} (h : Ph2 L c) : tabsOf (posn L) c = tabsOf (posn L) 0 := by
  have h1 : aErr (posn L) c = 0 := by unfold aErr; rw [posn_rises, h.1.has]; simp
  rw [tabs0]
  unfold tabsOf
  rw [if_pos h1, ← h.2.rows (AOk.fold _ _) (AOk.fold _ _), ← h.2.pages (AOk.fold _ _) (AOk.fold _ _)]
end Go.Proofs.Ytghklbflbodajaa
