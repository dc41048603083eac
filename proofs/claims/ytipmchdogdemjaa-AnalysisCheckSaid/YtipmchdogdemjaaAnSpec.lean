import Derived.Test.YtipmchdogdemjaaRecFn
import Derived.Test.YtipmchdogdemjaaSrt
namespace Go.Proofs.Ytipmchdogdemjaa
open Go.RowKit Go.ChangeMaps
set_option linter.unusedVariables false

/-! ### maps as lists -/
section mp
variable {ν : Type}
theorem mget_none_iff {m : List (Int × ν)} {k : Int} : mget m k = none ↔ k ∉ m.map (·.1) := by
  unfold mget
  rw [Option.map_eq_none_iff, List.find?_eq_none]
  constructor
  · intro h hk
    obtain ⟨p, hp, rfl⟩ := List.mem_map.1 hk
    simpa using h p hp
  · intro h p hp
    have : p.1 ≠ k := fun e => h (e ▸ List.mem_map.2 ⟨p, hp, rfl⟩)
    simpa using this
theorem mget_nil (k : Int) : mget ([] : List (Int × ν)) k = none := rfl
theorem mget_cons (p : Int × ν) (m : List (Int × ν)) (k : Int) : mget (p :: m) k = if p.1 = k then some p.2 else mget m k := by
  unfold mget
  rw [List.find?_cons]
  by_cases h : p.1 = k
  · simp [h]
  · have : (p.1 == k) = false := by simpa using h
    rw [this, if_neg h]
theorem mget_append_new (m : List (Int × ν)) (k : Int) (v : ν) (j : Int) (h : mget m k = none) : mget (m ++ [(k, v)]) j = if j = k then some v else mget m j := by
  induction m with
  | nil =>
    rw [List.nil_append, mget_cons, mget_nil]
    by_cases h1 : k = j
    · rw [if_pos h1, if_pos h1.symm]
    · rw [if_neg h1, if_neg (fun e => h1 e.symm)]
  | cons p m ih =>
    rw [mget_cons] at h
    split at h
    · cases h
    · rename_i hp
      rw [List.cons_append, mget_cons, ih h, mget_cons]
      by_cases h1 : p.1 = j
      · rw [if_pos h1, if_pos h1, if_neg (fun e => hp (h1.trans e))]
      · rw [if_neg h1, if_neg h1]
theorem mget_upd (m : List (Int × ν)) (k : Int) (v : ν) (j : Int) : mget (m.map (fun p => if p.1 == k then (k, v) else p)) j = if j = k then (mget m k).map (fun _ => v) else mget m j := by
  induction m with
  | nil => simp [mget_nil]
  | cons p m ih =>
    rw [List.map_cons, mget_cons, ih, mget_cons, mget_cons]
    by_cases h1 : p.1 = k
    · have h2 : (p.1 == k) = true := by simpa using h1
      rw [h2]
      simp only [if_true]
      by_cases h3 : k = j
      · rw [if_pos h3, if_pos h3.symm, if_pos h1]; rfl
      · rw [if_neg h3, if_neg (fun e => h3 e.symm), if_neg (fun e => h3 e.symm), if_neg (fun e => h3 (h1.symm.trans e))]
    · have h2 : (p.1 == k) = false := by simpa using h1
      rw [h2]
      simp only [Bool.false_eq_true, if_false]
      by_cases h3 : p.1 = j
      · rw [if_pos h3, if_pos h3, if_neg (fun e => h1 (h3.trans e))]
      · rw [if_neg h3, if_neg h3, if_neg h1]
theorem mput_cases (m : List (Int × ν)) (k : Int) (v : ν) : (mget m k = none ∧ mput m k v = m ++ [(k, v)]) ∨ ((mget m k).isSome = true ∧ mput m k v = m.map (fun p => if p.1 == k then (k, v) else p)) := by
  cases h : mget m k with
  | none =>
    left
    have hn := mget_none_iff.1 h
    have : m.any (fun p => p.1 == k) = false := by
      rw [List.any_eq_false]
      intro p hp e
      exact hn (List.mem_map.2 ⟨p, hp, by simpa using e⟩)
    exact ⟨rfl, by simp [mput, this]⟩
  | some x =>
    right
    have hn : k ∈ m.map (·.1) := by
      rcases Decidable.em (k ∈ m.map (·.1)) with h1 | h1
      · exact h1
      · rw [mget_none_iff.2 h1] at h; cases h
    have : m.any (fun p => p.1 == k) = true := by
      rw [List.any_eq_true]
      obtain ⟨p, hp, e⟩ := List.mem_map.1 hn
      exact ⟨p, hp, by simpa using e⟩
    exact ⟨rfl, by simp [mput, this]⟩
theorem mget_mput (m : List (Int × ν)) (k : Int) (v : ν) (j : Int) : mget (mput m k v) j = if j = k then some v else mget m j := by
  rcases mput_cases m k v with ⟨h1, h2⟩ | ⟨h1, h2⟩
  · rw [h2, mget_append_new _ _ _ _ h1]
  · rw [h2, mget_upd]
    obtain ⟨x, hx⟩ := Option.isSome_iff_exists.1 h1
    rw [hx]; rfl
theorem mput_keys (m : List (Int × ν)) (k : Int) (v : ν) : (mput m k v).map (·.1) = if mget m k = none then m.map (·.1) ++ [k] else m.map (·.1) := by
  rcases mput_cases m k v with ⟨h1, h2⟩ | ⟨h1, h2⟩
  · rw [h2, if_pos h1]; simp
  · rw [h2, if_neg (fun e => by rw [e] at h1; cases h1), List.map_map]
    refine List.map_congr_left fun p hp => ?_
    simp only [Function.comp_def]
    split
    · rename_i h; have h2 : p.1 = k := by simpa using h
      exact h2.symm
    · rfl
theorem mput_nodup {m : List (Int × ν)} (h : (m.map (·.1)).Nodup) (k : Int) (v : ν) : ((mput m k v).map (·.1)).Nodup := by
  rw [mput_keys]
  split
  · rename_i h1
    rw [List.nodup_append]
    exact ⟨h, by simp, fun a ha b hb e => by
      have : b = k := by simpa using hb
      exact mget_none_iff.1 h1 (this ▸ e ▸ ha)⟩
  · exact h
theorem mput_len (m : List (Int × ν)) (k : Int) (v : ν) : (mput m k v).length ≤ m.length + 1 := by
  rcases mput_cases m k v with ⟨h1, h2⟩ | ⟨h1, h2⟩ <;> rw [h2] <;> simp
theorem mget_mdel {m : List (Int × ν)} (k : Int) (j : Int) : mget (mdel m k) j = if j = k then none else mget m j := by
  induction m with
  | nil => simp [mdel, mget_nil]
  | cons p m ih =>
    unfold mdel at ih ⊢
    rw [List.filter_cons, mget_cons]
    by_cases h1 : p.1 = k
    · have h2 : (!(p.1 == k)) = false := by simpa using h1
      rw [h2]
      simp only [Bool.false_eq_true, if_false]
      rw [ih]
      by_cases h3 : j = k
      · rw [if_pos h3, if_pos h3]
      · rw [if_neg h3, if_neg h3, if_neg (fun e => h3 (e.symm.trans h1))]
    · have h2 : (!(p.1 == k)) = true := by simpa using h1
      rw [h2]
      simp only [if_true]
      rw [mget_cons, ih]
      by_cases h3 : p.1 = j
      · rw [if_pos h3, if_pos h3, if_neg (fun e => h1 (h3.trans e))]
      · rw [if_neg h3, if_neg h3]
theorem mdel_nodup {m : List (Int × ν)} (h : (m.map (·.1)).Nodup) (k : Int) : ((mdel m k).map (·.1)).Nodup :=
  List.Nodup.sublist (List.Sublist.map _ List.filter_sublist) h
theorem mdel_len (m : List (Int × ν)) (k : Int) : (mdel m k).length ≤ m.length := List.length_filter_le _ _
end mp

abbrev Row3 := Int × Int × Int
/-- What is gathered. -/
structure AT where
  T : List (Int × Row3)
  G : List (Int × Int)

def mrgT (o : Option Row3) (x : Row3) : Row3 := match o with | some o => (x.1, min o.2.1 x.2.1, max o.2.2 x.2.2) | none => x
def mrgP (o : Option Int) (r : Int) : Int := match o with | some o => min o r | none => r
def aTxn (T : List (Int × Row3)) (x : Row3) : List (Int × Row3) := mput T x.1 (mrgT (mget T x.1) x)
def aPage (G : List (Int × Int)) (x : Int × Int) : List (Int × Int) := mput G x.1 (mrgP (mget G x.1) x.2)
def aRow (T : List (Int × Row3)) (txn at_ : Int) : Row3 := (txn, (match mget T txn with | some o => o.2.1 | none => at_), at_)
/-- An entry goes by. -/
def aEnt (c : Int) (s : AT) (x : Ent) : AT :=
  if x.r.kind = 1 ∨ x.r.kind = 2 then ⟨mput s.T x.r.txn (aRow s.T x.r.txn x.at_), if (mget s.G x.r.page).isSome then s.G else mput s.G x.r.page x.at_⟩
  else if x.r.kind = 3 ∨ x.r.kind = 4 then ⟨mdel s.T x.r.txn, s.G⟩
  else if x.r.kind = 6 then (if x.r.beg = c then ⟨x.r.txns.foldl aTxn s.T, x.r.pages.foldl aPage s.G⟩ else s)
  else s
def aStep (c : Int) (s : AT) (x : Ent) : AT := if c ≤ x.at_ then aEnt c s x else s
def aFold (c : Int) (l : List Ent) : AT := l.foldl (aStep c) ⟨[], []⟩
def aRows (s : AT) : List Row3 := (sortI (s.T.map (·.1))).map (fun n => (mget s.T n).getD (0, 0, 0))
def aPages (s : AT) : List (Int × Int) := (sortI (s.G.map (·.1))).map (fun n => (n, (mget s.G n).getD 0))
def isBegin (c : Int) (x : Ent) : Bool := x.at_ == c && x.r.kind == 5
/-- The error. -/
def aErr (l : List Ent) (c : Int) : Int := if risesB l then (if c ≠ 0 ∧ l.any (isBegin c) = false then 7 else 0) else 3
/-- What Tables tells. -/
def tabsOf (l : List Ent) (c : Int) : List Row3 × List (Int × Int) × Int := if aErr l c = 0 then (aRows (aFold c l), aPages (aFold c l), 0) else ([], [], aErr l c)

/-- The keys are of one kind each. -/
structure AOk (s : AT) : Prop where
  t : (s.T.map (·.1)).Nodup
  g : (s.G.map (·.1)).Nodup
theorem AOk.nil : AOk ⟨[], []⟩ := ⟨by simp, by simp⟩
theorem aTxns_nodup (l : List Row3) : ∀ T : List (Int × Row3), (T.map (·.1)).Nodup → ((l.foldl aTxn T).map (·.1)).Nodup := by
  induction l with
  | nil => intro T h; exact h
  | cons x l ih => intro T h; exact ih _ (mput_nodup h _ _)
theorem aPages_nodup (l : List (Int × Int)) : ∀ T : List (Int × Int), (T.map (·.1)).Nodup → ((l.foldl aPage T).map (·.1)).Nodup := by
  induction l with
  | nil => intro T h; exact h
  | cons x l ih => intro T h; exact ih _ (mput_nodup h _ _)
theorem AOk.ent {s : AT} (h : AOk s) (c : Int) (x : Ent) : AOk (aEnt c s x) := by
  unfold aEnt
  split
  · refine ⟨mput_nodup h.t _ _, ?_⟩
    dsimp only
    split
    · exact h.g
    · exact mput_nodup h.g _ _
  · split
    · exact ⟨mdel_nodup h.t _, h.g⟩
    · split
      · split
        · exact ⟨aTxns_nodup _ _ h.t, aPages_nodup _ _ h.g⟩
        · exact h
      · exact h
theorem AOk.step {s : AT} (h : AOk s) (c : Int) (x : Ent) : AOk (aStep c s x) := by
  unfold aStep
  split
  · exact h.ent c x
  · exact h
theorem AOk.foldl {c : Int} (l : List Ent) : ∀ {s : AT}, AOk s → AOk (l.foldl (aStep c) s) := by
  induction l with
  | nil => intro s h; exact h
  | cons x l ih => intro s h; exact ih (h.step c x)
theorem AOk.fold (c : Int) (l : List Ent) : AOk (aFold c l) := AOk.foldl l AOk.nil

/-- Two that say the same. -/
structure ASame (s u : AT) : Prop where
  t : ∀ n, mget s.T n = mget u.T n
  g : ∀ n, mget s.G n = mget u.G n
theorem keys_same {ν : Type} {a b : List (Int × ν)} (h : ∀ n, mget a n = mget b n) (x : Int) : x ∈ a.map (·.1) ↔ x ∈ b.map (·.1) := by
  have h1 := mget_none_iff (m := a) (k := x)
  have h2 := mget_none_iff (m := b) (k := x)
  rw [h x] at h1
  constructor
  · intro h3
    exact Decidable.byContradiction fun h4 => (h1.1 (h2.2 h4)) h3
  · intro h3
    exact Decidable.byContradiction fun h4 => (h2.1 (h1.2 h4)) h3
theorem ASame.rows {s t : AT} (h : ASame s t) (hs : AOk s) (ht : AOk t) : aRows s = aRows t := by
  unfold aRows
  rw [sortI_ext hs.t ht.t (keys_same h.t)]
  congr 1
  funext n
  rw [h.t n]
theorem ASame.pages {s t : AT} (h : ASame s t) (hs : AOk s) (ht : AOk t) : aPages s = aPages t := by
  unfold aPages
  rw [sortI_ext hs.g ht.g (keys_same h.g)]
  congr 1
  funext n
  rw [h.g n]
end Go.Proofs.Ytipmchdogdemjaa
