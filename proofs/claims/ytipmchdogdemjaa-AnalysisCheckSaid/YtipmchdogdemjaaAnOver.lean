import Derived.Test.YtipmchdogdemjaaAnLaw
namespace Go.Proofs.Ytipmchdogdemjaa
open Go.RowKit Go.ChangeMaps
set_option linter.unusedVariables false

/-- first, when one goes by. -/
def gF (G : List (Int × Int)) (x : Ent) : List (Int × Int) := if (mget G x.r.page).isSome = true ∨ 2 < x.r.kind then G else mput G x.r.page x.at_
def nInc (m : List (Int × Int)) (k : Int) : List (Int × Int) := mput m k ((mget m k).getD 0 + 1)

theorem gF_ent {s : AT} {x : Ent} (h : inC x.r) (c : Int) : (aEnt c s x).G = gF s.G x := by
  unfold gF
  rcases inC_cases h with hk | hk
  · rw [aEnt_upd hk]
    dsimp only
    have : ¬ 2 < x.r.kind := by omega
    simp only [this, or_false]
  · rw [aEnt_end hk]
    rw [if_pos (.inr (by omega))]

theorem nil_of_none {ν : Type} {m : List (Int × ν)} (h : ∀ n, mget m n = none) : m = [] := by
  cases m with
  | nil => rfl
  | cons p m =>
    have := h p.1
    rw [mget_cons, if_pos rfl] at this
    cases this

theorem step0_of {c : Int} {s : AT} {x : Ent} (h : c ≤ x.at_) : aStep c s x = aEnt c s x := by unfold aStep; rw [if_pos h]

/-- What the first loop has put together. -/
structure OvA (l : List Ent) (k : Nat) (A : List Ent) (at_ : Int) (G N : List (Int × Int)) : Prop where
  sub : ∀ x ∈ A, inC x.r ∧ 1 ≤ x.at_ ∧ fits x.at_ ∧ x.r.ok ∧ x.r.txns.length ≤ 50 ∧ x.r.pages.length ≤ 50
  nf : ∀ n ∈ N.map (·.1), fits n
  g : G = (aFold 0 A).G
  t : ∀ n v, mget (aFold 0 A).T n = some v → n ∈ N.map (·.1)
  n : (N.map (·.1)).Nodup
  cnt : ∀ n v, mget N n = some v → 1 ≤ v ∧ v ≤ k
  nl : N.length ≤ k ∧ G.length ≤ k ∧ A.length ≤ k
  rise : risesB A = true
  le : ∀ x ∈ A, x.at_ ≤ at_
  at0 : 0 ≤ at_ ∧ at_ ≤ 1099511627776
  lt : ∀ j (h : j < l.length), k ≤ j → 1 ≤ l[j].at_ → at_ < l[j].at_

theorem rises_snoc {A : List Ent} {x : Ent} (h : risesB A = true) (hx : ∀ y ∈ A, y.at_ < x.at_) : risesB (A ++ [x]) = true := by
  rw [risesB_iff] at h ⊢
  intro i hi
  simp at hi
  by_cases h1 : i + 1 < A.length
  · rw [List.getElem_append_left (by omega), List.getElem_append_left h1]
    exact h i h1
  · have e1 : i + 1 = A.length := by omega
    rw [List.getElem_append_left (by omega), List.getElem_append_right (by omega)]
    simp only [List.getElem_singleton]
    exact hx _ (List.getElem_mem _)

theorem OvA.start (l : List Ent) : OvA l 0 [] 0 [] [] :=
  ⟨by simp, by simp, rfl, fun n v h => (by cases h), by simp, fun n v h => (by cases h), by simp, rfl, by simp, by omega, fun j h _ h1 => by omega⟩
theorem OvA.skip {l : List Ent} {k : Nat} {A : List Ent} {at_ : Int} {G N : List (Int × Int)} (h : OvA l k A at_ G N) : OvA l (k + 1) A at_ G N :=
  ⟨h.sub, h.nf, h.g, h.t, h.n, fun n v hv => by have := h.cnt n v hv; omega, by have := h.nl; omega, h.rise, h.le, h.at0, fun j hj hk => h.lt j hj (by omega)⟩
theorem rises_lt' {l : List Ent} (h : risesB l = true) {i j : Nat} (hj : j < l.length) (hij : i < j) : (l[i]'(by omega)).at_ < l[j].at_ := by
  induction j with
  | zero => omega
  | succ j ih =>
    have h1 := risesB_iff.1 h j hj
    by_cases e : i = j
    · subst e; exact h1
    · have := ih (by omega) (by omega); omega
theorem OvA.put {l : List Ent} {k : Nat} {A : List Ent} {at_ : Int} {G N : List (Int × Int)} (h : OvA l k A at_ G N) (hl : risesB l = true) (hk : k < l.length) {x : Ent} (hx : l[k] = x) (hin : inC x.r) (h1 : 1 ≤ x.at_) (h2 : x.at_ ≤ 1099511627776) (hok : x.r.ok ∧ fits x.at_) (hw : x.r.txns.length ≤ 50 ∧ x.r.pages.length ≤ 50) :
    OvA l (k + 1) (A ++ [x]) x.at_ (gF G x) (nInc N x.r.txn) := by
  have hlt := h.lt k hk (Nat.le_refl _) (by rw [hx]; exact h1)
  rw [hx] at hlt
  have hf : aFold 0 (A ++ [x]) = aEnt 0 (aFold 0 A) x := by rw [aFold_snoc, step0_of (by omega)]
  refine ⟨?_, ?_, ?_, ?_, mput_nodup h.n _ _, ?_, ⟨?_, ?_, ?_⟩, rises_snoc h.rise (fun y hy => by have := h.le y hy; omega), ?_, by omega, ?_⟩
  · intro y hy
    rcases List.mem_append.1 hy with hy | hy
    · exact h.sub y hy
    · obtain rfl : y = x := by simpa using hy
      exact ⟨hin, h1, hok.2, hok.1, hw⟩
  · intro n hn
    unfold nInc at hn
    rw [mput_keys] at hn
    split at hn
    · rcases List.mem_append.1 hn with e | e
      · exact h.nf n e
      · have e' : n = x.r.txn := by simpa using e
        rw [e']; exact hok.1.2.1
    · exact h.nf n hn
  · rw [hf, gF_ent hin, h.g]
  · intro n v hv
    rw [hf] at hv
    have hmem : n = x.r.txn ∨ n ∈ N.map (·.1) := by
      rcases inC_cases hin with hk | hk
      · rw [aEnt_upd hk] at hv
        dsimp only at hv
        rw [mget_mput] at hv
        split at hv
        · rename_i e; exact .inl e
        · exact .inr (h.t n v hv)
      · rw [aEnt_end hk] at hv
        dsimp only at hv
        rw [mget_mdel] at hv
        split at hv
        · cases hv
        · exact .inr (h.t n v hv)
    unfold nInc
    rw [mput_keys]
    split
    · rcases hmem with e | e
      · simp [e]
      · exact List.mem_append_left _ e
    · rename_i hne
      rcases hmem with e | e
      · rw [e]
        exact Decidable.byContradiction fun h9 => hne (mget_none_iff.2 h9)
      · exact e
  · intro n v hv
    unfold nInc at hv
    rw [mget_mput] at hv
    split at hv
    · cases hv
      cases hm : mget N x.r.txn with
      | none => simp; omega
      | some y => have := h.cnt _ _ hm; simp; omega
    · have := h.cnt n v hv; omega
  · have := mput_len N x.r.txn ((mget N x.r.txn).getD 0 + 1)
    have := h.nl
    unfold nInc; omega
  · have := mput_len G x.r.page x.at_
    have := h.nl
    unfold gF; split <;> omega
  · have := h.nl; simp; omega
  · intro y hy
    rcases List.mem_append.1 hy with hy | hy
    · have := h.le y hy; omega
    · obtain rfl : y = x := by simpa using hy
      omega
  · intro j hj hkj hge
    have := rises_lt' hl hj (i := k) (by omega)
    rw [hx] at this
    exact this

def rEnd (n : Int) : Rec := ⟨4, n, 0, 0, 0, 0, 0, ⟨#[]⟩, ⟨#[]⟩, [], []⟩
/-- .. the second one. -/
structure OvB (A : List Ent) (N : List (Int × Int)) (todo : List (Int × Int)) (B : List Ent) (at_ : Int) : Prop where
  g : (aFold 0 B).G = (aFold 0 A).G
  t : ∀ n v, mget (aFold 0 B).T n = some v → n ∈ todo.map (·.1)
  rise : risesB B = true
  le : ∀ x ∈ B, x.at_ ≤ at_
  at0 : 0 ≤ at_ ∧ at_ + todo.length ≤ 1099511627776 + N.length
  len : B.length + todo.length ≤ A.length + N.length
  w : ∀ x ∈ B, x.r.txns.length ≤ 50 ∧ x.r.pages.length ≤ 50

theorem OvB.start {l : List Ent} {k : Nat} {A : List Ent} {at_ : Int} {G N : List (Int × Int)} (h : OvA l k A at_ G N) : OvB A N N A at_ :=
  ⟨rfl, h.t, h.rise, h.le, by have := h.at0; omega, by omega, fun x hx => (h.sub x hx).2.2.2.2⟩
theorem OvB.put {A : List Ent} {N todo todo' : List (Int × Int)} {B : List Ent} {at_ : Int} (h : OvB A N todo B at_) {n v : Int} (hp : todo.Perm ((n, v) :: todo')) : OvB A N todo' (B ++ [⟨at_ + 1, rEnd n⟩]) (at_ + 1) := by
  have hl := hp.length_eq
  simp at hl
  have hf : aFold 0 (B ++ [⟨at_ + 1, rEnd n⟩]) = ⟨mdel (aFold 0 B).T n, (aFold 0 B).G⟩ := by
    rw [aFold_snoc, step0_of (by have := h.at0; dsimp only; omega), aEnt_end (.inr rfl)]; rfl
  refine ⟨by rw [hf]; exact h.g, ?_, rises_snoc h.rise (fun y hy => by have := h.le y hy; dsimp only; omega), ?_, by have := h.at0; omega, by have := h.len; simp; omega, ?_⟩
  · intro m w hm
    rw [hf] at hm
    dsimp only at hm
    rw [mget_mdel] at hm
    split at hm
    · cases hm
    · rename_i hne
      have h1 := h.t m w hm
      have h2 := (hp.map (·.1)).mem_iff.1 h1
      simp only [List.map_cons, List.mem_cons] at h2
      exact h2.resolve_left hne
  · intro y hy
    rcases List.mem_append.1 hy with hy | hy
    · have := h.le y hy; omega
    · obtain rfl := List.mem_singleton.1 hy
      exact Int.le_refl _
  · intro y hy
    rcases List.mem_append.1 hy with hy | hy
    · exact h.w y hy
    · obtain rfl := List.mem_singleton.1 hy
      simp [rEnd]
theorem OvB.weight {A : List Ent} {N todo : List (Int × Int)} {B : List Ent} {at_ : Int} (h : OvB A N todo B at_) : (B.map fun x => 1 + x.r.txns.length + x.r.pages.length).sum ≤ 101 * B.length := by
  have hw := h.w
  clear h
  induction B with
  | nil => simp
  | cons x B ih =>
    have h1 := hw x (by simp)
    have h2 := ih fun y hy => hw y (by simp [hy])
    simp only [List.map_cons, List.sum_cons, List.length_cons]
    omega

/-- Behind it. -/
theorem OvB.done {A : List Ent} {N : List (Int × Int)} {B : List Ent} {at_ : Int} (h : OvB A N [] B at_) : aErr B 0 = 0 ∧ aRows (aFold 0 B) = [] := by
  refine ⟨by unfold aErr; rw [h.rise]; simp, ?_⟩
  have : (aFold 0 B).T = [] := nil_of_none fun n => by
    cases hm : mget (aFold 0 B).T n with
    | none => rfl
    | some v => have := h.t n v hm; simp at this
  unfold aRows
  rw [this]; simp [sortI]

theorem aPages_len (s : AT) : (aPages s).length = s.G.length := by unfold aPages; rw [List.length_map, sortI_len, List.length_map]
theorem aPages_get {s : AT} {i : Nat} {x : Int × Int} (h : (aPages s)[i]? = some x) : mget s.G x.1 = some x.2 := by
  unfold aPages at h
  rw [List.getElem?_map, Option.map_eq_some_iff] at h
  obtain ⟨n, hn, rfl⟩ := h
  obtain ⟨y, hy⟩ := mget_some_of (sortI_mem.1 (List.mem_of_getElem? hn))
  dsimp only
  rw [hy]; rfl
theorem aPages_lt {s : AT} (hs : AOk s) {i : Nat} {x y : Int × Int} (h : (aPages s)[i]? = some x) (h2 : (aPages s)[i + 1]? = some y) : x.1 < y.1 := by
  unfold aPages at h h2
  rw [List.getElem?_map, Option.map_eq_some_iff] at h h2
  obtain ⟨n, hn, rfl⟩ := h
  obtain ⟨m, hm, rfl⟩ := h2
  have h3 := List.pairwise_iff_getElem.1 (sortI_lt hs.g)
  obtain ⟨l1, e1⟩ := List.getElem?_eq_some_iff.1 hn
  obtain ⟨l2, e2⟩ := List.getElem?_eq_some_iff.1 hm
  have := h3 i (i + 1) l1 l2 (by omega)
  dsimp only
  omega
end Go.Proofs.Ytipmchdogdemjaa
