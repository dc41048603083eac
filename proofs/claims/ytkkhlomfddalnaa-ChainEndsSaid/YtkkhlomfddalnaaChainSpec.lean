import Derived.Test.YtkkhlomfddalnaaRecFn
namespace Go.Proofs.Ytkkhlomfddalnaa
open Go.RowKit Go.ChangeMaps
set_option linter.unusedVariables false

/-- What stands at a place. -/
def entAt (l : List Ent) (place : Int) : Option Rec := (l.find? (fun x => x.at_ == place)).map (·.r)
/-- No record of the transaction's chain. -/
def recBad (txn place : Int) (r : Rec) : Bool := !(r.kind == 1 || r.kind == 2) || (r.txn != txn || (decide (place ≤ r.prev) || (r.kind == 2 && decide (place ≤ r.next))))
def nextOf (skips : Bool) (r : Rec) : Int := if skips && r.kind == 2 then r.next else r.prev
def cntLe (l : List Ent) (p : Int) : Nat := (l.filter (fun x => decide (x.at_ ≤ p))).length

theorem entAt_mem {l : List Ent} {p : Int} {r : Rec} (h : entAt l p = some r) : (⟨p, r⟩ : Ent) ∈ l := by
  unfold entAt at h
  obtain ⟨x, hx, rfl⟩ := Option.map_eq_some_iff.1 h
  have h1 := List.find?_some hx
  have h2 := List.mem_of_find?_eq_some hx
  simp at h1
  subst h1
  exact h2

theorem cnt_lt {l : List Ent} {p q : Int} {r : Rec} (h : entAt l p = some r) (hq : q < p) : cntLe l q < cntLe l p := by
  have hm := entAt_mem h
  unfold cntLe
  have hs : (l.filter (fun x => decide (x.at_ ≤ q))) = (l.filter (fun x => decide (x.at_ ≤ p))).filter (fun x => decide (x.at_ ≤ q)) := by
    rw [List.filter_filter]
    apply List.filter_congr
    intro x _
    rw [Bool.eq_iff_iff]
    simp
    omega
  rw [hs]
  have hmem : (⟨p, r⟩ : Ent) ∈ l.filter (fun x => decide (x.at_ ≤ p)) := List.mem_filter.2 ⟨hm, by simp⟩
  generalize l.filter (fun x => decide (x.at_ ≤ p)) = m at *
  have hle := List.length_filter_le (fun x : Ent => decide (x.at_ ≤ q)) m
  rcases Nat.lt_or_ge (m.filter (fun x => decide (x.at_ ≤ q))).length m.length with h1 | h1
  · exact h1
  · have h2 := List.length_filter_eq_length_iff.1 (Nat.le_antisymm hle h1) _ hmem
    simp at h2
    omega

theorem next_lt {txn place : Int} {skips : Bool} {r : Rec} (h : recBad txn place r = false) : nextOf skips r < place := by
  simp [recBad] at h
  unfold nextOf
  split
  · rename_i h1
    simp at h1
    have := h.2.2.2 h1.2
    omega
  · omega

/-- The records from a place on; the error. -/
def walk (l : List Ent) (txn : Int) (go : Int → Bool) (skips : Bool) (p : Int) : List (Int × Rec) × Int :=
  if go p then
    match h : entAt l p with
    | none => ([], 7)
    | some r =>
      if hb : recBad txn p r then ([], 1)
      else
        let x := walk l txn go skips (nextOf skips r)
        ((p, r) :: x.1, x.2)
  else ([], 0)
termination_by cntLe l p
decreasing_by exact cnt_lt h (next_lt (by simpa using hb))

section
variable {l : List Ent} {txn : Int} {go : Int → Bool} {skips : Bool} {p : Int}
theorem walk_stop (h : go p = false) : walk l txn go skips p = ([], 0) := by
  rw [walk]; simp [h]
theorem walk_none (h : go p = true) (h1 : entAt l p = none) : walk l txn go skips p = ([], 7) := by
  rw [walk, if_pos h]; split
  · rfl
  · rename_i h2; rw [h1] at h2; cases h2
theorem walk_bad {r : Rec} (h : go p = true) (h1 : entAt l p = some r) (hb : recBad txn p r = true) : walk l txn go skips p = ([], 1) := by
  rw [walk, if_pos h]; split
  · rename_i h2; rw [h1] at h2; cases h2
  · rename_i h2; rw [h1] at h2; cases h2; rw [dif_pos hb]
theorem walk_step {r : Rec} (h : go p = true) (h1 : entAt l p = some r) (hb : recBad txn p r = false) :
    walk l txn go skips p = ((p, r) :: (walk l txn go skips (nextOf skips r)).1, (walk l txn go skips (nextOf skips r)).2) := by
  rw [walk, if_pos h]; split
  · rename_i h2; rw [h1] at h2; cases h2
  · rename_i h2; rw [h1] at h2; cases h2; rw [dif_neg (by simp [hb])]

theorem walk_len : ∀ p, (walk l txn go skips p).1.length ≤ cntLe l p := by
  intro p
  induction hn : cntLe l p using Nat.strongRecOn generalizing p with
  | ind n ih =>
    cases hg : go p with
    | false => rw [walk_stop hg]; simp
    | true =>
      cases he : entAt l p with
      | none => rw [walk_none hg he]; simp
      | some r =>
        cases hb : recBad txn p r with
        | true => rw [walk_bad hg he hb]; simp
        | false =>
          rw [walk_step hg he hb]
          have h1 := cnt_lt he (next_lt (skips := skips) hb)
          have := ih _ (by omega) (nextOf skips r) rfl
          simp
          omega
theorem walk_len' : (walk l txn go skips p).1.length ≤ l.length := Nat.le_trans (walk_len p) (List.length_filter_le _ _)

/-- What a walk's first entry is. -/
theorem walk_cons {x : Int × Rec} {rest : List (Int × Rec)} (h : (walk l txn go skips p).1 = x :: rest) :
    go p = true ∧ x.1 = p ∧ entAt l p = some x.2 ∧ recBad txn p x.2 = false ∧ (walk l txn go skips (nextOf skips x.2)).1 = rest ∧ (walk l txn go skips (nextOf skips x.2)).2 = (walk l txn go skips p).2 := by
  cases hg : go p with
  | false => rw [walk_stop hg] at h; simp at h
  | true =>
    cases he : entAt l p with
    | none => rw [walk_none hg he] at h; simp at h
    | some r =>
      cases hb : recBad txn p r with
      | true => rw [walk_bad hg he hb] at h; simp at h
      | false =>
        rw [walk_step hg he hb] at h ⊢
        simp at h
        obtain ⟨rfl, rfl⟩ := h
        exact ⟨rfl, rfl, rfl, hb, rfl, rfl⟩
end

def goAll (p : Int) : Bool := p != 0
def goTo (stop : Int) (p : Int) : Bool := p != 0 && decide (stop < p)

/-- Where the list doesn't rise, or the walk finds an error: nothing. -/
def orErr {α : Type} (l : List Ent) (x : List (Int × Rec) × Int) (f : List (Int × Rec) → List α) : List α × Int :=
  if risesB l then if x.2 = 0 then (f x.1, 0) else ([], x.2) else ([], 3)

def chainOf (l : List Ent) (txn last : Int) : List Int × Int := orErr l (walk l txn goAll false last) (fun x => x.map (·.1))
def standOf (l : List Ent) (txn last : Int) : List Int × Int := orErr l (walk l txn goAll true last) (fun x => (x.filter (fun y => y.2.kind == 1)).map (·.1))
def undoRec (txn : Int) (r : Rec) : Rec := ⟨2, txn, r.page, r.off, 0, r.prev, 0, ⟨#[]⟩, r.before, [], []⟩
def undoOf (l : List Ent) (txn last stop : Int) : List Rec × Int := orErr l (walk l txn (goTo stop) true last) (fun x => (x.filter (fun y => y.2.kind == 1)).map (fun y => undoRec txn y.2))
end Go.Proofs.Ytkkhlomfddalnaa
