import Derived.Test.YtkkhlomfddalnaaChainLaw
import Derived.Test.YtkkhlomfddalnaaAw11
namespace Go.Proofs.Ytkkhlomfddalnaa
set_option linter.unusedVariables false

/-- What stands, from a place on; down to 0, and all the way. -/
def Good (L : List Ent) (p : Int) (S : List (Int × Rec)) : Prop :=
  ∃ xs, walk L 1 (goTo 0) true p = (xs, 0) ∧ walk L 1 goAll true p = (xs, 0) ∧ stands xs = S

theorem entAt_ext {L : List Ent} {e : Ent} {p : Int} (h : e.at_ ≠ p) : entAt (L ++ [e]) p = entAt L p := by
  unfold entAt
  rw [List.find?_append]
  have : [e].find? (fun x => x.at_ == p) = none := by simp [h]
  rw [this]
  simp
theorem entAt_new {L : List Ent} {e : Ent} (h : ∀ x ∈ L, x.at_ < e.at_) : entAt (L ++ [e]) e.at_ = some e.r := by
  unfold entAt
  rw [List.find?_append]
  have : L.find? (fun x => x.at_ == e.at_) = none := List.find?_eq_none.2 fun x hx => by have := h x hx; simp; omega
  rw [this]
  simp

theorem walk_ext {L : List Ent} {e : Ent} {go : Int → Bool} {skips : Bool} : ∀ p, p < e.at_ → walk (L ++ [e]) 1 go skips p = walk L 1 go skips p := by
  refine walk_ind (l := L) (txn := 1) (skips := skips) fun p ih => ?_
  intro hp
  have he : entAt (L ++ [e]) p = entAt L p := entAt_ext (by omega)
  cases hg : go p with
  | false => rw [walk_stop hg, walk_stop hg]
  | true =>
    cases h1 : entAt L p with
    | none => rw [walk_none hg h1, walk_none hg (he.trans h1)]
    | some r =>
      cases hb : recBad 1 p r with
      | true => rw [walk_bad hg h1 hb, walk_bad hg (he.trans h1) hb]
      | false =>
        rw [walk_step hg h1 hb, walk_step hg (he.trans h1) hb, ih r h1 hb (by have := next_lt (skips := skips) hb; omega)]

theorem Good.ext {L : List Ent} {e : Ent} {p : Int} {S : List (Int × Rec)} (h : Good L p S) (hp : p < e.at_) : Good (L ++ [e]) p S := by
  obtain ⟨xs, h1, h2, h3⟩ := h
  exact ⟨xs, by rw [walk_ext p hp, h1], by rw [walk_ext p hp, h2], h3⟩

/-- Behind the first one that stands. -/
theorem stands_first {x : List (Int × Rec)} {s : List (Int × Rec)} {y : Int × Rec} (h : stands x = y :: s) : ∃ pre post, x = pre ++ y :: post ∧ stands post = s ∧ (y.2.kind == 1) = true := by
  induction x with
  | nil => simp [stands] at h
  | cons z x ih =>
    cases hk : (z.2.kind == 1)
    · have h1 : stands (z :: x) = stands x := by simp [stands, hk]
      rw [h1] at h
      obtain ⟨pre, post, rfl, h4, h5⟩ := ih h
      exact ⟨z :: pre, post, rfl, h4, h5⟩
    · have h1 : stands (z :: x) = z :: stands x := by simp [stands, hk]
      rw [h1] at h
      cases h
      exact ⟨[], x, rfl, rfl, hk⟩

theorem walk_mem {L : List Ent} {go : Int → Bool} {skips : Bool} : ∀ p, ∀ x ∈ (walk L 1 go skips p).1, entAt L x.1 = some x.2 ∧ recBad 1 x.1 x.2 = false := by
  refine walk_ind (l := L) (txn := 1) (skips := skips) fun p ih => ?_
  intro x hx
  cases hg : go p with
  | false => rw [walk_stop hg] at hx; simp at hx
  | true =>
    cases h1 : entAt L p with
    | none => rw [walk_none hg h1] at hx; simp at hx
    | some r =>
      cases hb : recBad 1 p r with
      | true => rw [walk_bad hg h1 hb] at hx; simp at hx
      | false =>
        rw [walk_step hg h1 hb] at hx
        rcases List.mem_cons.1 hx with rfl | hx
        · exact ⟨h1, hb⟩
        · exact ih r h1 hb x hx

theorem Good.tail {L : List Ent} {p : Int} {y : Int × Rec} {S : List (Int × Rec)} (h : Good L p (y :: S)) : Good L y.2.prev S ∧ y.2.prev < y.1 ∧ (⟨y.1, y.2⟩ : Ent) ∈ L := by
  obtain ⟨xs, h1, h2, h3⟩ := h
  obtain ⟨pre, post, rfl, h4, h5⟩ := stands_first h3
  have e1 := walk_split (l := L) (txn := 1) (go := goTo 0) (skips := true) p pre y post (by rw [h1])
  have e2 := walk_split (l := L) (txn := 1) (go := goAll) (skips := true) p pre y post (by rw [h2])
  rw [nextOf_upd h5] at e1 e2
  have hm := walk_mem (L := L) (go := goAll) (skips := true) p y (by rw [h2]; simp)
  refine ⟨⟨post, Prod.ext e1.1 (by rw [e1.2, h1]), Prod.ext e2.1 (by rw [e2.2, h2]), h4⟩, ?_, entAt_mem hm.1⟩
  have := hm.2
  simp [recBad] at this
  exact this.2.2.1

/-- The list, as it is built. -/
structure PutI (L : List Ent) (last at_ : Int) (S : List (Int × Rec)) : Prop where
  lt : ∀ x ∈ L, x.at_ < at_
  rises : L.Pairwise (fun a b => a.at_ < b.at_)
  good : Good L last S
  last_lt : last < at_
  last_ge : 0 ≤ last
  at_eq : at_ = 128 + 10 * (L.length : Int)
  ok : ∀ x ∈ L, x.r.txns = [] ∧ x.r.pages = [] ∧ x.r.ok ∧ fits x.at_

theorem PutI.start : PutI [] 0 128 [] :=
  ⟨by simp, List.Pairwise.nil, ⟨[], walk_stop rfl, walk_stop rfl, rfl⟩, by decide, by decide, rfl, by simp⟩

/-- An entry more. -/
theorem PutI.push {L : List Ent} {last at_ : Int} {S S' : List (Int × Rec)} (h : PutI L last at_ S) {r : Rec} (hl : L.length ≤ 100000)
    (hn : r.txns = [] ∧ r.pages = []) (hok : r.ok) (hp : r.prev = last) (hg : Good (L ++ [⟨at_, r⟩]) at_ S') : PutI (L ++ [⟨at_, r⟩]) at_ (at_ + 10) S' := by
  have h0 := h.last_lt
  have h1 := h.last_ge
  have h2 := h.at_eq
  refine ⟨?_, ?_, hg, by omega, by omega, ?_, ?_⟩
  · intro x hx
    rcases List.mem_append.1 hx with hx | hx
    · have := h.lt x hx; omega
    · obtain rfl : x = _ := by simpa using hx
      show at_ < at_ + 10
      omega
  · rw [List.pairwise_append]
    refine ⟨h.rises, List.pairwise_singleton _ _, fun a ha b hb => ?_⟩
    obtain rfl : b = _ := by simpa using hb
    exact h.lt a ha
  · rw [List.length_append, List.length_singleton, h2]; omega
  · intro x hx
    rcases List.mem_append.1 hx with hx | hx
    · exact h.ok x hx
    · obtain rfl : x = _ := by simpa using hx
      exact ⟨hn.1, hn.2, hok, by unfold fits; show -9223372036854775808 ≤ at_ ∧ at_ < 9223372036854775808; omega⟩

theorem fits_last {L : List Ent} {last at_ : Int} {S : List (Int × Rec)} (h : PutI L last at_ S) (hl : L.length ≤ 100000) : fits last := by
  have h0 := h.last_lt
  have h1 := h.last_ge
  have h2 := h.at_eq
  unfold fits; omega

/-- An update. -/
theorem PutI.up {L : List Ent} {last at_ : Int} {S : List (Int × Rec)} (h : PutI L last at_ S) (hl : L.length ≤ 100000) : PutI (L ++ [⟨at_, upRec last⟩]) at_ (at_ + 10) ((at_, upRec last) :: S) := by
  have h0 := h.last_lt
  have h1 := h.last_ge
  have h2 := h.at_eq
  have f0 : fits 0 := by unfold fits; decide
  have f1 : fits 1 := by unfold fits; decide
  have s1 : ∀ c, (⟨#[c]⟩ : ByteArray).size ≤ maxLen := fun c => by show 1 ≤ maxLen; unfold maxLen; decide
  refine h.push hl ⟨rfl, rfl⟩ ⟨f1, f1, f0, f0, fits_last h hl, f0, f0, s1 _, s1 _⟩ rfl ?_
  obtain ⟨xs, g1, g2, g3⟩ := h.good.ext (e := ⟨at_, upRec last⟩) h0
  have he : entAt (L ++ [⟨at_, upRec last⟩]) at_ = some (upRec last) := entAt_new (e := ⟨at_, upRec last⟩) h.lt
  have hb : recBad 1 at_ (upRec last) = false := by
    simp [recBad, upRec]
    exact decide_eq_false (by omega)
  have hn : nextOf true (upRec last) = last := rfl
  refine ⟨(at_, upRec last) :: xs, ?_, ?_, ?_⟩
  · rw [walk_step (by simp [goTo]; omega) he hb, hn, g1]
  · rw [walk_step (by simp [goAll]; omega) he hb, hn, g2]
  · rw [← g3]; simp [stands, upRec]

/-- What undoes the first one that stands. -/
theorem PutI.undo {L : List Ent} {last at_ : Int} {y : Int × Rec} {S : List (Int × Rec)} (h : PutI L last at_ (y :: S)) (hl : L.length ≤ 100000) :
    PutI (L ++ [⟨at_, { undoRec 1 y.2 with prev := last }⟩]) at_ (at_ + 10) S := by
  have h0 := h.last_lt
  have h1 := h.last_ge
  have h2 := h.at_eq
  obtain ⟨t1, t2, t3⟩ := h.good.tail
  have f0 : fits 0 := by unfold fits; decide
  have f1 : fits 1 := by unfold fits; decide
  have f2 : fits 2 := by unfold fits; decide
  have s0 : (⟨#[]⟩ : ByteArray).size ≤ maxLen := Nat.zero_le _
  obtain ⟨k1, k2, k3, k4, k5, k6, k7, k8, k9⟩ := (h.ok _ t3).2.2.1
  refine h.push hl ⟨rfl, rfl⟩ ⟨f2, f1, k3, k4, fits_last h hl, k5, f0, s0, k8⟩ rfl ?_
  have hy := h.lt _ t3
  simp only at hy
  have he : entAt (L ++ [⟨at_, { undoRec 1 y.2 with prev := last }⟩]) at_ = some { undoRec 1 y.2 with prev := last } := entAt_new (e := ⟨at_, { undoRec 1 y.2 with prev := last }⟩) h.lt
  have hb : recBad 1 at_ { undoRec 1 y.2 with prev := last } = false := by
    simp [recBad, undoRec]
    exact ⟨by omega, decide_eq_false (by omega)⟩
  have hn : nextOf true { undoRec 1 y.2 with prev := last } = y.2.prev := rfl
  obtain ⟨xs, g1, g2, g3⟩ := t1.ext (e := ⟨at_, { undoRec 1 y.2 with prev := last }⟩) (by show y.2.prev < at_; omega)
  refine ⟨(at_, { undoRec 1 y.2 with prev := last }) :: xs, ?_, ?_, ?_⟩
  · rw [walk_step (by simp [goTo]; omega) he hb, hn, g1]
  · rw [walk_step (by simp [goAll]; omega) he hb, hn, g2]
  · rw [← g3]; simp [stands, undoRec]

theorem PutI.undoOf {L : List Ent} {last at_ : Int} {S : List (Int × Rec)} (h : PutI L last at_ S) : undoOf L 1 last 0 = (S.map (fun y => undoRec 1 y.2), 0) := by
  obtain ⟨xs, g1, g2, g3⟩ := h.good
  show orErr _ _ _ = _
  rw [orErr_ok (pair_rises h.rises) g1, ← g3]; rfl
theorem PutI.leftOf {L : List Ent} {last at_ : Int} (h : PutI L last at_ []) : leftOf L 1 last = (0, 0) := by
  obtain ⟨xs, g1, g2, g3⟩ := h.good
  have : standOf L 1 last = ((stands xs).map (·.1), 0) := orErr_ok (pair_rises h.rises) g2
  unfold Go.Proofs.Ytkkhlomfddalnaa.leftOf
  rw [this, g3]; rfl
end Go.Proofs.Ytkkhlomfddalnaa
