import Derived.Test.YtkkhlomfddalnaaRef11Undo
namespace Go.Proofs.Ytkkhlomfddalnaa
set_option linter.unusedVariables false

theorem orErr_zero {α : Type} {l : List Ent} {x : List (Int × Rec) × Int} {f : List (Int × Rec) → List α} {ys : List α} (h : orErr l x f = (ys, 0)) : risesB l = true ∧ x.2 = 0 ∧ ys = f x.1 := by
  unfold orErr at h
  split at h
  · rename_i hr
    split at h
    · rename_i h0; cases h; exact ⟨hr, h0, rfl⟩
    · rename_i h0; exact absurd (congrArg Prod.snd h) h0
  · cases h
theorem orErr_snd {α β : Type} {l : List Ent} {x : List (Int × Rec) × Int} {f : List (Int × Rec) → List α} {g : List (Int × Rec) → List β} : (orErr l x f).2 = (orErr l x g).2 := by
  unfold orErr; split
  · split <;> rfl
  · rfl
theorem orErr_nil {α : Type} {l : List Ent} {x : List (Int × Rec) × Int} {f : List (Int × Rec) → List α} (h : (orErr l x f).2 ≠ 0) : (orErr l x f).1 = [] := by
  unfold orErr at h ⊢; split
  · rename_i hr
    rw [if_pos hr] at h
    split
    · rename_i h0; rw [if_pos h0] at h; exact absurd rfl h
    · rfl
  · rfl

/-- Induction along a walk. -/
theorem walk_ind {l : List Ent} {txn : Int} {skips : Bool} {P : Int → Prop} (h : ∀ p, (∀ r, entAt l p = some r → recBad txn p r = false → P (nextOf skips r)) → P p) : ∀ p, P p := by
  intro p
  induction hn : cntLe l p using Nat.strongRecOn generalizing p with
  | ind n ih =>
    refine h p fun r he hb => ?_
    exact ih _ (by have := cnt_lt he (next_lt (skips := skips) hb); omega) _ rfl

section
variable {l : List Ent} {txn : Int}

/-- The chain falls. -/
theorem walk_falls {go : Int → Bool} {skips : Bool} : ∀ p, (∀ x ∈ (walk l txn go skips p).1, x.1 ≤ p) ∧ ((walk l txn go skips p).1.map (·.1)).Pairwise (· > ·) := by
  refine walk_ind (l := l) (txn := txn) (skips := skips) fun p ih => ?_
  cases hg : go p with
  | false => rw [walk_stop hg]; simp
  | true =>
    cases he : entAt l p with
    | none => rw [walk_none hg he]; simp
    | some r =>
      cases hb : recBad txn p r with
      | true => rw [walk_bad hg he hb]; simp
      | false =>
        rw [walk_step hg he hb]
        obtain ⟨h1, h2⟩ := ih r he hb
        have hlt := next_lt (skips := skips) hb
        refine ⟨?_, ?_⟩
        · intro x hx
          rcases List.mem_cons.1 hx with rfl | hx
          · exact Int.le_refl _
          · have := h1 x hx; omega
        · simp only [List.map_cons, List.pairwise_cons]
          refine ⟨?_, h2⟩
          intro a ha
          obtain ⟨x, hx, rfl⟩ := List.mem_map.1 ha
          have := h1 x hx
          omega

theorem chain_falls {last : Int} {i : Nat} {a b : Int} (h1 : (chainOf l txn last).1[i]? = some a) (h2 : (chainOf l txn last).1[i + 1]? = some b) : b < a := by
  have hp : (chainOf l txn last).1.Pairwise (· > ·) := by
    unfold chainOf orErr
    split
    · split
      · exact (walk_falls last).2
      · simp
    · simp
  rw [List.pairwise_iff_getElem] at hp
  obtain ⟨k1, e1⟩ := List.getElem?_eq_some_iff.1 h1
  obtain ⟨k2, e2⟩ := List.getElem?_eq_some_iff.1 h2
  have := hp i (i + 1) k1 k2 (by omega)
  omega

/-- Down to 0 is a part of all the way. -/
theorem walk_stop_le {skips : Bool} {stop : Int} : ∀ p, (walk l txn (goTo stop) skips p).2 = 0 → (walk l txn (goTo stop) skips p).1.IsPrefix (walk l txn goAll skips p).1 := by
  refine walk_ind (l := l) (txn := txn) (skips := skips) fun p ih => ?_
  intro h0
  cases hg : goTo stop p with
  | false => rw [walk_stop hg]; simp
  | true =>
    have hg2 : goAll p = true := by simp [goTo] at hg; simp [goAll, hg.1]
    cases he : entAt l p with
    | none => rw [walk_none hg he] at h0; simp at h0
    | some r =>
      cases hb : recBad txn p r with
      | true => rw [walk_bad hg he hb] at h0; simp at h0
      | false =>
        rw [walk_step hg he hb] at h0 ⊢
        rw [walk_step hg2 he hb]
        simp only at h0 ⊢
        exact (List.cons_prefix_cons.2 ⟨rfl, ih r he hb h0⟩)

theorem stands_prefix {x y : List (Int × Rec)} (h : x.IsPrefix y) : (stands x).IsPrefix (stands y) := by
  obtain ⟨z, rfl⟩ := h
  exact ⟨stands z, by simp [stands]⟩

/-- As many changes stand as there are undos of them. -/
theorem counts_plain {last stop : Int} {xs : List Int} {us : List Rec} (h1 : standOf l txn last = (xs, 0)) (h2 : undoOf l txn last stop = (us, 0)) : us.length ≤ xs.length := by
  obtain ⟨_, h3, rfl⟩ := orErr_zero h1
  obtain ⟨_, h4, rfl⟩ := orErr_zero h2
  have := (stands_prefix (walk_stop_le last h4)).length_le
  simpa [stands] using this

/-- Between two stops. -/
theorem walk_two {stop : Int} (hs : 0 ≤ stop) : ∀ p, (walk l txn (goTo 0) true p).2 = 0 →
    (walk l txn (goTo stop) true p).2 = 0 ∧ (walk l txn (goTo stop) true p).1.IsPrefix (walk l txn (goTo 0) true p).1 := by
  refine walk_ind (l := l) (txn := txn) (skips := true) fun p ih => ?_
  intro h0
  cases hg : goTo stop p with
  | false => rw [walk_stop hg]; simp
  | true =>
    have hg2 : goTo 0 p = true := by simp [goTo] at hg ⊢; exact ⟨hg.1, by omega⟩
    cases he : entAt l p with
    | none => rw [walk_none hg2 he] at h0; simp at h0
    | some r =>
      cases hb : recBad txn p r with
      | true => rw [walk_bad hg2 he hb] at h0; simp at h0
      | false =>
        rw [walk_step hg2 he hb] at h0 ⊢
        rw [walk_step hg he hb]
        simp only at h0 ⊢
        obtain ⟨h1, h2⟩ := ih r he hb h0
        exact ⟨h1, List.cons_prefix_cons.2 ⟨rfl, h2⟩⟩

/-- What is behind an entry of a walk. -/
theorem walk_split {go : Int → Bool} {skips : Bool} : ∀ p pre x post, (walk l txn go skips p).1 = pre ++ x :: post → (walk l txn go skips (nextOf skips x.2)).1 = post ∧ (walk l txn go skips (nextOf skips x.2)).2 = (walk l txn go skips p).2 := by
  intro p pre
  induction pre generalizing p with
  | nil => intro x post h; obtain ⟨_, _, _, _, h5, h6⟩ := walk_cons h; exact ⟨h5, h6⟩
  | cons y pre ih =>
    intro x post h
    obtain ⟨_, _, _, _, h5, h6⟩ := walk_cons (rest := pre ++ x :: post) h
    obtain ⟨h7, h8⟩ := ih _ x post h5
    exact ⟨h7, h8.trans h6⟩

/-- The last one that stands. -/
theorem stands_last {x : List (Int × Rec)} {s : List (Int × Rec)} {y : Int × Rec} (h : stands x = s ++ [y]) : ∃ pre post, x = pre ++ y :: post ∧ stands pre = s ∧ stands post = [] ∧ (y.2.kind == 1) = true := by
  induction x generalizing s with
  | nil => simp [stands] at h
  | cons z x ih =>
    cases hk : (z.2.kind == 1)
    · have h1 : stands (z :: x) = stands x := by simp [stands, hk]
      rw [h1] at h
      obtain ⟨pre, post, rfl, h3, h4, h5⟩ := ih h
      exact ⟨z :: pre, post, rfl, by simp only [stands, List.filter_cons, hk] at h3 ⊢; simpa using h3, h4, h5⟩
    · have h1 : stands (z :: x) = z :: stands x := by simp [stands, hk]
      rw [h1] at h
      cases s with
      | nil =>
        simp at h
        obtain ⟨rfl, h2⟩ := h
        exact ⟨[], x, rfl, rfl, h2, hk⟩
      | cons z' s =>
        simp at h
        obtain ⟨rfl, h2⟩ := h
        obtain ⟨pre, post, rfl, h3, h4, h5⟩ := ih h2
        exact ⟨z :: pre, post, rfl, by rw [← h3]; simp [stands, hk], h4, h5⟩

/-- What undoes down to a place, and what undoes from there on. -/
theorem stops_plain {last stop : Int} {all : List Rec} (hs : 0 ≤ stop) (h : undoOf l txn last 0 = (all, 0)) :
    ∃ some, undoOf l txn last stop = (some, 0) ∧ some.length ≤ all.length ∧ some = all.take some.length ∧
      ∀ s r, some = s ++ [r] → undoOf l txn r.next 0 = (all.drop some.length, 0) := by
  obtain ⟨hr, h0, rfl⟩ := orErr_zero h
  obtain ⟨h1, h2⟩ := walk_two hs last h0
  obtain ⟨z, hz⟩ := h2
  have he : undoOf l txn last stop = ((stands (walk l txn (goTo stop) true last).1).map (fun y => undoRec txn y.2), 0) := by
    unfold undoOf orErr
    rw [if_pos hr, if_pos h1]; rfl
  refine ⟨_, he, ?_, ?_, ?_⟩
  · rw [← hz]; simp [stands]
  · rw [← hz]; simp [stands]
  · intro s r hsr
    rw [← hz]
    generalize hA : (walk l txn (goTo stop) true last).1 = A at *
    rcases List.eq_nil_or_concat (stands A) with hn | ⟨s', y, hy⟩
    · rw [hn] at hsr; simp at hsr
    · rw [List.concat_eq_append] at hy
      rw [hy] at hsr
      simp only [List.map_append, List.map_cons, List.map_nil] at hsr
      have hr2 : undoRec txn y.2 = r := by
        have := List.append_inj_right' hsr rfl
        simpa using this
      obtain ⟨pre, post, rfl, h3, h4, h5⟩ := stands_last hy
      have h6 := walk_split (l := l) (txn := txn) (go := goTo 0) (skips := true) last pre y (post ++ z) (by rw [← hz]; simp)
      have h7 : r.next = nextOf true y.2 := by rw [nextOf_upd h5, ← hr2]; rfl
      unfold undoOf orErr
      rw [if_pos hr, h7, h6.2, if_pos h0, h6.1]
      congr 1
      have e1 : (post ++ z).filter (fun y => y.2.kind == 1) = z.filter (fun y => y.2.kind == 1) := by
        rw [List.filter_append]
        have : post.filter (fun y => y.2.kind == 1) = [] := h4
        rw [this, List.nil_append]
      have e2 : (pre ++ y :: post ++ z).filter (fun y => y.2.kind == 1) = stands (pre ++ y :: post) ++ z.filter (fun y => y.2.kind == 1) := by
        rw [List.filter_append]; rfl
      show List.map (fun y => undoRec txn y.2) (List.filter (fun y => y.2.kind == 1) (post ++ z)) = _
      rw [e1, e2, List.map_append, List.length_map]
      rw [List.drop_append_of_le_length (by simp)]
      rw [List.drop_of_length_le (by simp)]
      simp
end

/-- The entries of one transaction. -/
def ownOf (txn : Int) (l : List Ent) : List Ent := l.filter (fun x => x.r.txn == txn)

theorem own_entAt {l : List Ent} {txn p : Int} {r : Rec} (h : entAt l p = some r) (ht : r.txn = txn) : entAt (ownOf txn l) p = some r := by
  unfold entAt ownOf at *
  induction l with
  | nil => simp at h
  | cons x l ih =>
    cases hx : (x.at_ == p)
    · rw [List.find?_cons, hx] at h
      simp only [List.filter_cons]
      split
      · rw [List.find?_cons, hx]; exact ih h
      · exact ih h
    · rw [List.find?_cons, hx] at h
      simp at h
      subst h
      have : (x.r.txn == txn) = true := by simpa using ht
      rw [List.filter_cons, if_pos this, List.find?_cons, hx]
      rfl

theorem own_walk {l : List Ent} {txn : Int} {go : Int → Bool} {skips : Bool} : ∀ p, (walk l txn go skips p).2 = 0 → walk (ownOf txn l) txn go skips p = walk l txn go skips p := by
  refine walk_ind (l := l) (txn := txn) (skips := skips) fun p ih => ?_
  intro h0
  cases hg : go p with
  | false => rw [walk_stop hg, walk_stop hg]
  | true =>
    cases he : entAt l p with
    | none => rw [walk_none hg he] at h0; simp at h0
    | some r =>
      cases hb : recBad txn p r with
      | true => rw [walk_bad hg he hb] at h0; simp at h0
      | false =>
        rw [walk_step hg he hb] at h0 ⊢
        simp only at h0
        have ht : r.txn = txn := by simp [recBad] at hb; exact hb.2.1
        rw [walk_step hg (own_entAt he ht) hb, ih r he hb h0]

theorem rises_pair {l : List Ent} (h : risesB l = true) : l.Pairwise (fun a b => a.at_ < b.at_) := by
  induction l with
  | nil => simp
  | cons x l ih =>
    cases l with
    | nil => simp
    | cons y l =>
      simp only [risesB, Bool.and_eq_true, decide_eq_true_eq] at h
      have h2 := ih h.2
      rw [List.pairwise_cons] at h2 ⊢
      refine ⟨?_, by rw [List.pairwise_cons]; exact h2⟩
      intro z hz
      rcases List.mem_cons.1 hz with rfl | hz
      · exact h.1
      · have := h2.1 z hz; omega
theorem pair_rises {l : List Ent} (h : l.Pairwise (fun a b => a.at_ < b.at_)) : risesB l = true := by
  rw [risesB_iff]
  intro i hi
  rw [List.pairwise_iff_getElem] at h
  exact h i (i + 1) (by omega) hi (by omega)
theorem own_rises {txn : Int} {l : List Ent} (h : risesB l = true) : risesB (ownOf txn l) = true := pair_rises ((rises_pair h).filter _)

theorem other_plain {l : List Ent} {txn last stop : Int} {u : List Rec} (h : undoOf l txn last stop = (u, 0)) : undoOf (ownOf txn l) txn last stop = (u, 0) := by
  obtain ⟨hr, h0, rfl⟩ := orErr_zero h
  unfold undoOf orErr
  rw [if_pos (own_rises hr), own_walk last h0, if_pos h0]
end Go.Proofs.Ytkkhlomfddalnaa
