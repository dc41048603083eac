import Derived.Test.YtobmaipjbepphaaJuOp
namespace Go.Proofs.Ytobmaipjbepphaa
open Go.RowKit Go.ChangeMaps Go.MapKept
set_option linter.unusedVariables false

theorem jFind_upd (T : List JT) (u : JT) (t : Int) : jFind (jUpd T u) t = if t = u.txn then (if (jFind T t).isSome then some u else none) else jFind T t := by
  unfold jFind jUpd
  induction T with
  | nil => simp
  | cons x T ih =>
    rw [List.map_cons]
    by_cases hx : x.txn = u.txn
    · rw [if_pos (by simp [hx])]
      by_cases ht : t = u.txn
      · rw [List.find?_cons_of_pos (by simp [ht]), List.find?_cons_of_pos (by simp [hx, ht]), if_pos ht]; rfl
      · rw [List.find?_cons_of_neg (by simp; exact fun h => ht h.symm), List.find?_cons_of_neg (by simp [hx]; exact fun h => ht h.symm), ih]
    · rw [if_neg (by simp [hx])]
      by_cases ht : x.txn = t
      · rw [List.find?_cons_of_pos (by simp [ht]), List.find?_cons_of_pos (by simp [ht]), if_neg (fun h => hx (ht.trans h))]
      · rw [List.find?_cons_of_neg (by simp [ht]), List.find?_cons_of_neg (by simp [ht]), ih]
theorem jFind_old (T : List JT) (a n t : Int) : jFind (jOld T a n) t = if t = n then some (jGet T a n) else jFind T t := by
  unfold jOld jGet
  cases h : jFind T n with
  | some u =>
    simp only [Option.isSome_some, if_true, Option.getD_some]
    by_cases ht : t = n
    · rw [if_pos ht, ht, h]
    · rw [if_neg ht]
  | none =>
    simp only [Option.isSome_none, Bool.false_eq_true, if_false, Option.getD_none]
    unfold jFind at *
    rw [List.find?_append]
    by_cases ht : t = n
    · rw [if_pos ht, ht, h]; simp
    · rw [if_neg ht]
      have : (n == t) = false := by simp; exact fun h => ht h.symm
      cases hf : T.find? (fun x => x.txn == t) <;> simp [List.find?_cons, this]
theorem jFind_del (T : List JT) (n t : Int) : jFind (jDel T n) t = if t = n then none else jFind T t := by
  unfold jFind jDel
  by_cases ht : t = n
  · rw [if_pos ht, ht, List.find?_eq_none]
    intro x hx
    have := (List.mem_filter.1 hx).2
    simpa using this
  · rw [if_neg ht]
    induction T with
    | nil => rfl
    | cons x T ih =>
      by_cases hx : x.txn = n
      · have e1 : (!(x.txn == n)) = false := by simp [hx]
        rw [List.filter_cons, e1]
        have e3 : (x.txn == t) = false := by simp [hx]; exact fun h => ht h.symm
        rw [List.find?_cons, e3]
        simpa using ih
      · have e1 : (!(x.txn == n)) = true := by simp [hx]
        rw [List.filter_cons, e1, if_pos rfl, List.find?_cons, List.find?_cons, ih]

/-! ### what becomes of a transaction -/
def isOf (x : Ent) (t : Int) : Bool := decide (1 ≤ x.r.kind) && (decide (x.r.kind ≤ 4) && (x.r.txn == t))
theorem isOf_iff {x : Ent} {t : Int} : isOf x t = true ↔ (x.r.kind = 1 ∨ x.r.kind = 2 ∨ x.r.kind = 3 ∨ x.r.kind = 4) ∧ x.r.txn = t := by
  unfold isOf; simp; constructor
  · rintro ⟨h1, h2, h3⟩; exact ⟨by omega, h3⟩
  · rintro ⟨h1, h2⟩; exact ⟨by omega, by omega, h2⟩

/-- The steps of one transaction. -/
theorem jEnt_find (s : JS) (x : Ent) (t : Int) :
    (isOf x t = false → jFind (jEnt s x).2.op t = jFind s.op t) ∧
    (isOf x t = true → x.r.kind = 1 → ∃ u, jFind (jEnt s x).2.op t = some u ∧ u.last = x.at_ ∧ u.stand = (jGet s.op x.at_ t).stand ++ [x.r]) ∧
    (isOf x t = true → x.r.kind = 2 → ∃ u, jFind (jEnt s x).2.op t = some u ∧ u.last = x.at_ ∧ u.stand = (jUndo (jGet s.op x.at_ t).stand x.r).2 ∧ ((jEnt s x).1 = true → (jUndo (jGet s.op x.at_ t).stand x.r).1 = true)) ∧
    (isOf x t = true → 3 ≤ x.r.kind → jFind (jEnt s x).2.op t = none) := by
  have hg := jGet_txn s.op x.at_ x.r.txn
  have hfo := fun t => jFind_old s.op x.at_ x.r.txn t
  by_cases hk : x.r.kind = 1 ∨ x.r.kind = 2 ∨ x.r.kind = 3 ∨ x.r.kind = 4
  · have he : (jEnt s x).2 = (jOwn { s with last := max s.last x.at_ } x.at_ x.r).2 ∧ ((jEnt s x).1 = true → (jOwn { s with last := max s.last x.at_ } x.at_ x.r).1 = true) := by
      unfold jEnt
      dsimp only
      rw [if_pos hk]
      exact ⟨rfl, fun h => by simp only [Bool.and_eq_true] at h; exact h.1⟩
    have h12 : x.r.kind = 1 → (jOwn { s with last := max s.last x.at_ } x.at_ x.r).2.op = jUpd (jOld s.op x.at_ x.r.txn) { jGet s.op x.at_ x.r.txn with last := x.at_, stand := (jGet s.op x.at_ x.r.txn).stand ++ [x.r] } := fun h => by
      unfold jOwn; dsimp only; rw [if_pos h]
    have h22 : x.r.kind = 2 → (jOwn { s with last := max s.last x.at_ } x.at_ x.r) = ((jUndo (jGet s.op x.at_ x.r.txn).stand x.r).1 && (x.r.prev == (jGet s.op x.at_ x.r.txn).last), { last := max s.last x.at_, op := jUpd (jOld s.op x.at_ x.r.txn) { jGet s.op x.at_ x.r.txn with last := x.at_, stand := (jUndo (jGet s.op x.at_ x.r.txn).stand x.r).2 }, pg := jPut s.pg x.r, beg := s.beg }) := fun h => by
      unfold jOwn; dsimp only; rw [if_neg (by omega), if_pos h]
    have h32 : 3 ≤ x.r.kind → (jOwn { s with last := max s.last x.at_ } x.at_ x.r).2.op = jDel (jOld s.op x.at_ x.r.txn) x.r.txn := fun h => by
      unfold jOwn; dsimp only; rw [if_neg (by omega), if_neg (by omega)]; split <;> rfl
    refine ⟨fun hf => ?_, fun ht h1 => ?_, fun ht h2 => ?_, fun ht h3 => ?_⟩
    · have hne : ¬ t = x.r.txn := fun h => by rw [isOf_iff.2 ⟨hk, h.symm⟩] at hf; cases hf
      rw [he.1]
      by_cases hk3 : 3 ≤ x.r.kind
      · rw [h32 hk3, jFind_del, if_neg hne, hfo, if_neg hne]
      · by_cases hk1 : x.r.kind = 1
        · rw [h12 hk1, jFind_upd, if_neg (by simpa [hg] using hne), hfo, if_neg hne]
        · rw [h22 (by omega)]
          show jFind (jUpd _ _) t = _
          rw [jFind_upd, if_neg (by simpa [hg] using hne), hfo, if_neg hne]
    · obtain rfl := (isOf_iff.1 ht).2
      refine ⟨_, by rw [he.1, h12 h1, jFind_upd, if_pos (by simp [hg]), hfo, if_pos rfl]; rfl, rfl, rfl⟩
    · obtain rfl := (isOf_iff.1 ht).2
      refine ⟨_, by rw [he.1, h22 h2]; show jFind (jUpd _ _) _ = _; rw [jFind_upd, if_pos (by simp [hg]), hfo, if_pos rfl]; rfl, rfl, rfl, fun h => ?_⟩
      have := he.2 h
      rw [h22 h2] at this
      simp only [Bool.and_eq_true] at this
      exact this.1
    · obtain rfl := (isOf_iff.1 ht).2
      rw [he.1, h32 h3, jFind_del, if_pos rfl]
  · have hno : isOf x t = false := by
      cases h : isOf x t with
      | false => rfl
      | true => exact absurd (isOf_iff.1 h).1 hk
    have he : (jEnt s x).2.op = s.op := by
      unfold jEnt
      dsimp only
      rw [if_neg hk]
      split
      · rfl
      · split <;> rfl
    refine ⟨fun _ => by rw [he], fun h => ?_, fun h => ?_, fun h => ?_⟩ <;> (rw [hno] at h; cases h)

/-! ### never more undos than changes -/
def upC (l : List Ent) (t : Int) : Nat := (l.filter (fun x => x.r.kind == 1 && x.r.txn == t)).length
def unC (l : List Ent) (t : Int) : Nat := (l.filter (fun x => x.r.kind == 2 && x.r.txn == t)).length
def stl (s : JS) (t : Int) : Nat := ((jFind s.op t).map (fun u => u.stand.length)).getD 0
theorem stl_get (s : JS) (a t : Int) : (jGet s.op a t).stand.length = stl s t := by
  unfold jGet stl
  cases jFind s.op t <;> rfl
theorem few_step (s : JS) (x : Ent) (t : Int) (h : (jEnt s x).1 = true) : stl (jEnt s x).2 t + unC [x] t ≤ stl s t + upC [x] t := by
  obtain ⟨h0, h1, h2, h3⟩ := jEnt_find s x t
  cases hi : isOf x t with
  | false =>
    have e : stl (jEnt s x).2 t = stl s t := by unfold stl; rw [h0 hi]
    have e2 : unC [x] t = 0 := by
      unfold unC
      rw [List.length_eq_zero_iff, List.filter_eq_nil_iff]
      intro y hy
      obtain rfl := List.mem_singleton.1 hy
      intro hc
      simp only [Bool.and_eq_true, beq_iff_eq] at hc
      rw [isOf_iff.2 ⟨.inr (.inl hc.1), hc.2⟩] at hi; cases hi
    omega
  | true =>
    obtain ⟨hk, htx⟩ := isOf_iff.1 hi
    have hfl : ∀ k : Int, ([x].filter (fun x => x.r.kind == k && x.r.txn == t)).length = if x.r.kind = k then 1 else 0 := by
      intro k
      rw [List.filter_cons]
      by_cases hkk : x.r.kind = k
      · simp [hkk, htx]
      · simp [hkk]
    have e1 : upC [x] t = if x.r.kind = 1 then 1 else 0 := hfl 1
    have e2 : unC [x] t = if x.r.kind = 2 then 1 else 0 := hfl 2
    rcases hk with hk | hk | hk
    · obtain ⟨u, g1, _, g2⟩ := h1 hi hk
      have : stl (jEnt s x).2 t = stl s t + 1 := by
        rw [← stl_get s x.at_ t]; unfold stl; rw [g1]; simp [g2]
      rw [e1, e2, if_pos hk, if_neg (by omega)]; omega
    · obtain ⟨u, g1, _, g2, g3⟩ := h2 hi hk
      have hu := g3 h
      have : stl (jEnt s x).2 t + 1 = stl s t := by
        rw [← stl_get s x.at_ t]; unfold stl; rw [g1]; simp only [Option.map_some, Option.getD_some, g2]
        unfold jUndo at hu ⊢
        split at hu
        · cases hu
        · rename_i c hc
          have hne : (jGet s.op x.at_ t).stand ≠ [] := fun e => by rw [e] at hc; cases hc
          have : 0 < (jGet s.op x.at_ t).stand.length := List.length_pos_iff.2 hne
          simp; omega
      rw [e1, e2, if_pos hk, if_neg (by omega)]; omega
    · have : stl (jEnt s x).2 t = 0 := by unfold stl; rw [h3 hi (by omega)]; rfl
      rw [e1, e2, if_neg (by omega), if_neg (by omega)]; omega
theorem upC_cons (x : Ent) (l : List Ent) (t : Int) : upC (x :: l) t = upC [x] t + upC l t := by
  unfold upC; rw [show x :: l = [x] ++ l from rfl, List.filter_append, List.length_append]
theorem unC_cons (x : Ent) (l : List Ent) (t : Int) : unC (x :: l) t = unC [x] t + unC l t := by
  unfold unC; rw [show x :: l = [x] ++ l from rfl, List.filter_append, List.length_append]
theorem few_run (t : Int) : ∀ (l : List Ent) (s : JS), jFaults s l = [] → stl (jRun s l) t + unC l t ≤ stl s t + upC l t
  | [], s, _ => by show stl s t + 0 ≤ stl s t + 0; omega
  | x :: l, s, h => by
    simp only [jFaults] at h
    split at h
    · rename_i hx
      have h1 := few_step s x t hx
      have h2 := few_run t l (jEnt s x).2 h
      rw [upC_cons, unC_cons]
      show stl (jRun (jEnt s x).2 l) t + _ ≤ _
      omega
    · cases h
theorem jFaults_append (a b : List Ent) : ∀ s : JS, jFaults s (a ++ b) = jFaults s a ++ jFaults (jRun s a) b := by
  induction a with
  | nil => intro s; rfl
  | cons x a ih =>
    intro s
    simp only [List.cons_append, jFaults]
    rw [ih]
    show (if _ then _ else _) = (if _ then _ else _) ++ jFaults (jRun (jEnt s x).2 a) b
    split <;> rfl
theorem few_law {l : List Ent} (h : jFaults jNew l = []) (k : Nat) (t : Int) : unC (l.take k) t ≤ upC (l.take k) t := by
  have h1 : jFaults jNew (l.take k) = [] := by
    have := jFaults_append (l.take k) (l.drop k) jNew
    rw [List.take_append_drop, h] at this
    exact (List.append_eq_nil_iff.1 this.symm).1
  have h2 := few_run t (l.take k) jNew h1
  have h3 : stl jNew t = 0 := rfl
  omega
theorem upC_snoc {l : List Ent} {x : Ent} (t : Int) : upC (l ++ [x]) t = upC l t + (if x.r.kind = 1 ∧ x.r.txn = t then 1 else 0) := by
  unfold upC
  rw [List.filter_append, List.length_append]
  congr 1
  rw [List.filter_cons]
  by_cases h1 : x.r.kind = 1 <;> by_cases h2 : x.r.txn = t <;> simp [h1, h2]
theorem unC_snoc {l : List Ent} {x : Ent} (t : Int) : unC (l ++ [x]) t = unC l t + (if x.r.kind = 2 ∧ x.r.txn = t then 1 else 0) := by
  unfold unC
  rw [List.filter_append, List.length_append]
  congr 1
  rw [List.filter_cons]
  by_cases h1 : x.r.kind = 2 <;> by_cases h2 : x.r.txn = t <;> simp [h1, h2]
theorem upC_le (l : List Ent) (t : Int) : upC l t ≤ l.length := List.length_filter_le _ _
theorem unC_le (l : List Ent) (t : Int) : unC l t ≤ l.length := List.length_filter_le _ _

/-! ### who is open -/
def loF (t : Int) (p : Nat × Bool × Nat) (x : Ent) : Nat × Bool × Nat := if isOf x t then (p.2.2, decide (3 ≤ x.r.kind), p.2.2 + 1) else (p.1, p.2.1, p.2.2 + 1)
def lo (l : List Ent) (t : Int) : Nat × Bool := ((l.foldl (loF t) (0, true, 0)).1, (l.foldl (loF t) (0, true, 0)).2.1)
theorem lo_cnt (t : Int) (l : List Ent) : (l.foldl (loF t) (0, true, 0)).2.2 = l.length := by
  have : ∀ (l : List Ent) (p : Nat × Bool × Nat), (l.foldl (loF t) p).2.2 = p.2.2 + l.length := by
    intro l
    induction l with
    | nil => intro p; rfl
    | cons x l ih => intro p; rw [List.foldl_cons, ih]; unfold loF; split <;> simp only [List.length_cons] <;> omega
  rw [this]; simp
theorem lo_snoc (l : List Ent) (x : Ent) (t : Int) : lo (l ++ [x]) t = if isOf x t then (l.length, decide (3 ≤ x.r.kind)) else lo l t := by
  unfold lo
  rw [List.foldl_append, List.foldl_cons, List.foldl_nil]
  have h := lo_cnt t l
  cases hi : isOf x t <;> simp [loF, hi, h]
theorem open_inv (t : Int) (l : List Ent) : (∀ u, jFind (jRun jNew l).op t = some u → (lo l t).2 = false ∧ ∃ x, l[(lo l t).1]? = some x ∧ x.at_ = u.last) ∧ (jFind (jRun jNew l).op t = none → (lo l t).2 = true) := by
  have key : ∀ n (l : List Ent), l.length = n → (∀ u, jFind (jRun jNew l).op t = some u → (lo l t).2 = false ∧ ∃ x, l[(lo l t).1]? = some x ∧ x.at_ = u.last) ∧ (jFind (jRun jNew l).op t = none → (lo l t).2 = true) := by
    intro n
    induction n with
    | zero =>
      intro l hl
      obtain rfl := List.eq_nil_of_length_eq_zero hl
      exact ⟨fun u hu => (by cases hu), fun _ => rfl⟩
    | succ n ih =>
      intro l hl
      rcases snoc_cases l with rfl | ⟨l, x, rfl⟩
      · simp at hl
      · have hl' : l.length = n := by simpa using hl
        obtain ⟨i1, i2⟩ := ih l hl'
        rw [jRun_snoc, lo_snoc]
        obtain ⟨h0, h1, h2, h3⟩ := jEnt_find (jRun jNew l) x t
        cases hi : isOf x t with
        | false =>
          rw [h0 hi]
          simp only [Bool.false_eq_true, if_false]
          refine ⟨fun u hu => ?_, i2⟩
          obtain ⟨g1, y, g2, g3⟩ := i1 u hu
          exact ⟨g1, y, by rw [List.getElem?_append_left (List.getElem?_eq_some_iff.1 g2).1]; exact g2, g3⟩
        | true =>
          simp only [if_true]
          have hx : (l ++ [x])[l.length]? = some x := by simp
          rcases (isOf_iff.1 hi).1 with hk | hk | hk
          · obtain ⟨v, g1, g2, _⟩ := h1 hi hk
            rw [g1]
            exact ⟨fun u hu => (by cases hu; exact ⟨by simp; omega, x, hx, g2.symm⟩), fun h => (by cases h)⟩
          · obtain ⟨v, g1, g2, _⟩ := h2 hi hk
            rw [g1]
            exact ⟨fun u hu => (by cases hu; exact ⟨by simp; omega, x, hx, g2.symm⟩), fun h => (by cases h)⟩
          · have hk3 : 3 ≤ x.r.kind := by omega
            rw [h3 hi hk3]
            exact ⟨fun u hu => (by cases hu), fun _ => (by simp; omega)⟩
  exact key _ l rfl
theorem jRows_at {s : JS} (hn : (s.op.map (·.txn)).Nodup) {i : Nat} {a b c : Int} (h : (jRows s)[i]? = some (a, b, c)) : ∃ u, jFind s.op a = some u ∧ u.last = c ∧ (∀ a' b' c', 0 < i → (jRows s)[i - 1]? = some (a', b', c') → a' < a) := by
  have row : ∀ {i : Nat} {a b c : Int}, (jRows s)[i]? = some (a, b, c) → (sortI (s.op.map (·.txn)))[i]? = some a ∧ ∃ u, jFind s.op a = some u ∧ u.last = c := by
    intro i a b c h
    unfold jRows at h
    rw [List.getElem?_map] at h
    obtain ⟨n, hn1, hr⟩ := Option.map_eq_some_iff.1 h
    have hm : n ∈ s.op.map (·.txn) := sortI_mem.1 (List.mem_of_getElem? hn1)
    obtain ⟨t, ht, rfl⟩ := List.mem_map.1 hm
    cases hf : jFind s.op t.txn with
    | none =>
      unfold jFind at hf
      have := List.find?_eq_none.1 hf t ht
      simp at this
    | some u =>
      have hu : u.txn = t.txn := by unfold jFind at hf; simpa using List.find?_some hf
      unfold jRowOf at hr
      rw [hf] at hr
      simp only [Prod.mk.injEq] at hr
      obtain ⟨r1, r2, r3⟩ := hr
      subst r1
      rw [hu]
      exact ⟨hn1, u, hf, r3⟩
  obtain ⟨h1, u, h2, h3⟩ := row h
  refine ⟨u, h2, h3, fun a' b' c' hi h' => ?_⟩
  obtain ⟨g1, _⟩ := row h'
  have hp := sortI_lt hn
  rw [List.pairwise_iff_getElem] at hp
  obtain ⟨k1, e1⟩ := List.getElem?_eq_some_iff.1 h1
  obtain ⟨k2, e2⟩ := List.getElem?_eq_some_iff.1 g1
  have := hp (i - 1) i k2 k1 (by omega)
  rw [e1, e2] at this
  exact this
end Go.Proofs.Ytobmaipjbepphaa
