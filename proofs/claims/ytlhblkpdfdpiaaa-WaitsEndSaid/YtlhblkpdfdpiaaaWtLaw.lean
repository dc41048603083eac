import Derived.Test.YtlhblkpdfdpiaaaBase
namespace Go.Proofs.Ytlhblkpdfdpiaaa.Wt
set_option linter.unusedVariables false
set_option linter.unusedSimpArgs false
set_option linter.unnecessarySimpa false

/-! Who waits for whom: plain. -/
abbrev Edges := List (Int × Int)

/-- A number into a rising list, once. -/
def insU : List Int → Int → List Int
  | [], x => [x]
  | y :: l, x => if y < x then y :: insU l x else if y = x then y :: l else x :: y :: l
theorem insU_mem {l : List Int} {x z : Int} : z ∈ insU l x ↔ z = x ∨ z ∈ l := by
  induction l with
  | nil => simp [insU]
  | cons y l ih =>
    unfold insU
    split
    · simp [ih]; constructor
      · rintro (h | h | h) <;> simp [h]
      · rintro (h | h | h) <;> simp [h]
    · split
      · rename_i h; subst h; simp
      · simp
theorem insU_srt {l : List Int} {x : Int} (h : l.Pairwise (· < ·)) : (insU l x).Pairwise (· < ·) := by
  induction l with
  | nil => simp [insU]
  | cons y l ih =>
    unfold insU
    rw [List.pairwise_cons] at h
    split
    · rename_i h1
      rw [List.pairwise_cons]
      refine ⟨fun z hz => ?_, ih h.2⟩
      rcases insU_mem.1 hz with rfl | hz
      · exact h1
      · exact h.1 z hz
    · split
      · rw [List.pairwise_cons]; exact h
      · rename_i h1 h2
        rw [List.pairwise_cons, List.pairwise_cons]
        refine ⟨fun z hz => ?_, h⟩
        rcases List.mem_cons.1 hz with rfl | hz
        · omega
        · have := h.1 z hz; omega
/-- A list, rising, each once. -/
def uset (l : List Int) : List Int := l.foldl insU []
theorem foldU_mem {l a : List Int} {z : Int} : z ∈ l.foldl insU a ↔ z ∈ l ∨ z ∈ a := by
  induction l generalizing a with
  | nil => simp
  | cons y l ih =>
    rw [List.foldl_cons, ih, insU_mem, List.mem_cons]
    constructor
    · rintro (h | h | h) <;> simp [h]
    · rintro ((h | h) | h) <;> simp [h]
theorem foldU_srt {l a : List Int} (h : a.Pairwise (· < ·)) : (l.foldl insU a).Pairwise (· < ·) := by
  induction l generalizing a with
  | nil => exact h
  | cons y l ih => exact ih (insU_srt h)
theorem uset_mem {l : List Int} {z : Int} : z ∈ uset l ↔ z ∈ l := by unfold uset; rw [foldU_mem]; simp
theorem uset_srt (l : List Int) : (uset l).Pairwise (· < ·) := foldU_srt List.Pairwise.nil
theorem srt_nodup {l : List Int} (h : l.Pairwise (· < ·)) : l.Nodup := h.imp fun h e => by omega
theorem perm_of_mem : ∀ {l m : List Int}, l.Nodup → m.Nodup → (∀ z, z ∈ l ↔ z ∈ m) → l.Perm m
  | [], m, _, _, h => by
    cases m with
    | nil => exact .nil
    | cons y m => have := (h y).2 (by simp); simp at this
  | x :: l, m, hl, hm, h => by
    have hx : x ∈ m := (h x).1 (by simp)
    rw [List.nodup_cons] at hl
    have h2 : l.Perm (m.erase x) := perm_of_mem hl.2 (hm.erase x) fun z => by
      rw [hm.mem_erase_iff, ← h z, List.mem_cons]
      constructor
      · intro hz; exact ⟨fun e => hl.1 (e ▸ hz), .inr hz⟩
      · rintro ⟨h1, h2 | h2⟩
        · exact absurd h2 h1
        · exact h2
    exact (h2.cons x).trans (List.perm_cons_erase hx).symm
/-- Two rising lists of the same numbers are the same. -/
theorem srt_ext {l m : List Int} (hl : l.Pairwise (· < ·)) (hm : m.Pairwise (· < ·)) (h : ∀ z, z ∈ l ↔ z ∈ m) : l = m :=
  List.Perm.eq_of_pairwise (le := fun a b : Int => a < b) (fun a b _ _ h1 h2 => by omega) hl hm (perm_of_mem (srt_nodup hl) (srt_nodup hm) h)
theorem len_of_sub {l m : List Int} (hl : l.Nodup) (h : ∀ z ∈ l, z ∈ m) : l.length ≤ m.length := by
  induction l generalizing m with
  | nil => simp
  | cons x l ih =>
    rw [List.nodup_cons] at hl
    have hx : x ∈ m := h x (by simp)
    have := ih (m := m.erase x) hl.2 fun z hz => (List.mem_erase_of_ne (fun e : z = x => hl.1 (e ▸ hz))).2 (h z (by simp [hz]))
    rw [List.length_erase_of_mem hx] at this
    have := List.length_pos_of_mem hx
    simp; omega
/-- The first that answers, in a rising list, is that of any rising list with the same answerers. -/
theorem find_srt {l m : List Int} {p q : Int → Bool} (hl : l.Pairwise (· < ·)) (hm : m.Pairwise (· < ·)) (h : ∀ z, (z ∈ l ∧ p z = true) ↔ (z ∈ m ∧ q z = true)) : l.find? p = m.find? q := by
  rw [← List.head?_filter, ← List.head?_filter]
  congr 1
  refine srt_ext (hl.filter _) (hm.filter _) fun z => ?_
  rw [List.mem_filter, List.mem_filter]
  exact h z

/-- All that edges name, rising. -/
def nm (e : Edges) : List Int := uset (e.flatMap fun p => [p.1, p.2])
theorem nm_srt (e : Edges) : (nm e).Pairwise (· < ·) := uset_srt _
theorem nm_mem {e : Edges} {z : Int} : z ∈ nm e ↔ ∃ p ∈ e, z = p.1 ∨ z = p.2 := by
  unfold nm; rw [uset_mem]; simp
theorem nm_fst {e : Edges} {a b : Int} (h : (a, b) ∈ e) : a ∈ nm e := nm_mem.2 ⟨_, h, .inl rfl⟩
theorem nm_snd {e : Edges} {a b : Int} (h : (a, b) ∈ e) : b ∈ nm e := nm_mem.2 ⟨_, h, .inr rfl⟩

/-- A way of just so many edges. -/
def wl (e : Edges) : Nat → Int → Int → Bool
  | 0, a, b => a == b
  | k + 1, a, b => e.any fun x => x.1 == a && wl e k x.2 b
theorem wl_succ {e : Edges} {k : Nat} {a b : Int} : wl e (k + 1) a b = true ↔ ∃ c, (a, c) ∈ e ∧ wl e k c b = true := by
  rw [show wl e (k + 1) a b = e.any fun x => x.1 == a && wl e k x.2 b from rfl, List.any_eq_true]
  constructor
  · rintro ⟨⟨x, y⟩, h1, h2⟩
    simp only [Bool.and_eq_true, beq_iff_eq] at h2
    exact ⟨y, h2.1 ▸ h1, h2.2⟩
  · rintro ⟨c, h1, h2⟩
    exact ⟨(a, c), h1, by simp [h2]⟩
theorem wl_add {e : Edges} {j k : Nat} {a b c : Int} (h1 : wl e j a b = true) (h2 : wl e k b c = true) : wl e (j + k) a c = true := by
  induction j generalizing a with
  | zero => simp [wl] at h1; subst h1; simpa using h2
  | succ j ih =>
    obtain ⟨d, h3, h4⟩ := wl_succ.1 h1
    rw [show j + 1 + k = (j + k) + 1 by omega]
    exact wl_succ.2 ⟨d, h3, ih h4⟩
/-- A way by its places. -/
def pth (e : Edges) : Int → List Int → Int → Prop
  | a, [], b => a = b
  | a, v :: vs, b => (a, v) ∈ e ∧ pth e v vs b
theorem pth_wl {e : Edges} {vs : List Int} {a b : Int} (h : pth e a vs b) : wl e vs.length a b = true := by
  induction vs generalizing a with
  | nil => simpa [wl, pth] using h
  | cons v vs ih => exact wl_succ.2 ⟨v, h.1, ih h.2⟩
theorem wl_pth {e : Edges} {k : Nat} {a b : Int} (h : wl e k a b = true) : ∃ vs, vs.length = k ∧ pth e a vs b := by
  induction k generalizing a with
  | zero => exact ⟨[], rfl, by simpa [wl, pth] using h⟩
  | succ k ih =>
    obtain ⟨c, h1, h2⟩ := wl_succ.1 h
    obtain ⟨vs, h3, h4⟩ := ih h2
    exact ⟨c :: vs, by simp [h3], h1, h4⟩
theorem pth_app {e : Edges} {A B : List Int} {a b x : Int} : pth e a (A ++ x :: B) b ↔ pth e a (A ++ [x]) x ∧ pth e x B b := by
  induction A generalizing a with
  | nil => simp [pth]
  | cons y A ih => simp only [List.cons_append, pth]; rw [ih]; exact and_assoc.symm
theorem pth_mem {e : Edges} {vs : List Int} {a b : Int} (h : pth e a vs b) : ∀ z ∈ vs, z ∈ nm e := by
  induction vs generalizing a with
  | nil => simp
  | cons v vs ih =>
    intro z hz
    rcases List.mem_cons.1 hz with rfl | hz
    · exact nm_snd h.1
    · exact ih h.2 z hz
theorem dup_split {vs : List Int} (h : ¬ vs.Nodup) : ∃ A x B C, vs = A ++ x :: (B ++ x :: C) := by
  induction vs with
  | nil => exact absurd List.nodup_nil h
  | cons y vs ih =>
    by_cases hy : y ∈ vs
    · obtain ⟨B, C, rfl⟩ := List.append_of_mem hy
      exact ⟨[], y, B, C, rfl⟩
    · obtain ⟨A, x, B, C, rfl⟩ := ih fun hn => h (List.nodup_cons.2 ⟨hy, hn⟩)
      exact ⟨y :: A, x, B, C, rfl⟩
theorem pth_short {e : Edges} : ∀ (n : Nat) {vs : List Int} {a b : Int}, vs.length = n → 0 < n → pth e a vs b → ∃ us, 0 < us.length ∧ us.length ≤ n ∧ us.Nodup ∧ pth e a us b := by
  intro n
  induction n using Nat.strongRecOn with
  | _ n ih =>
    intro vs a b hl h0 hp
    by_cases hn : vs.Nodup
    · exact ⟨vs, by omega, by omega, hn, hp⟩
    · obtain ⟨A, x, B, C, rfl⟩ := dup_split hn
      obtain ⟨p1, p2⟩ := pth_app.1 hp
      obtain ⟨_, p3⟩ := pth_app.1 p2
      simp at hl
      obtain ⟨us, u1, u2, u3, u4⟩ := ih (A ++ x :: C).length (by simp; omega) rfl (by simp; omega) (pth_app.2 ⟨p1, p3⟩)
      simp at u2
      exact ⟨us, u1, by omega, u3, u4⟩
/-- How many edges lead from one to another one at least; 0: none do. -/
def dst (e : Edges) (a b : Int) : Nat := (((List.range (nm e).length).map (· + 1)).find? fun k => wl e k a b).getD 0
theorem dst_cases (e : Edges) (a b : Int) : (dst e a b = 0 ∧ ∀ k, 0 < k → wl e k a b = false) ∨ (0 < dst e a b ∧ wl e (dst e a b) a b = true ∧ dst e a b ≤ (nm e).length ∧ ∀ k, 0 < k → wl e k a b = true → dst e a b ≤ k) := by
  have hb : ∀ k, 0 < k → wl e k a b = true → ∃ j, j < (nm e).length ∧ j + 1 ≤ k ∧ wl e (j + 1) a b = true := by
    intro k h0 hk
    obtain ⟨vs, h1, h2⟩ := wl_pth hk
    obtain ⟨us, u1, u2, u3, u4⟩ := pth_short k h1 h0 h2
    have h3 := len_of_sub u3 (pth_mem u4)
    refine ⟨us.length - 1, by omega, by omega, ?_⟩
    rw [show us.length - 1 + 1 = us.length by omega]
    exact pth_wl u4
  unfold dst
  cases h : ((List.range (nm e).length).map (· + 1)).find? fun k => wl e k a b with
  | none =>
    left
    refine ⟨rfl, fun k hk => ?_⟩
    cases hw : wl e k a b with
    | false => rfl
    | true =>
      obtain ⟨j, h1, h2, h3⟩ := hb k hk hw
      rw [List.find?_eq_none] at h
      exact absurd h3 (h (j + 1) (by simp; exact h1))
  | some d =>
    right
    rw [List.find?_eq_some_iff_getElem] at h
    obtain ⟨h1, i, hi, h2, h3⟩ := h
    simp at hi h2
    refine ⟨by simp; omega, h1, by simp; omega, fun k hk hw => ?_⟩
    obtain ⟨j, g1, g2, g3⟩ := hb k hk hw
    simp only [Option.getD_some]
    rcases Nat.lt_or_ge j i with hj | hj
    · have := h3 j hj
      simp at this
      rw [g3] at this
      cases this
    · omega
theorem dst_pos {e : Edges} {a b : Int} (h : 0 < dst e a b) : wl e (dst e a b) a b = true ∧ dst e a b ≤ (nm e).length := by
  rcases dst_cases e a b with ⟨h1, _⟩ | ⟨_, h1, h2, _⟩
  · omega
  · exact ⟨h1, h2⟩
theorem dst_le {e : Edges} {a b : Int} {k : Nat} (hk : 0 < k) (h : wl e k a b = true) : 0 < dst e a b ∧ dst e a b ≤ k := by
  rcases dst_cases e a b with ⟨_, h1⟩ | ⟨h0, _, _, h2⟩
  · rw [h1 k hk] at h; cases h
  · exact ⟨h0, h2 k hk h⟩
/-- What is known of it. -/
theorem dst_eq {e : Edges} {a b : Int} {d : Nat} (h0 : 0 < d) (h1 : wl e d a b = true) (h2 : ∀ k, 0 < k → wl e k a b = true → d ≤ k) : dst e a b = d := by
  obtain ⟨g1, g2⟩ := dst_le h0 h1
  have := h2 _ g1 (dst_pos g1).1
  omega
theorem dst_none {e : Edges} {a b : Int} (h : ∀ k, 0 < k → wl e k a b = false) : dst e a b = 0 := by
  rcases Nat.eq_zero_or_pos (dst e a b) with h0 | h0
  · exact h0
  · have := (dst_pos h0).1
    rw [h _ h0] at this; cases this
/-- One edge on, by the shortest way. -/
theorem dst_step {e : Edges} {a b : Int} {d : Nat} (h : dst e a b = d + 1) (hd : 0 < d) : ∃ c, (a, c) ∈ e ∧ dst e c b = d := by
  have h1 := (dst_pos (by omega : 0 < dst e a b)).1
  rw [h] at h1
  obtain ⟨c, h2, h3⟩ := wl_succ.1 h1
  refine ⟨c, h2, dst_eq hd h3 fun k hk hw => ?_⟩
  have := (dst_le (by omega) (wl_succ.2 ⟨c, h2, hw⟩)).2
  omega
theorem dst_edge {e : Edges} {a b c : Int} (h : (a, c) ∈ e) (hc : 0 < dst e c b) : 0 < dst e a b ∧ dst e a b ≤ dst e c b + 1 := dst_le (by omega) (wl_succ.2 ⟨c, h, (dst_pos hc).1⟩)
theorem dst_one {e : Edges} {a b : Int} : dst e a b = 1 ↔ (a, b) ∈ e := by
  constructor
  · intro h
    have := (dst_pos (by omega : 0 < dst e a b)).1
    rw [h] at this
    obtain ⟨c, h1, h2⟩ := wl_succ.1 this
    simp [wl] at h2
    exact h2 ▸ h1
  · intro h
    exact dst_eq (by omega) (wl_succ.2 ⟨b, h, by simp [wl]⟩) fun k hk _ => by omega

/-- The next one of a cycle. -/
def nxt (e : Edges) (i : Int) (left : Nat) (at_ : Int) : Int := ((nm e).find? fun k => e.contains (at_, k) && dst e k i == left).getD at_
def cgo (e : Edges) (i : Int) : Nat → Int → List Int
  | 0, _ => []
  | left + 1, at_ => nxt e i (left + 1) at_ :: cgo e i left (nxt e i (left + 1) at_)
/-- Who waits for one another. -/
def cyc (e : Edges) : List Int := match (nm e).find? fun n => dst e n n != 0 with
  | none => []
  | some n => n :: cgo e n (dst e n n - 1) n
theorem nxt_ok {e : Edges} {i at_ : Int} {left : Nat} (hl : 0 < left) (h : dst e at_ i = left + 1) : (at_, nxt e i left at_) ∈ e ∧ dst e (nxt e i left at_) i = left := by
  obtain ⟨c, h1, h2⟩ := dst_step h hl
  unfold nxt
  cases hf : (nm e).find? fun k => e.contains (at_, k) && dst e k i == left with
  | none =>
    rw [List.find?_eq_none] at hf
    have := hf c (nm_snd h1)
    simp [h1, h2] at this
  | some k =>
    have := List.find?_some hf
    simp at this
    simpa using this
theorem cgo_len (e : Edges) (i : Int) : ∀ left at_, (cgo e i left at_).length = left
  | 0, _ => rfl
  | left + 1, at_ => by simp [cgo, cgo_len e i left]
theorem cyc_nil {e : Edges} : cyc e = [] ↔ ∀ n, dst e n n = 0 := by
  unfold cyc
  cases h : (nm e).find? fun n => dst e n n != 0 with
  | none =>
    simp only [true_iff]
    intro n
    rcases Nat.eq_zero_or_pos (dst e n n) with h0 | h0
    · exact h0
    · obtain ⟨c, h1, _⟩ := wl_succ.1 (show wl e (dst e n n - 1 + 1) n n = true by rw [show dst e n n - 1 + 1 = dst e n n by omega]; exact (dst_pos h0).1)
      rw [List.find?_eq_none] at h
      have := h n (nm_fst h1)
      simp at this
      exact this
  | some n =>
    have := List.find?_some h
    simp at this
    simp only [reduceCtorEq, false_iff]
    intro h2
    exact this (h2 n)
/-- A list along which each waits for the next one, the last one for b. -/
def chn (e : Edges) (b : Int) : List Int → Prop
  | [] => True
  | [x] => (x, b) ∈ e
  | x :: y :: l => (x, y) ∈ e ∧ chn e b (y :: l)
theorem cgo_chn {e : Edges} {i : Int} : ∀ (left : Nat) (at_ : Int), dst e at_ i = left + 1 → chn e i (at_ :: cgo e i left at_)
  | 0, at_, h => dst_one.1 h
  | left + 1, at_, h => by
    obtain ⟨h1, h2⟩ := nxt_ok (by omega) h
    exact ⟨h1, cgo_chn left _ h2⟩
theorem cyc_chn {e : Edges} {c : Int} {cs : List Int} (h : cyc e = c :: cs) : chn e c (c :: cs) := by
  unfold cyc at h
  cases hf : (nm e).find? fun n => dst e n n != 0 with
  | none => rw [hf] at h; cases h
  | some n =>
    rw [hf] at h
    have := List.find?_some hf
    simp at this
    injection h with h1 h2
    subst h1
    rw [← h2]
    exact cgo_chn _ _ (by omega)
theorem chn_at {e : Edges} {b : Int} : ∀ {l : List Int}, chn e b l → ∀ (i : Nat) (h : i < l.length), (l[i], if h2 : i + 1 < l.length then l[i + 1] else b) ∈ e
  | [x], h, i, hi => by
    obtain rfl : i = 0 := by simpa using hi
    simpa [chn] using h
  | x :: y :: l, h, 0, hi => by simpa using h.1
  | x :: y :: l, h, i + 1, hi => by
    have := chn_at h.2 i (by simpa using hi)
    simpa using this
theorem cyc_at {e : Edges} (i : Nat) (h : i < (cyc e).length) : ((cyc e)[i], (cyc e)[(i + 1) % (cyc e).length]'(Nat.mod_lt _ (by omega))) ∈ e := by
  obtain ⟨c, cs, hc⟩ : ∃ c cs, cyc e = c :: cs := by
    cases hc : cyc e with
    | nil => rw [hc] at h; simp at h
    | cons c cs => exact ⟨c, cs, rfl⟩
  have h1 := chn_at (cyc_chn hc) i (by rw [← hc]; exact h)
  simp only [hc]
  by_cases h2 : i + 1 < (c :: cs).length
  · rw [dif_pos h2] at h1
    simp only [Nat.mod_eq_of_lt h2]
    exact h1
  · rw [dif_neg h2] at h1
    rw [hc] at h
    have h3 : i + 1 = (c :: cs).length := by omega
    simp only [h3, Nat.mod_self]
    exact h1
theorem cyc_mem {e : Edges} {n : Int} (h : n ∈ cyc e) : n ∈ nm e ∧ ∃ m, (n, m) ∈ e := by
  obtain ⟨i, hi, rfl⟩ := List.getElem_of_mem h
  have := cyc_at i hi
  exact ⟨nm_fst this, _, this⟩

/-- The greatest one. -/
def maxL (c : Int) (cs : List Int) : Int := cs.foldl max c
theorem maxL_mem (c : Int) (cs : List Int) : maxL c cs ∈ c :: cs := by
  unfold maxL
  induction cs generalizing c with
  | nil => simp
  | cons d cs ih =>
    rw [List.foldl_cons]
    have := ih (max c d)
    rcases List.mem_cons.1 this with h | h
    · rw [h]
      by_cases hc : c ≤ d
      · simp [show max c d = d by omega]
      · simp [show max c d = c by omega]
    · simp [h]
/-- Edges without a transaction. -/
def wo (e : Edges) (n : Int) : Edges := e.filter fun x => x.1 != n && x.2 != n
def vic : Nat → Edges → List Int
  | 0, _ => []
  | f + 1, e => match cyc e with
    | [] => []
    | c :: cs => maxL c cs :: vic f (wo e (maxL c cs))
/-- Who gives up. -/
def victims (e : Edges) : List Int := vic e.length e
theorem wo_lt {e : Edges} {c : Int} {cs : List Int} (h : cyc e = c :: cs) : (wo e (maxL c cs)).length < e.length := by
  obtain ⟨_, m, hm⟩ := cyc_mem (n := maxL c cs) (e := e) (by rw [h]; exact maxL_mem c cs)
  unfold wo
  have h1 := List.length_filter_le (fun x : Int × Int => x.1 != maxL c cs && x.2 != maxL c cs) e
  rcases Nat.lt_or_ge (e.filter fun x => x.1 != maxL c cs && x.2 != maxL c cs).length e.length with h2 | h2
  · exact h2
  · have h3 := List.length_filter_eq_length_iff.1 (by omega : (e.filter fun x => x.1 != maxL c cs && x.2 != maxL c cs).length = e.length) _ hm
    simp at h3
theorem vic_fuel {e : Edges} : ∀ {f g : Nat}, e.length ≤ f → e.length ≤ g → vic f e = vic g e := by
  intro f
  induction f generalizing e with
  | zero =>
    intro g h1 h2
    obtain rfl : e = [] := List.eq_nil_of_length_eq_zero (by omega)
    cases g with
    | zero => rfl
    | succ g => rfl
  | succ f ih =>
    intro g h1 h2
    cases hc : cyc e with
    | nil => cases g with
      | zero => simp [vic, hc]
      | succ g => simp [vic, hc]
    | cons c cs =>
      have hlt := wo_lt hc
      cases g with
      | zero => omega
      | succ g =>
        simp only [vic, hc]
        rw [ih (e := wo e (maxL c cs)) (g := g) (by omega) (by omega)]
theorem victims_nil {e : Edges} (h : cyc e = []) : victims e = [] := by
  unfold victims
  cases he : e.length with
  | zero => rfl
  | succ n => simp [vic, h]
theorem victims_cons {e : Edges} {c : Int} {cs : List Int} (h : cyc e = c :: cs) : victims e = maxL c cs :: victims (wo e (maxL c cs)) := by
  have hlt := wo_lt h
  unfold victims
  obtain ⟨n, hn⟩ : ∃ n, e.length = n + 1 := ⟨e.length - 1, by omega⟩
  rw [hn]
  simp only [vic, h]
  rw [vic_fuel (g := (wo e (maxL c cs)).length) (by omega) (Nat.le_refl _)]
/-- Behind those that give up nobody waits for one another. -/
theorem victims_free : ∀ (n : Nat) (e : Edges), e.length ≤ n → cyc (e.filter fun x => !(victims e).contains x.1 && !(victims e).contains x.2) = [] := by
  intro n
  induction n with
  | zero =>
    intro e h
    obtain rfl : e = [] := List.eq_nil_of_length_eq_zero (by omega)
    rfl
  | succ n ih =>
    intro e h
    cases hc : cyc e with
    | nil =>
      rw [victims_nil hc]
      have : (e.filter fun x => !([] : List Int).contains x.1 && !([] : List Int).contains x.2) = e := by rw [List.filter_eq_self]; intro x _; simp
      rw [this, hc]
    | cons c cs =>
      have hlt := wo_lt hc
      have h1 := ih (wo e (maxL c cs)) (by omega)
      rw [victims_cons hc]
      rw [← h1]
      congr 1
      unfold wo
      rw [List.filter_filter]
      refine List.filter_congr fun x _ => ?_
      simp only [List.contains_cons]
      cases h3 : x.1 == maxL c cs <;> cases h4 : x.2 == maxL c cs <;> simp [bne, h3, h4]

/-- May one go on, with those that are left? -/
def fre (e : Edges) (left : List Int) (n : Int) : Bool := !(e.any fun x => x.1 == n && left.contains x.2)
def og (e : Edges) : Nat → List Int → List Int
  | 0, _ => []
  | f + 1, left => match left.find? (fre e left) with
    | none => []
    | some n => n :: og e f (left.erase n)
/-- In which order all can go on. -/
def ord (e : Edges) : List Int := og e (nm e).length (nm e)
/-- Where nobody waits for one another, one of those that are left can go on. -/
theorem fre_some {e : Edges} (h : cyc e = []) {left : List Int} (hl : left ≠ []) : ∃ n ∈ left, fre e left n = true := by
  refine Classical.byContradiction fun hn => ?_
  have hs : ∀ n ∈ left, ∃ m ∈ left, (n, m) ∈ e := by
    intro n hm
    cases hf : fre e left n with
    | true => exact absurd ⟨n, hm, hf⟩ hn
    | false =>
      unfold fre at hf
      rw [Bool.not_eq_false', List.any_eq_true] at hf
      obtain ⟨⟨x, y⟩, h1, h2⟩ := hf
      simp only [Bool.and_eq_true, beq_iff_eq, List.contains_iff_mem] at h2
      obtain ⟨rfl, h2⟩ := h2
      exact ⟨y, h2, h1⟩
  -- ways of any length within what is left
  have hw : ∀ k, ∀ n ∈ left, ∃ vs, vs.length = k ∧ (∀ z ∈ vs, z ∈ left) ∧ ∃ b, pth e n vs b := by
    intro k
    induction k with
    | zero => intro n _; exact ⟨[], rfl, by simp, n, rfl⟩
    | succ k ih =>
      intro n hm
      obtain ⟨m, h1, h2⟩ := hs n hm
      obtain ⟨vs, h3, h4, b, h5⟩ := ih m h1
      exact ⟨m :: vs, by simp [h3], fun z hz => by
        rcases List.mem_cons.1 hz with rfl | hz
        · exact h1
        · exact h4 z hz, b, h2, h5⟩
  obtain ⟨n, hm⟩ := List.exists_mem_of_ne_nil left hl
  obtain ⟨vs, h1, h2, b, h3⟩ := hw (left.length + 1) n hm
  by_cases hd : vs.Nodup
  · have := len_of_sub hd h2; omega
  · obtain ⟨A, x, B, C, rfl⟩ := dup_split hd
    obtain ⟨_, p2⟩ := pth_app.1 h3
    obtain ⟨p3, _⟩ := pth_app.1 p2
    have := (dst_le (by simp) (pth_wl p3)).1
    have := cyc_nil.1 h x
    omega
/-- The order: all of them, each behind all that it waits for. -/
theorem og_ok {e : Edges} (h : cyc e = []) : ∀ (f : Nat) (left : List Int), left.Nodup → left.length = f → (og e f left).Perm left ∧ ∀ i (hi : i < (og e f left).length), ∀ b, ((og e f left)[i], b) ∈ e → b ∈ left → b ∈ (og e f left).take i := by
  intro f
  induction f with
  | zero =>
    intro left _ hl
    obtain rfl : left = [] := List.eq_nil_of_length_eq_zero hl
    exact ⟨.nil, fun i hi => by simp [og] at hi⟩
  | succ f ih =>
    intro left hn hl
    obtain ⟨n0, hn1, hn2⟩ := fre_some h (left := left) (by intro e; simp [e] at hl)
    cases hf : left.find? (fre e left) with
    | none =>
      rw [List.find?_eq_none] at hf
      exact absurd hn2 (hf n0 hn1)
    | some n =>
      have hm := List.mem_of_find?_eq_some hf
      have hfr := List.find?_some hf
      have e1 : og e (f + 1) left = n :: og e f (left.erase n) := by simp [og, hf]
      obtain ⟨h1, h2⟩ := ih (left.erase n) (hn.erase n) (by rw [List.length_erase_of_mem hm]; omega)
      rw [e1]
      refine ⟨(h1.cons n).trans (List.perm_cons_erase hm).symm, fun i hi b hb hbl => ?_⟩
      cases i with
      | zero =>
        exfalso
        unfold fre at hfr
        rw [Bool.not_eq_true', List.any_eq_false] at hfr
        have h9 := hfr _ hb
        simp [hbl] at h9
      | succ i =>
        simp at hi hb
        rw [List.take_succ_cons, List.mem_cons]
        by_cases hbn : b = n
        · exact .inl hbn
        · right
          exact h2 i hi b hb ((List.mem_erase_of_ne hbn).2 hbl)
theorem ord_perm {e : Edges} (h : cyc e = []) : (ord e).Perm (nm e) := (og_ok h _ _ (srt_nodup (nm_srt e)) rfl).1
theorem ord_behind {e : Edges} (h : cyc e = []) (i : Nat) (hi : i < (ord e).length) (b : Int) (hb : ((ord e)[i], b) ∈ e) : b ∈ (ord e).take i := (og_ok h _ _ (srt_nodup (nm_srt e)) rfl).2 i hi b hb (nm_snd hb)

/-- Fewer edges, no more cycles; one back makes one. -/
theorem wl_sub {e e' : Edges} (h : ∀ x ∈ e', x ∈ e) : ∀ {k : Nat} {a b : Int}, wl e' k a b = true → wl e k a b = true
  | 0, a, b, hw => hw
  | k + 1, a, b, hw => by
    obtain ⟨c, h1, h2⟩ := wl_succ.1 hw
    exact wl_succ.2 ⟨c, h _ h1, wl_sub h h2⟩
theorem cyc_sub {e e' : Edges} (h : ∀ x ∈ e', x ∈ e) (hc : cyc e = []) : cyc e' = [] := by
  rw [cyc_nil] at hc ⊢
  intro n
  refine dst_none fun k hk => ?_
  cases hw : wl e' k n n with
  | false => rfl
  | true =>
    have := (dst_le hk (wl_sub h hw)).1
    have := hc n
    omega
theorem cyc_back {e : Edges} {a b : Int} (h : (a, b) ∈ e) : cyc ((b, a) :: e) ≠ [] := by
  intro hc
  have := cyc_nil.1 hc a
  have h1 : wl ((b, a) :: e) 2 a a = true := wl_succ.2 ⟨b, by simp [h], wl_succ.2 ⟨a, by simp, by simp [wl]⟩⟩
  have := (dst_le (by omega) h1).1
  omega
end Go.Proofs.Ytlhblkpdfdpiaaa.Wt
