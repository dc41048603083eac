import Derived.Test.YtlhblkpdfdpiaaaWtLaw
namespace Go.Proofs.Ytlhblkpdfdpiaaa.Wt
set_option linter.unusedVariables false
set_option linter.unusedSimpArgs false
set_option linter.unnecessarySimpa false

/-! Ways through some places alone; the table of all shortest ways. -/
/-- A way of just so many edges, with nothing but places of S between. -/
def wlS (e : Edges) (S : Int → Prop) : Nat → Int → Int → Prop
  | 0, _, _ => False
  | k + 1, a, b => (k = 0 ∧ (a, b) ∈ e) ∨ ∃ c, (a, c) ∈ e ∧ S c ∧ wlS e S k c b
theorem wlS_wl {e : Edges} {S : Int → Prop} : ∀ {k : Nat} {a b : Int}, wlS e S k a b → 0 < k ∧ wl e k a b = true
  | 0, _, _, h => h.elim
  | k + 1, a, b, h => by
    rcases h with ⟨rfl, h⟩ | ⟨c, h1, _, h2⟩
    · exact ⟨by omega, wl_succ.2 ⟨b, h, by simp [wl]⟩⟩
    · exact ⟨by omega, wl_succ.2 ⟨c, h1, (wlS_wl h2).2⟩⟩
theorem wl_wlS {e : Edges} {S : Int → Prop} (hS : ∀ z ∈ nm e, S z) : ∀ {k : Nat} {a b : Int}, 0 < k → wl e k a b = true → wlS e S k a b
  | 0, _, _, h, _ => by omega
  | k + 1, a, b, _, h => by
    obtain ⟨c, h1, h2⟩ := wl_succ.1 h
    rcases Nat.eq_zero_or_pos k with rfl | hk
    · simp [wl] at h2
      exact .inl ⟨rfl, h2 ▸ h1⟩
    · exact .inr ⟨c, h1, hS c (nm_snd h1), wl_wlS hS hk h2⟩
theorem wlS_mono {e : Edges} {S T : Int → Prop} (hS : ∀ z, S z → T z) : ∀ {k : Nat} {a b : Int}, wlS e S k a b → wlS e T k a b
  | 0, _, _, h => h.elim
  | k + 1, a, b, h => by
    rcases h with h | ⟨c, h1, h2, h3⟩
    · exact .inl h
    · exact .inr ⟨c, h1, hS c h2, wlS_mono hS h3⟩
theorem wlS_add {e : Edges} {S : Int → Prop} {v : Int} (hv : S v) : ∀ {j k : Nat} {a b : Int}, wlS e S j a v → wlS e S k v b → wlS e S (j + k) a b
  | 0, _, _, _, h, _ => h.elim
  | j + 1, k, a, b, h, g => by
    rw [show j + 1 + k = (j + k) + 1 by omega]
    rcases h with ⟨rfl, h⟩ | ⟨c, h1, h2, h3⟩
    · exact .inr ⟨v, h, hv, by rw [Nat.zero_add]; exact g⟩
    · exact .inr ⟨c, h1, h2, wlS_add hv h3 g⟩
/-- One place more: around it, or to it and on from it. -/
theorem wlS_split {e : Edges} {S : Int → Prop} {v : Int} : ∀ {k : Nat} {a b : Int}, wlS e (fun z => S z ∨ z = v) k a b → wlS e S k a b ∨ ∃ i j, i + j ≤ k ∧ wlS e S i a v ∧ wlS e S j v b
  | 0, _, _, h => h.elim
  | k + 1, a, b, h => by
    rcases h with h | ⟨c, h1, h2, h3⟩
    · exact .inl (.inl h)
    · rcases wlS_split h3 with h4 | ⟨i, j, h5, h6, h7⟩
      · rcases h2 with h2 | rfl
        · exact .inl (.inr ⟨c, h1, h2, h4⟩)
        · exact .inr ⟨1, k, by omega, .inl ⟨rfl, h1⟩, h4⟩
      · rcases h2 with h2 | rfl
        · exact .inr ⟨i + 1, j, by omega, .inr ⟨c, h1, h2, h6⟩, h7⟩
        · exact .inr ⟨1, j, by have := (wlS_wl h6).1; omega, .inl ⟨rfl, h1⟩, h7⟩
theorem wlS_pth {e : Edges} {S : Int → Prop} : ∀ {k : Nat} {a b : Int}, wlS e S k a b → ∃ vs, vs.length = k ∧ pth e a vs b ∧ ∀ z ∈ vs.dropLast, S z
  | 0, _, _, h => h.elim
  | k + 1, a, b, h => by
    rcases h with ⟨rfl, h⟩ | ⟨c, h1, h2, h3⟩
    · exact ⟨[b], rfl, ⟨h, rfl⟩, by simp⟩
    · obtain ⟨vs, h4, h5, h6⟩ := wlS_pth h3
      have hne : vs ≠ [] := by intro he; subst he; have := (wlS_wl h3).1; simp at h4; omega
      refine ⟨c :: vs, by simp [h4], ⟨h1, h5⟩, fun z hz => ?_⟩
      rw [List.dropLast_cons_of_ne_nil hne] at hz
      rcases List.mem_cons.1 hz with rfl | hz
      · exact h2
      · exact h6 z hz
theorem pth_wlS {e : Edges} {S : Int → Prop} : ∀ {vs : List Int} {a b : Int}, vs ≠ [] → pth e a vs b → (∀ z ∈ vs.dropLast, S z) → wlS e S vs.length a b
  | [], _, _, h, _, _ => absurd rfl h
  | [v], a, b, _, h, _ => by
    obtain ⟨h1, h2⟩ := h
    have h2 : v = b := h2
    exact .inl ⟨rfl, h2 ▸ h1⟩
  | v :: u :: vs, a, b, _, h, hs => by
    rw [List.dropLast_cons_of_ne_nil (by simp)] at hs
    exact .inr ⟨v, h.1, hs v (by simp), pth_wlS (by simp) h.2 fun z hz => hs z (by simp [hz])⟩
theorem dl_app {A C : List Int} {x : Int} : (A ++ x :: C).dropLast = A ++ (x :: C).dropLast := List.dropLast_append_of_ne_nil (by simp)
theorem pth_short2 {e : Edges} : ∀ (n : Nat) {vs : List Int} {a b : Int}, vs.length = n → 0 < n → pth e a vs b → ∃ us, 0 < us.length ∧ us.length ≤ n ∧ us.Nodup ∧ pth e a us b ∧ ∀ z ∈ us.dropLast, z ∈ vs.dropLast := by
  intro n
  induction n using Nat.strongRecOn with
  | _ n ih =>
    intro vs a b hl h0 hp
    by_cases hn : vs.Nodup
    · exact ⟨vs, by omega, by omega, hn, hp, fun z hz => hz⟩
    · obtain ⟨A, x, B, C, rfl⟩ := dup_split hn
      obtain ⟨p1, p2⟩ := pth_app.1 hp
      obtain ⟨_, p3⟩ := pth_app.1 p2
      simp at hl
      obtain ⟨us, u1, u2, u3, u4, u5⟩ := ih (A ++ x :: C).length (by simp; omega) rfl (by simp; omega) (pth_app.2 ⟨p1, p3⟩)
      simp at u2
      refine ⟨us, u1, by omega, u3, u4, fun z hz => ?_⟩
      have h1 := u5 z hz
      rw [dl_app, List.mem_append] at h1 ⊢
      rcases h1 with h1 | h1
      · exact .inl h1
      · right
        rw [← List.cons_append, dl_app, List.mem_append]
        exact .inr h1
/-- None is longer than there are places. -/
theorem wlS_short {e : Edges} {S : Int → Prop} {k : Nat} {a b : Int} (h : wlS e S k a b) : ∃ j, j ≤ k ∧ j ≤ (nm e).length ∧ wlS e S j a b := by
  have h0 := (wlS_wl h).1
  obtain ⟨vs, h1, h2, h3⟩ := wlS_pth h
  obtain ⟨us, u1, u2, u3, u4, u5⟩ := pth_short2 k h1 h0 h2
  exact ⟨us.length, u2, len_of_sub u3 (pth_mem u4), pth_wlS (by intro he; subst he; simp at u1) u4 fun z hz => h3 z (u5 z hz)⟩

/-- The table at a stage: behind the rows m of the first loop; of the row at hand, those ahead of (i, k). -/
def stg (l : List Int) (m : Nat) (z : Int) : Prop := ∃ j, j < m ∧ l[j]? = some z
def stgP (l : List Int) (m i k a b : Nat) (z : Int) : Prop := stg l m z ∨ ((a < i ∨ a = i ∧ b < k) ∧ l[m]? = some z)
structure FwAt (e : Edges) (l : List Int) (m i k : Nat) (D : Nat → Nat → Nat) : Prop where
  sound : ∀ a b x y, l[a]? = some x → l[b]? = some y → 0 < D a b → wlS e (stgP l m i k a b) (D a b) x y
  full : ∀ a b x y L, l[a]? = some x → l[b]? = some y → wlS e (stgP l m i k a b) L x y → 0 < D a b ∧ D a b ≤ L
theorem FwAt.le {e : Edges} {l : List Int} {m i k : Nat} {D : Nat → Nat → Nat} (h : FwAt e l m i k D) {a b : Nat} {x y : Int} (ha : l[a]? = some x) (hb : l[b]? = some y) : D a b ≤ (nm e).length := by
  rcases Nat.eq_zero_or_pos (D a b) with h0 | h0
  · omega
  · obtain ⟨j, _, h2, h3⟩ := wlS_short (h.sound a b x y ha hb h0)
    have := (h.full a b x y j ha hb h3).2
    omega
theorem FwAt.start {e : Edges} {l : List Int} {D : Nat → Nat → Nat} (h : ∀ a b x y, l[a]? = some x → l[b]? = some y → D a b = if (x, y) ∈ e then 1 else 0) : FwAt e l 0 0 0 D := by
  have hn : ∀ a b z, ¬ stgP l 0 0 0 a b z := by
    rintro a b z (⟨j, hj, _⟩ | ⟨h, _⟩) <;> omega
  constructor
  · intro a b x y ha hb h0
    rw [h a b x y ha hb] at h0 ⊢
    split at h0
    · rename_i he
      rw [if_pos he]
      exact .inl ⟨rfl, he⟩
    · omega
  · intro a b x y L ha hb hw
    cases L with
    | zero => exact hw.elim
    | succ L =>
      rcases hw with ⟨rfl, he⟩ | ⟨c, _, h2, _⟩
      · rw [h a b x y ha hb, if_pos he]; omega
      · exact absurd h2 (hn a b c)
/-- On tw the next row of the table; on tw the next stage. -/
theorem FwAt.row {e : Edges} {l : List Int} {m i : Nat} {D : Nat → Nat → Nat} (h : FwAt e l m i l.length D) : FwAt e l m (i + 1) 0 D := by
  have hs : ∀ a b z, b < l.length → (stgP l m i l.length a b z ↔ stgP l m (i + 1) 0 a b z) := by
    intro a b z hb
    unfold stgP
    have : (a < i ∨ a = i ∧ b < l.length) ↔ (a < i + 1 ∨ a = i + 1 ∧ b < 0) := by omega
    rw [this]
  constructor
  · intro a b x y ha hb h0
    have hl := (List.getElem?_eq_some_iff.1 hb).1
    exact wlS_mono (fun z hz => (hs a b z hl).1 hz) (h.sound a b x y ha hb h0)
  · intro a b x y L ha hb hw
    have hl := (List.getElem?_eq_some_iff.1 hb).1
    exact h.full a b x y L ha hb (wlS_mono (fun z hz => (hs a b z hl).2 hz) hw)
theorem FwAt.stage {e : Edges} {l : List Int} {m : Nat} {D : Nat → Nat → Nat} (h : FwAt e l m l.length 0 D) (hm : m < l.length) : FwAt e l (m + 1) 0 0 D := by
  have hs : ∀ a b z, a < l.length → (stgP l m l.length 0 a b z ↔ stgP l (m + 1) 0 0 a b z) := by
    intro a b z ha
    unfold stgP stg
    constructor
    · rintro (⟨j, h1, h2⟩ | ⟨_, h2⟩)
      · exact .inl ⟨j, by omega, h2⟩
      · exact .inl ⟨m, by omega, h2⟩
    · rintro (⟨j, h1, h2⟩ | ⟨h1, _⟩)
      · rcases Nat.lt_or_ge j m with h3 | h3
        · exact .inl ⟨j, h3, h2⟩
        · obtain rfl : j = m := by omega
          exact .inr ⟨.inl ha, h2⟩
      · omega
  constructor
  · intro a b x y ha hb h0
    have hl := (List.getElem?_eq_some_iff.1 ha).1
    exact wlS_mono (fun z hz => (hs a b z hl).1 hz) (h.sound a b x y ha hb h0)
  · intro a b x y L ha hb hw
    have hl := (List.getElem?_eq_some_iff.1 ha).1
    exact h.full a b x y L ha hb (wlS_mono (fun z hz => (hs a b z hl).2 hz) hw)
/-- One cell: turned, or let be. -/
def fwT (D : Nat → Nat → Nat) (m i k : Nat) : Bool := decide (0 < D i m ∧ 0 < D m k ∧ (D i k = 0 ∨ D i m + D m k < D i k))
def fwD (D : Nat → Nat → Nat) (m i k : Nat) : Nat → Nat → Nat := fun a b => if fwT D m i k ∧ a = i ∧ b = k then D i m + D m k else D a b
theorem FwAt.cell {e : Edges} {l : List Int} {m i k : Nat} {D : Nat → Nat → Nat} (h : FwAt e l m i k D) (hm : m < l.length) (hi : i < l.length) (hk : k < l.length) : FwAt e l m i (k + 1) (fwD D m i k) := by
  have hsub : ∀ a b z, stgP l m i k a b z → stgP l m i (k + 1) a b z := by
    rintro a b z (h | ⟨h, h2⟩)
    · exact .inl h
    · exact .inr ⟨by omega, h2⟩
  have hsame : ∀ a b z, ¬ (a = i ∧ b = k) → (stgP l m i (k + 1) a b z → stgP l m i k a b z) := by
    rintro a b z hne (h | ⟨h, h2⟩)
    · exact .inl h
    · exact .inr ⟨by omega, h2⟩
  have hge : ∀ a b z, stg l m z → stgP l m i k a b z := fun a b z h => .inl h
  have hone : ∀ z, stgP l m i (k + 1) i k z ↔ (stg l m z ∨ z = l[m]) := by
    intro z
    unfold stgP
    rw [List.getElem?_eq_getElem hm]
    constructor
    · rintro (h | ⟨_, h⟩)
      · exact .inl h
      · exact .inr (Option.some.inj h).symm
    · rintro (h | rfl)
      · exact .inl h
      · exact .inr ⟨by omega, rfl⟩
  have hold : ∀ z, stgP l m i k i k z → stg l m z := by
    rintro z (h | ⟨h, _⟩)
    · exact h
    · omega
  have gm := List.getElem?_eq_getElem hm
  have gi := List.getElem?_eq_getElem hi
  have gk := List.getElem?_eq_getElem hk
  constructor
  · intro a b x y ha hb h0
    by_cases hab : a = i ∧ b = k
    · obtain ⟨rfl, rfl⟩ := hab
      obtain rfl : l[a] = x := Option.some.inj (gi.symm.trans ha)
      obtain rfl : l[b] = y := Option.some.inj (gk.symm.trans hb)
      by_cases ht : fwT D m a b = true
      · have e1 : fwD D m a b a b = D a m + D m b := by simp [fwD, ht]
        rw [e1]
        unfold fwT at ht
        have ht := of_decide_eq_true ht
        have w1 := h.sound a m _ _ gi gm ht.1
        have w2 := h.sound m b _ _ gm gk ht.2.1
        have up : ∀ c d z, stgP l m a b c d z → stgP l m a (b + 1) a b z := by
          rintro c d z (hz | ⟨_, hz⟩)
          · exact .inl hz
          · exact .inr ⟨by omega, hz⟩
        exact wlS_add ((hone _).2 (.inr rfl)) (wlS_mono (up a m) w1) (wlS_mono (up m b) w2)
      · have e1 : fwD D m a b a b = D a b := by simp [fwD, ht]
        rw [e1] at h0 ⊢
        exact wlS_mono (hsub a b) (h.sound a b _ _ ha hb h0)
    · have e1 : fwD D m i k a b = D a b := by unfold fwD; rw [if_neg (fun hx => hab hx.2)]
      rw [e1] at h0 ⊢
      exact wlS_mono (hsub a b) (h.sound a b x y ha hb h0)
  · intro a b x y L ha hb hw
    by_cases hab : a = i ∧ b = k
    · obtain ⟨rfl, rfl⟩ := hab
      obtain rfl : l[a] = x := Option.some.inj (gi.symm.trans ha)
      obtain rfl : l[b] = y := Option.some.inj (gk.symm.trans hb)
      have hw2 := wlS_mono (fun z hz => (hone z).1 hz) hw
      rcases wlS_split hw2 with h1 | ⟨c, d, h1, h2, h3⟩
      · obtain ⟨g1, g2⟩ := h.full a b _ _ L ha hb (wlS_mono (hge a b) h1)
        unfold fwD
        split
        · rename_i ht
          have ht := of_decide_eq_true ht.1
          omega
        · exact ⟨g1, g2⟩
      · obtain ⟨g1, g2⟩ := h.full a m _ _ c gi gm (wlS_mono (hge a m) h2)
        obtain ⟨g3, g4⟩ := h.full m b _ _ d gm gk (wlS_mono (hge m b) h3)
        unfold fwD
        split
        · omega
        · rename_i ht
          have hf : ¬ (0 < D a m ∧ 0 < D m b ∧ (D a b = 0 ∨ D a m + D m b < D a b)) := fun hx => ht ⟨decide_eq_true hx, rfl, rfl⟩
          omega
    · have e1 : fwD D m i k a b = D a b := by unfold fwD; rw [if_neg (fun hx => hab hx.2)]
      rw [e1]
      exact h.full a b x y L ha hb (wlS_mono (fun z => hsame a b z hab) hw)
/-- The table at its end. -/
theorem FwAt.done {e : Edges} {D : Nat → Nat → Nat} (h : FwAt e (nm e) (nm e).length 0 0 D) {a b : Nat} {x y : Int} (ha : (nm e)[a]? = some x) (hb : (nm e)[b]? = some y) : D a b = dst e x y := by
  have hS : ∀ z ∈ nm e, stgP (nm e) (nm e).length 0 0 a b z := by
    intro z hz
    obtain ⟨j, hj, rfl⟩ := List.getElem_of_mem hz
    exact .inl ⟨j, hj, List.getElem?_eq_getElem hj⟩
  rcases Nat.eq_zero_or_pos (D a b) with h0 | h0
  · rw [h0]
    refine (dst_none fun k hk => ?_).symm
    cases hw : wl e k x y with
    | false => rfl
    | true =>
      have := (h.full a b x y k ha hb (wl_wlS hS hk hw)).1
      omega
  · obtain ⟨g1, g2⟩ := wlS_wl (h.sound a b x y ha hb h0)
    exact (dst_eq h0 g2 fun k hk hw => (h.full a b x y k ha hb (wl_wlS hS hk hw)).2).symm

/-! How far each is away from one: the map that grows. -/
structure WvAt (e : Edges) (tw : Int) (F : List (Int × Int)) : Prop where
  nodup : (F.map (·.1)).Nodup
  at_ : (tw, 0) ∈ F
  sound : ∀ n d, (n, d) ∈ F → 0 ≤ d ∧ d < F.length ∧ wl e d.toNat n tw = true
  names : ∀ p ∈ F, p.1 ∈ nm e
theorem WvAt.len {e : Edges} {tw : Int} {F : List (Int × Int)} (h : WvAt e tw F) : F.length ≤ (nm e).length := by
  have := len_of_sub h.nodup (m := nm e) (fun z hz => by obtain ⟨p, hp, rfl⟩ := List.mem_map.1 hz; exact h.names p hp)
  simpa using this
/-- How much can still fall. -/
def wvM (e : Edges) (F : List (Int × Int)) : Nat := ((nm e).map fun n => match mget F n with | some d => d.toNat | none => (nm e).length).foldl (· + ·) 0
theorem foldl_add (l : List Nat) (a : Nat) : l.foldl (· + ·) a = a + l.foldl (· + ·) 0 := by
  induction l generalizing a with
  | nil => simp
  | cons x l ih => rw [List.foldl_cons, ih, List.foldl_cons, ih (0 + x)]; omega
theorem sum_lt {f g : Int → Nat} : ∀ {l : List Int} {x : Int}, x ∈ l → (∀ z ∈ l, f z ≤ g z) → f x < g x → (l.map f).foldl (· + ·) 0 < (l.map g).foldl (· + ·) 0
  | y :: l, x, hx, hle, hlt => by
    have hall : ∀ (l : List Int), (∀ z ∈ l, f z ≤ g z) → (l.map f).foldl (· + ·) 0 ≤ (l.map g).foldl (· + ·) 0 := by
      intro l
      induction l with
      | nil => simp
      | cons y l ih =>
        intro h
        rw [List.map_cons, List.map_cons, List.foldl_cons, List.foldl_cons, foldl_add, foldl_add _ (0 + g y)]
        have := ih fun z hz => h z (by simp [hz])
        have := h y (by simp)
        omega
    rw [List.map_cons, List.map_cons, List.foldl_cons, List.foldl_cons, foldl_add, foldl_add _ (0 + g y)]
    rcases List.mem_cons.1 hx with rfl | hx
    · have := hall l fun z hz => hle z (by simp [hz])
      omega
    · have := sum_lt hx (fun z hz => hle z (by simp [hz])) hlt
      have := hle y (by simp)
      omega
theorem mget_mem {m : List (Int × Int)} {n d : Int} (h : mget m n = some d) : (n, d) ∈ m := by
  unfold mget at h
  obtain ⟨⟨a, b⟩, h1, h2⟩ := Option.map_eq_some_iff.1 h
  have := List.find?_some h1
  simp at this h2
  subst this h2
  exact List.mem_of_find?_eq_some h1
theorem mget_none {m : List (Int × Int)} {n : Int} (h : mget m n = none) : ∀ p ∈ m, p.1 ≠ n := by
  intro p hp he
  unfold mget at h
  rw [Option.map_eq_none_iff, List.find?_eq_none] at h
  exact h p hp (by simpa using he)
theorem mget_iff {m : List (Int × Int)} (hn : (m.map (·.1)).Nodup) {n d : Int} : mget m n = some d ↔ (n, d) ∈ m := by
  refine ⟨mget_mem, fun h => ?_⟩
  obtain ⟨j, hj, e⟩ := List.getElem_of_mem h
  exact mget_of hn (by rw [List.getElem?_eq_getElem hj, e])
theorem mput_keys {m : List (Int × Int)} {k v : Int} : ∀ p, p ∈ mput m k v ↔ (p = (k, v) ∨ (p ∈ m ∧ p.1 ≠ k)) := by
  intro p
  unfold mput
  split
  · rename_i h
    rw [List.mem_map]
    constructor
    · rintro ⟨q, hq, rfl⟩
      split
      · exact .inl rfl
      · rename_i hne; exact .inr ⟨hq, by simpa using hne⟩
    · rintro (rfl | ⟨h1, h2⟩)
      · rw [List.any_eq_true] at h
        obtain ⟨q, hq, he⟩ := h
        exact ⟨q, hq, by rw [if_pos he]⟩
      · exact ⟨p, h1, by rw [if_neg (by simpa using h2)]⟩
  · rename_i h
    rw [List.mem_append, List.mem_singleton]
    constructor
    · rintro (h1 | h1)
      · refine .inr ⟨h1, fun e => h ?_⟩
        rw [List.any_eq_true]
        exact ⟨p, h1, by simpa using e⟩
      · exact .inl h1
    · rintro (h1 | ⟨h1, _⟩)
      · exact .inr h1
      · exact .inl h1
theorem mput_fst {m : List (Int × Int)} {k v : Int} : (mput m k v).map (·.1) = if m.any (fun p => p.1 == k) then m.map (·.1) else m.map (·.1) ++ [k] := by
  unfold mput
  split
  · rw [List.map_map]
    refine List.map_congr_left fun p _ => ?_
    simp only [Function.comp_def]
    split
    · rename_i h; simp at h; exact h.symm
    · rfl
  · simp
theorem mput_nodup {m : List (Int × Int)} {k v : Int} (h : (m.map (·.1)).Nodup) : ((mput m k v).map (·.1)).Nodup := by
  rw [mput_fst]
  split
  · exact h
  · rename_i hn
    rw [List.nodup_append]
    refine ⟨h, by simp, fun a ha b hb => ?_⟩
    simp at hb
    subst hb
    rintro rfl
    obtain ⟨p, hp, he⟩ := List.mem_map.1 ha
    refine hn ?_
    rw [List.any_eq_true]
    exact ⟨p, hp, by simpa using he⟩
theorem mput_get {m : List (Int × Int)} (hn : (m.map (·.1)).Nodup) {k v n : Int} : mget (mput m k v) n = if n = k then some v else mget m n := by
  have hn2 := mput_nodup (k := k) (v := v) hn
  split
  · rename_i h
    subst h
    exact (mget_iff hn2).2 ((mput_keys _).2 (.inl rfl))
  · rename_i h
    cases hg : mget m n with
    | some d => exact (mget_iff hn2).2 ((mput_keys _).2 (.inr ⟨mget_mem hg, h⟩))
    | none =>
      cases hg2 : mget (mput m k v) n with
      | none => rfl
      | some d =>
        rcases (mput_keys _).1 (mget_mem hg2) with h1 | ⟨h1, _⟩
        · cases h1; exact absurd rfl h
        · exact absurd rfl (mget_none hg _ h1)
/-- One falls, or comes in. -/
theorem WvAt.put {e : Edges} {tw : Int} {F : List (Int × Int)} (h : WvAt e tw F) {n k d : Int} (he : (n, k) ∈ e) (hk : mget F k = some d) (hw : ∀ was, mget F n = some was → d + 1 < was) :
    WvAt e tw (mput F n (d + 1)) ∧ wvM e (mput F n (d + 1)) < wvM e F ∧ d + 1 < (nm e).length + 1 := by
  obtain ⟨d0, d1, d2⟩ := h.sound k d (mget_mem hk)
  have hlen := h.len
  have hnt : n ≠ tw := by
    rintro rfl
    have := hw 0 ((mget_iff h.nodup).2 h.at_)
    omega
  have hL : (mput F n (d + 1)).length = if F.any (fun p => p.1 == n) then F.length else F.length + 1 := by unfold mput; split <;> simp
  have hwl : wl e (d + 1).toNat n tw = true := by
    rw [show (d + 1).toNat = d.toNat + 1 by omega]
    exact wl_succ.2 ⟨k, he, d2⟩
  have hlt : d + 1 < (mput F n (d + 1)).length := by
    rw [hL]
    split
    · rename_i ha
      rw [List.any_eq_true] at ha
      obtain ⟨⟨a, was⟩, hp, hq⟩ := ha
      simp at hq
      subst hq
      have h1 := hw was ((mget_iff h.nodup).2 hp)
      have := (h.sound _ _ hp).2.1
      omega
    · push_cast; omega
  have hW : WvAt e tw (mput F n (d + 1)) := by
    refine ⟨mput_nodup h.nodup, (mput_keys _).2 (.inr ⟨h.at_, fun e => hnt e.symm⟩), fun a c hc => ?_, fun p hp => ?_⟩
    · rcases (mput_keys _).1 hc with h1 | ⟨h1, _⟩
      · cases h1; exact ⟨by omega, hlt, hwl⟩
      · obtain ⟨g1, g2, g3⟩ := h.sound a c h1
        refine ⟨g1, ?_, g3⟩
        rw [hL]; split <;> (push_cast; omega)
    · rcases (mput_keys _).1 hp with rfl | ⟨h1, _⟩
      · exact nm_fst he
      · exact h.names p h1
  refine ⟨hW, ?_, by have := hW.len; omega⟩
  unfold wvM
  refine sum_lt (nm_fst he) (fun z _ => ?_) ?_
  · rw [mput_get h.nodup]
    by_cases hz : z = n
    · subst hz
      rw [if_pos rfl]
      cases hg : mget F z with
      | none => have := hW.len; simp only; omega
      | some was => have := hw was hg; simp only; omega
    · rw [if_neg hz]; exact Nat.le_refl _
  · rw [mput_get h.nodup, if_pos rfl]
    cases hg : mget F n with
    | none => have := hW.len; simp only; omega
    | some was => have := hw was hg; simp only; omega
/-- Where nothing falls any more, all is told. -/
def WvEnd (e : Edges) (F : List (Int × Int)) : Prop := ∀ n k, (n, k) ∈ e → ∀ d, mget F k = some d → ∃ was, mget F n = some was ∧ was ≤ d + 1
theorem WvAt.full {e : Edges} {tw : Int} {F : List (Int × Int)} (h : WvAt e tw F) (hE : WvEnd e F) : ∀ {k : Nat} {n : Int}, wl e k n tw = true → ∃ d, mget F n = some d ∧ d ≤ k
  | 0, n, hw => by
    simp [wl] at hw
    subst hw
    exact ⟨0, (mget_iff h.nodup).2 h.at_, by omega⟩
  | k + 1, n, hw => by
    obtain ⟨c, h1, h2⟩ := wl_succ.1 hw
    obtain ⟨d, h3, h4⟩ := WvAt.full h hE h2
    obtain ⟨was, h5, h6⟩ := hE n c h1 d h3
    exact ⟨was, h5, by omega⟩
/-- What the map says. -/
def wave (e : Edges) (tw n : Int) : Option Int := if n = tw then some 0 else if dst e n tw = 0 then none else some (dst e n tw : Int)
theorem WvAt.get {e : Edges} {tw : Int} {F : List (Int × Int)} (h : WvAt e tw F) (hE : WvEnd e F) (n : Int) : mget F n = wave e tw n := by
  unfold wave
  split
  · rename_i hn
    subst hn
    exact (mget_iff h.nodup).2 h.at_
  · rename_i hn
    split
    · rename_i hd
      cases hg : mget F n with
      | none => rfl
      | some d =>
        obtain ⟨g1, g2, g3⟩ := h.sound n d (mget_mem hg)
        rcases Nat.eq_zero_or_pos d.toNat with h0 | h0
        · rw [h0] at g3; simp [wl] at g3; exact absurd g3 hn
        · have := (dst_le h0 g3).1; omega
    · rename_i hd
      obtain ⟨g1, _⟩ := dst_pos (e := e) (a := n) (b := tw) (by omega)
      obtain ⟨d, h1, h2⟩ := h.full hE g1
      obtain ⟨g2, _, g3⟩ := h.sound n d (mget_mem h1)
      rw [h1]
      rcases Nat.eq_zero_or_pos d.toNat with h0 | h0
      · rw [h0] at g3; simp [wl] at g3; exact absurd g3 hn
      · have := (dst_le h0 g3).2
        congr 1; omega
end Go.Proofs.Ytlhblkpdfdpiaaa.Wt
