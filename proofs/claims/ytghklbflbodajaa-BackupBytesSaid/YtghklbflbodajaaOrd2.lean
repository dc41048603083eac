import Derived.Test.YtghklbflbodajaaA2
namespace Go.Proofs.Ytghklbflbodajaa
open Go.RowKit Go.ChangeMaps Go.MapKept
set_option linter.unusedVariables false
set_option linter.unusedSimpArgs false
set_option linter.unnecessarySimpa false

section
variable {P : Program} {ops : Array Oper} {Q : Exit → Act → World → Prop} {S : World → Prop}

/-- An order with a store, number m, in its midst: reads that m waits for (rd), reads that no world changes (rf), others. -/
inductive Plan2 where
  | done
  | rd (i : Nat) (p : Plan2)
  | rf (i : Nat) (p : Plan2)
  | one (s : Bool) (i : Nat) (p : Plan2)
def Plan2.len : Plan2 → Nat
  | .done => 0
  | .rd _ p => p.len + 1
  | .rf _ p => p.len + 1
  | .one _ _ p => p.len + 1

def wpOrd2 (P : Program) (ops : Array Oper) (S : World → Prop) (Q : Exit → Act → World → Prop) : Plan2 → Act → World → Prop
  | .done, a, w => Q .normal a w
  | .rd i l, a, w => ∃ o v, ops[i]? = some o ∧ YieldsIf P ops S o v a ∧ wpOrd2 P ops S Q l (a.put o.dst v) w
  | .rf i l, a, w => ∃ o v, ops[i]? = some o ∧ YieldsIf P ops (fun _ => True) o v a ∧ wpOrd2 P ops S Q l (a.put o.dst v) w
  | .one s i l, a, w => ∃ o, ops[i]? = some o ∧ wpList P ops (ordQ Q (fun a' w' => (s = true → S w') ∧ wpOrd2 P ops S Q l a' w')) [o] a w

/-- j waits for i. -/
def waitsB (ops : Array Oper) (i : Nat) : Nat → Nat → Bool
  | 0, _ => false
  | f + 1, j => match ops[j]? with
    | none => false
    | some o => o.after.any fun e => Region.binds .any e && (e.on == i || waitsB ops i f e.on)
theorem waitsB_spec {i : Nat} {listed : Array Bool} (inv : Closed ops listed) : ∀ (f j : Nat), waitsB ops i f j = true → listed.getD j false = true → listed.getD i false = true
  | 0, _, h, _ => by simp [waitsB] at h
  | f + 1, j, h, hl => by
    unfold waitsB at h
    split at h
    · cases h
    · rename_i o ho
      rw [Array.any_eq_true] at h
      obtain ⟨k, hk, h2⟩ := h
      simp only [Bool.and_eq_true, Bool.or_eq_true, beq_iff_eq] at h2
      have h3 := inv.2 j o ho hl o.after[k] (Array.getElem_mem hk) h2.1
      rcases h2.2 with h4 | h4
      · rw [← h4]; exact h3
      · exact waitsB_spec inv f _ h4 h3

def ordB2 (ops : Array Oper) (n m : Nat) : Plan2 → Array Bool → Bool
  | .done, listed => (Region.ready .any ops listed).isEmpty
  | .rd i l, listed => (decide (i < n)) && (i != m) && waitsB ops i ops.size m && (Region.ready .any ops listed).contains i && Region.free .any ops listed i && ordB2 ops n m l (listed.setIfInBounds i true)
  | .rf i l, listed => (decide (i < n)) && (i != m) && (Region.ready .any ops listed).contains i && Region.free .any ops listed i && ordB2 ops n m l (listed.setIfInBounds i true)
  | .one s i l, listed => (s || i == n || i == m || listed.getD m false) && (Region.ready .any ops listed == [i]) && ordB2 ops n m l (listed.setIfInBounds i true)

def wpAnyE2 (P : Program) (ops : Array Oper) (n m : Nat) (Q : Exit → Act → World → Prop) (S : World → Prop) : Nat → Array Bool → Act → World → Prop
  | 0, listed, a, w => Region.ready .any ops listed = [] ∧ Q .normal a w
  | f + 1, listed, a, w => (Region.ready .any ops listed = [] → Q .normal a w) ∧
    ∀ i ∈ Region.ready .any ops listed, wpOp P ops Q i (fun a' w' => (i ≠ n → (listed.setIfInBounds i true).getD m false = false → S w') ∧ wpAnyE2 P ops n m Q S f (listed.setIfInBounds i true) a' w') a w
theorem wpAnyE2_any {n m : Nat} : ∀ (f : Nat) (listed : Array Bool) (a : Act) (w : World), wpAnyE2 P ops n m Q S f listed a w → wpAny P .any ops Q f listed a w
  | 0, _, _, _, h => h
  | f + 1, _, _, _, h => ⟨h.1, fun i hi => wpOp_mono (fun a' w' h' => wpAnyE2_any f _ a' w' h'.2) (h.2 i hi)⟩

theorem wpAnyE2_first {n m i : Nat} {oi : Oper} {v : Value} {T : World → Prop} (hs : sinkOk ops n = true) (hin : i < n) (him : i ≠ m) (hi : ops[i]? = some oi) (hsel : Region.noSelect ops = true) (hQ : ∀ c a d v w, Q (.panic c) (Act.put a d v) w → Q (.panic c) a w)
    (hT : ∀ listed w, Closed ops listed → listed.getD i false = false → (listed.getD m false = false → S w) → T w) :
    ∀ (f : Nat) (listed : Array Bool) (a : Act) (w : World), Closed ops listed → (∀ j oj, ops[j]? = some oj → j ≠ i → listed.getD j true = false → (∀ e ∈ oj.after, Region.binds .any e = true → e.on ≠ i) → oi.apart ops oj = true) →
      i ∈ Region.ready .any ops listed → YieldsIf P ops T oi v a → (listed.getD m false = false → S w) → wpAnyE2 P ops n m Q S f (listed.setIfInBounds i true) (a.put oi.dst v) w → wpAnyE2 P ops n m Q S (f + 1) listed a w := by
  intro f
  have keepm : ∀ listed : Array Bool, (listed.setIfInBounds i true).getD m false = listed.getD m false := fun listed => getD_set_ne false him
  induction f with
  | zero =>
    intro listed a w inv _ hr hy hS H
    refine ⟨fun h => (by rw [h] at hr; cases hr), fun j hj => ?_⟩
    by_cases hji : j = i
    · subst hji
      exact hy.wpOp hi (hT listed w inv (getD_both (mem_ready.1 hr).1) hS) ⟨fun _ h => hS (by rw [← keepm]; exact h), H⟩
    · have := ready_mono hj hji
      rw [H.1] at this
      cases this
  | succ f ih =>
    intro listed a w inv hfree hr hy hS H
    refine ⟨fun h => (by rw [h] at hr; cases hr), fun j hj => ?_⟩
    by_cases hji : j = i
    · subst hji
      exact hy.wpOp hi (hT listed w inv (getD_both (mem_ready.1 hr).1) hS) ⟨fun _ h => hS (by rw [← keepm]; exact h), H⟩
    · have hun := (mem_ready.1 hr).1
      have hjn : j ≠ n := inv.notYet hs hin hun hj
      have h1 := H.2 j (ready_mono hj hji)
      obtain ⟨hjun, oj, hoj, hall⟩ := mem_ready.1 hj
      have hnot : ∀ e ∈ oj.after, Region.binds .any e = true → e.on ≠ i := fun e he hb heq => by
        have h2 := hall e he hb
        rw [heq, getD_both hun] at h2
        cases h2
      have h2 := wpOp_putIf hoj (hfree j oj hoj hji hjun hnot) (fun cs b => Region.noSelect_spec hsel i oi cs b hi) (fun cs b => Region.noSelect_spec hsel j oj cs b hoj) (fun c a w h => hQ c a _ _ w h) hy h1
      have hri : i ∈ Region.ready .any ops (listed.setIfInBounds j true) := ready_mono hr (Ne.symm hji)
      have hfree' : ∀ k ok, ops[k]? = some ok → k ≠ i → (listed.setIfInBounds j true).getD k true = false → (∀ e ∈ ok.after, Region.binds .any e = true → e.on ≠ i) → oi.apart ops ok = true := fun k ok hk hki hun hno => by
        refine hfree k ok hk hki ?_ hno
        by_cases hjk : j = k
        · subst hjk; exact hjun
        · rw [getD_set_ne true hjk] at hun; exact hun
      refine wpOp_mono (fun a' w' h3 => ?_) h2
      have hSw : (listed.setIfInBounds j true).getD m false = false → S w' := fun h => h3.2.1 hjn (by rw [Array.setIfInBounds_comm _ _ (Ne.symm hji), keepm]; exact h)
      refine ⟨fun _ => hSw, ih (listed.setIfInBounds j true) a' w' (inv.set hj) hfree' hri h3.1 hSw ?_⟩
      rw [Array.setIfInBounds_comm _ _ hji]
      exact h3.2.2

theorem ordB2_sub {n m : Nat} {l : Plan2} {listed : Array Bool} (inv : Closed ops listed) (hs : sinkOk ops n = true) (hB : ordB2 ops n m l (listed.setIfInBounds n true) = true) (hn : n ∈ Region.ready .any ops listed) : l = .done := by
  have hlt : n < ops.size := by obtain ⟨_, o, ho, _⟩ := mem_ready.1 hn; exact (Array.getElem?_eq_some_iff.1 ho).1
  have key : ∀ k, k ∈ Region.ready .any ops (listed.setIfInBounds n true) → False := by
    intro k hk
    obtain ⟨hku, ok, hok, _⟩ := mem_ready.1 hk
    have hks : k < ops.size := (Array.getElem?_eq_some_iff.1 hok).1
    by_cases hkj : n = k
    · subst hkj
      have hjs : n < listed.size := by rw [inv.1]; exact hks
      simp [hjs] at hku
    · have hss := hs
      unfold sinkOk at hss
      simp only [Bool.or_eq_true, Bool.and_eq_true, beq_iff_eq] at hss
      have hlt : k < n := by
        rcases hss with h9 | ⟨⟨h9, _⟩, _⟩ <;> omega
      have hun : listed.getD k true = false := by rw [getD_set_ne true hkj] at hku; exact hku
      exact absurd rfl (inv.notYet hs hlt hun hn)
  cases l with
  | done => rfl
  | rd k l =>
    simp only [ordB2, Bool.and_eq_true] at hB
    exact (key k (by simpa using hB.1.1.2)).elim
  | rf k l =>
    simp only [ordB2, Bool.and_eq_true] at hB
    exact (key k (by simpa using hB.1.1.2)).elim
  | one s k l =>
    simp only [ordB2, Bool.and_eq_true, beq_iff_eq] at hB
    exact (key k (by rw [hB.1.2]; simp)).elim

theorem wpAnyE2_ord {n m : Nat} (hs : sinkOk ops n = true) (hsel : Region.noSelect ops = true) (hQ : ∀ c a d v w, Q (.panic c) (Act.put a d v) w → Q (.panic c) a w) :
    ∀ (l : Plan2) (listed : Array Bool) (a : Act) (w : World), Closed ops listed → ordB2 ops n m l listed = true → (l ≠ .done → listed.getD m false = false → S w) → wpOrd2 P ops S Q l a w → wpAnyE2 P ops n m Q S l.len listed a w
  | .done, listed, a, w, inv, hB, hS, h => ⟨by simpa [ordB2] using hB, h⟩
  | .rd i l, listed, a, w, inv, hB, hS, h => by
    obtain ⟨o, v, ho, hy, hr⟩ := h
    simp only [ordB2, Bool.and_eq_true, decide_eq_true_eq, bne_iff_ne] at hB
    obtain ⟨⟨⟨⟨⟨h0, hm⟩, hw8⟩, h1⟩, h2⟩, h3⟩ := hB
    have hw := hS (by simp)
    have h1' : i ∈ Region.ready .any ops listed := by simpa using h1
    refine wpAnyE2_first (T := S) hs h0 hm ho hsel hQ (fun li w' inv' hu hS' => hS' ?_) l.len listed a w inv (Region.free_spec ho h2) h1' hy hw (wpAnyE2_ord hs hsel hQ l _ _ w (inv.set h1') h3 (fun _ h => hw (by rwa [getD_set_ne false hm] at h)) hr)
    cases hc : li.getD m false
    · rfl
    · rw [waitsB_spec inv' _ _ hw8 hc] at hu; cases hu
  | .rf i l, listed, a, w, inv, hB, hS, h => by
    obtain ⟨o, v, ho, hy, hr⟩ := h
    simp only [ordB2, Bool.and_eq_true, decide_eq_true_eq, bne_iff_ne] at hB
    obtain ⟨⟨⟨⟨h0, hm⟩, h1⟩, h2⟩, h3⟩ := hB
    have hw := hS (by simp)
    have h1' : i ∈ Region.ready .any ops listed := by simpa using h1
    exact wpAnyE2_first (T := fun _ => True) hs h0 hm ho hsel hQ (fun _ _ _ _ _ => trivial) l.len listed a w inv (Region.free_spec ho h2) h1' hy hw (wpAnyE2_ord hs hsel hQ l _ _ w (inv.set h1') h3 (fun _ h => hw (by rwa [getD_set_ne false hm] at h)) hr)
  | .one s i l, listed, a, w, inv, hB, hS, h => by
    obtain ⟨o, ho, h⟩ := h
    simp only [ordB2, Bool.and_eq_true, beq_iff_eq] at hB
    obtain ⟨⟨hB0, hB1⟩, hB2⟩ := hB
    have hir : i ∈ Region.ready .any ops listed := by rw [hB1]; simp
    refine ⟨fun h0 => by (rw [hB1] at h0; cases h0), fun j hj => ?_⟩
    have hji : j = i := by rw [hB1] at hj; simpa using hj
    subst hji
    refine wpOp_mono (fun a' w' h' => ?_) (wpOp_ord ho h)
    have key : j ≠ n → (listed.setIfInBounds j true).getD m false = false → S w' := by
      intro hn hm
      simp only [Bool.or_eq_true, beq_iff_eq] at hB0
      rcases hB0 with ((h8 | h8) | h8) | h8
      · exact h'.1 h8
      · exact absurd h8 hn
      · exfalso
        subst h8
        have hjs : j < listed.size := by
          rw [inv.1]
          exact (Array.getElem?_eq_some_iff.1 ho).1
        simp [hjs] at hm
      · rw [getD_set_true h8] at hm; cases hm
    refine ⟨key, wpAnyE2_ord hs hsel hQ l _ a' w' (inv.set hir) hB2 (fun hl hm => key (fun e => ?_) hm) h'.2⟩
    subst e
    exact hl (ordB2_sub inv hs hB2 hir)

/-- A region that draws its order, in an order of one's own; m: the first store behind which S need not hold; n: the last operation, or their number. -/
theorem wp_region_ord2 {id : Nat} {a : Act} {w : World} (n m : Nat) (l : Plan2) (S : World → Prop) (hm : P.follows .mixedOrders = true) (hsel : Region.noSelect ops = true) (hs : sinkOk ops n = true) (hB : ordB2 ops n m l (Array.replicate ops.size false) = true) (hl : l.len = ops.size)
    (hQ : ∀ c a d v w, Q (.panic c) (Act.put a d v) w → Q (.panic c) a w) (hS : S w.drew) (h0 : S w.drew → wpOrd2 P ops S Q l a w.drew) : (Code.region id ops true).wp P Q a w := by
  have h := h0 hS
  have inv : Closed ops (Array.replicate ops.size false) := ⟨by simp, fun j oj _ hl => (by rw [getD_replicate_false] at hl; cases hl)⟩
  have := wpAnyE2_ord (m := m) hs hsel hQ l _ a w.drew inv hB (fun _ _ => hS) h
  rw [hl] at this
  exact wp_region_any hm (wpAnyE2_any _ _ _ _ this)
theorem wpOrd2_nil {a : Act} {w : World} (h : Q .normal a w) : wpOrd2 P ops S Q .done a w := h
theorem yields_of {i : Nat} {a A : Act} {w : World} {o : Oper} {d : Tmp} {T : World → Prop} (ho : ops[i]? = some o) (hd : o.dst = some d) (hlt : d < a.tmps.size) (hT : T w)
    (h : ∀ w', T w' → ∀ K : Act → Prop, K A → if Region.wanted o (yielded ops a.tmps) then o.rdK P a w' K else K (a.put o.dst undef)) : ∃ v, YieldsIf P ops T o v a ∧ a.put o.dst v = A := by
  by_cases hw : Region.wanted o (yielded ops a.tmps) = true
  · have key : ∀ w', T w' → ∃ v, (execOp a.eval o).run P w' = .ok (.value v) w' ∧ a.put o.dst v = A := by
      intro w' hw'
      have := h w' hw' (fun b => b = A) rfl
      rw [if_pos hw] at this
      unfold Oper.rdK at this
      split at this
      · rename_i v w'' he
        obtain ⟨rfl, h2⟩ := this
        exact ⟨v, he, h2⟩
      · exact this.elim
    obtain ⟨v, h1, h2⟩ := key w hT
    refine ⟨v, .inl ⟨hw, fun w' hw' => ?_⟩, h2⟩
    obtain ⟨v', h3, h4⟩ := key w' hw'
    have : v' = v := by
      rw [← h2, hd] at h4
      exact put_inj hlt h4
    rw [← this]; exact h3
  · have := h w hT (fun b => b = A) rfl
    rw [if_neg hw] at this
    exact ⟨undef, .inr ⟨by simpa using hw, rfl⟩, this⟩
theorem wpOrd2_rd {i : Nat} {l : Plan2} {a A : Act} {w : World} {o : Oper} {d : Tmp} (ho : ops[i]? = some o) (hd : o.dst = some d) (hlt : d < a.tmps.size) (hS : S w)
    (h : ∀ w', S w' → ∀ K : Act → Prop, K A → if Region.wanted o (yielded ops a.tmps) then o.rdK P a w' K else K (a.put o.dst undef)) (hK : wpOrd2 P ops S Q l A w) : wpOrd2 P ops S Q (.rd i l) a w := by
  obtain ⟨v, h1, h2⟩ := yields_of ho hd hlt hS h
  exact ⟨o, v, ho, h1, by rw [h2]; exact hK⟩
theorem wpOrd2_rf {i : Nat} {l : Plan2} {a A : Act} {w : World} {o : Oper} {d : Tmp} (ho : ops[i]? = some o) (hd : o.dst = some d) (hlt : d < a.tmps.size)
    (h : ∀ w', True → ∀ K : Act → Prop, K A → if Region.wanted o (yielded ops a.tmps) then o.rdK P a w' K else K (a.put o.dst undef)) (hK : wpOrd2 P ops S Q l A w) : wpOrd2 P ops S Q (.rf i l) a w := by
  obtain ⟨v, h1, h2⟩ := yields_of (T := fun _ => True) (w := w) ho hd hlt trivial h
  exact ⟨o, v, ho, h1, by rw [h2]; exact hK⟩
theorem wpOrd2_do {s : Bool} {i : Nat} {l : Plan2} {a : Act} {w : World} {o : Oper} (ho : ops[i]? = some o)
    (h : wpList P ops (ordQ Q (fun a' w' => (s = true → S w') ∧ wpOrd2 P ops S Q l a' w')) [o] a w) : wpOrd2 P ops S Q (.one s i l) a w := ⟨o, ho, h⟩
theorem wpOrd2_keep {l : Plan2} {a : Act} {w : World} (hS : S w) (h : S w → wpOrd2 P ops S Q l a w) : wpList P ops (ordQ Q (fun a' w' => (true = true → S w') ∧ wpOrd2 P ops S Q l a' w')) [] a w := ⟨fun _ => hS, h hS⟩
theorem wpOrd2_go {l : Plan2} {a : Act} {w : World} (h : wpOrd2 P ops S Q l a w) : wpList P ops (ordQ Q (fun a' w' => (false = true → S w') ∧ wpOrd2 P ops S Q l a' w')) [] a w := ⟨fun e => (by cases e), h⟩
end
end Go.Proofs.Ytghklbflbodajaa
