import Derived.Test.YtlhblkpdfdpiaaaReg
import Derived.OrdersHeld
import Derived.StillTactics
import Derived.StillTail
namespace Go.Proofs.Ytlhblkpdfdpiaaa
open Go.RowKit Go.ChangeMaps Go.MapKept
set_option linter.unusedVariables false
set_option linter.unusedSimpArgs false
set_option linter.unnecessarySimpa false

section
variable {P : Program} {ops : Array Oper} {Q : Exit → Act → World → Prop} {S : World → Prop}

/-- K at a normal end, Q at others. -/
def ordQ (Q : Exit → Act → World → Prop) (K : Act → World → Prop) : Exit → Act → World → Prop
  | .normal, a, w => K a w
  | e, a, w => Q e a w

/-- An order: reads, and others, of which two may come up at once. -/
inductive Plan where
  | done
  | rd (i : Nat) (p : Plan)
  | one (i : Nat) (p : Plan)
  | two (i : Nat) (p : Plan) (j : Nat) (q : Plan)
def Plan.len : Plan → Nat
  | .done => 0
  | .rd _ p => p.len + 1
  | .one _ p => p.len + 1
  | .two _ p _ _ => p.len + 1

/-- A region's operations in an order of one's own: reads (false), which any world of S answers alike, and others (true), behind which S holds. -/
def wpOrd (P : Program) (ops : Array Oper) (n : Nat) (S : World → Prop) (Q : Exit → Act → World → Prop) : Plan → Act → World → Prop
  | .done, a, w => Q .normal a w
  | .rd i l, a, w => ∃ o v, ops[i]? = some o ∧ YieldsIf P ops S o v a ∧ wpOrd P ops n S Q l (a.put o.dst v) w
  | .one i l, a, w => ∃ o, ops[i]? = some o ∧ wpList P ops (ordQ Q (fun a' w' => (i ≠ n → S w') ∧ wpOrd P ops n S Q l a' w')) [o] a w
  | .two i l j m, a, w => (∃ o, ops[i]? = some o ∧ wpList P ops (ordQ Q (fun a' w' => (i ≠ n → S w') ∧ wpOrd P ops n S Q l a' w')) [o] a w) ∧
      (∃ o, ops[j]? = some o ∧ wpList P ops (ordQ Q (fun a' w' => (j ≠ n → S w') ∧ wpOrd P ops n S Q m a' w')) [o] a w)

def ordB (ops : Array Oper) (n : Nat) : Plan → Array Bool → Bool
  | .done, listed => (Region.ready .any ops listed).isEmpty
  | .rd i l, listed => (decide (i < n)) && (Region.ready .any ops listed).contains i && Region.free .any ops listed i && ordB ops n l (listed.setIfInBounds i true)
  | .one i l, listed => (Region.ready .any ops listed == [i]) && ordB ops n l (listed.setIfInBounds i true)
  | .two i l j m, listed => (Region.ready .any ops listed == [i, j]) && (l.len == m.len) && ordB ops n l (listed.setIfInBounds i true) && ordB ops n m (listed.setIfInBounds j true)

theorem wp_ordQ {o : Oper} {a : Act} {w : World} {K : Act → World → Prop} (h : o.wp P a w K (ordQ Q K)) : o.wp P a w K Q := by
  unfold Oper.wp at *
  generalize (execOp a.eval o).run P w = r at *
  cases r with
  | ok n w' =>
    cases n <;> simp only [Oper.upon] at h ⊢ <;> first
      | exact h
      | exact Calls.mono h (fun e w'' he => by cases e <;> exact he)
  | halt x w' => cases x <;> simp only [Oper.upon] at h ⊢ <;> exact h

/-- Whatever order is picked; S holds behind each operation but n. -/
def wpAnyE (P : Program) (ops : Array Oper) (n : Nat) (Q : Exit → Act → World → Prop) (S : World → Prop) : Nat → Array Bool → Act → World → Prop
  | 0, listed, a, w => Region.ready .any ops listed = [] ∧ Q .normal a w
  | f + 1, listed, a, w => (Region.ready .any ops listed = [] → Q .normal a w) ∧
    ∀ i ∈ Region.ready .any ops listed, wpOp P ops Q i (fun a' w' => (i ≠ n → S w') ∧ wpAnyE P ops n Q S f (listed.setIfInBounds i true) a' w') a w
theorem wpAnyE_any {n : Nat} : ∀ (f : Nat) (listed : Array Bool) (a : Act) (w : World), wpAnyE P ops n Q S f listed a w → wpAny P .any ops Q f listed a w
  | 0, _, _, _, h => h
  | f + 1, _, _, _, h => ⟨h.1, fun i hi => wpOp_mono (fun a' w' h' => wpAnyE_any f _ a' w' h'.2) (h.2 i hi)⟩

/-- What may be left out of S's keeping: nothing, or the last one, which waits for all others. -/
def sinkOk (ops : Array Oper) (n : Nat) : Bool := n == ops.size || (n + 1 == ops.size && Region.sinkB .any ops n && Region.chainB .any ops n)
def Closed (ops : Array Oper) (listed : Array Bool) : Prop :=
  listed.size = ops.size ∧ ∀ j oj, ops[j]? = some oj → listed.getD j false = true → ∀ e ∈ oj.after, Region.binds .any e = true → listed.getD e.on false = true
theorem Closed.set {i : Nat} {listed : Array Bool} (inv : Closed ops listed) (hi : i ∈ Region.ready .any ops listed) : Closed ops (listed.setIfInBounds i true) := by
  obtain ⟨_, oi, hoi, hall⟩ := mem_ready.1 hi
  refine ⟨by simp [inv.1], fun j oj hj hl e he hb => ?_⟩
  by_cases hij : i = j
  · subst hij
    have : oj = oi := Option.some.inj (hj.symm.trans hoi)
    subst this
    exact getD_set_true (hall e he hb)
  · rw [getD_set_ne false hij] at hl
    exact getD_set_true (inv.2 j oj hj hl e he hb)
/-- While another is to come, n does not come. -/
theorem Closed.notYet {n i j : Nat} {listed : Array Bool} (inv : Closed ops listed) (hs : sinkOk ops n = true) (hi : i < n) (hun : listed.getD i true = false) (hj : j ∈ Region.ready .any ops listed) : j ≠ n := by
  rintro rfl
  obtain ⟨hjun, oj, hoj, _⟩ := mem_ready.1 hj
  have hlt : j < ops.size := (Array.getElem?_eq_some_iff.1 hoj).1
  unfold sinkOk at hs
  simp only [Bool.or_eq_true, Bool.and_eq_true, beq_iff_eq] at hs
  rcases hs with hs | ⟨⟨h1, h2⟩, h3⟩
  · omega
  · have hinv : HeadInv .any ops j listed := ⟨inv.1, inv.2, fun t ht ht' => by
      have : t = j := by omega
      rw [this]; exact hjun⟩
    exact tail_waits h2 h3 hlt hinv _ i rfl hi hun j (Nat.le_refl _) hj

/-- A read may be taken first. -/
theorem wpAnyE_first {n i : Nat} {oi : Oper} {v : Value} (hs : sinkOk ops n = true) (hin : i < n) (hi : ops[i]? = some oi) (hsel : Region.noSelect ops = true) (hQ : ∀ c a d v w, Q (.panic c) (Act.put a d v) w → Q (.panic c) a w) :
    ∀ (f : Nat) (listed : Array Bool) (a : Act) (w : World), Closed ops listed → (∀ j oj, ops[j]? = some oj → j ≠ i → listed.getD j true = false → (∀ e ∈ oj.after, Region.binds .any e = true → e.on ≠ i) → oi.apart ops oj = true) →
      i ∈ Region.ready .any ops listed → YieldsIf P ops S oi v a → S w → wpAnyE P ops n Q S f (listed.setIfInBounds i true) (a.put oi.dst v) w → wpAnyE P ops n Q S (f + 1) listed a w := by
  intro f
  induction f with
  | zero =>
    intro listed a w inv _ hr hy hS H
    refine ⟨fun h => (by rw [h] at hr; cases hr), fun j hj => ?_⟩
    by_cases hji : j = i
    · subst hji
      exact hy.wpOp hi hS ⟨fun _ => hS, H⟩
    · have := ready_mono hj hji
      rw [H.1] at this
      cases this
  | succ f ih =>
    intro listed a w inv hfree hr hy hS H
    refine ⟨fun h => (by rw [h] at hr; cases hr), fun j hj => ?_⟩
    by_cases hji : j = i
    · subst hji
      exact hy.wpOp hi hS ⟨fun _ => hS, H⟩
    · have hun := (mem_ready.1 hr).1
      have hjn : j ≠ n := inv.notYet hs hin hun hj
      have h1 := H.2 j (ready_mono hj hji)
      obtain ⟨hjun, oj, hoj, hall⟩ := mem_ready.1 hj
      have hnot : ∀ e ∈ oj.after, Region.binds .any e = true → e.on ≠ i := fun e he hb heq => by
        have h2 := hall e he hb
        rw [heq, getD_both hun] at h2
        cases h2
      have h2 := wpOp_putIf hoj (hfree j oj hoj hji hjun hnot) (fun cs b => Region.noSelect_spec hsel i oi cs b hi) (fun cs b => Region.noSelect_spec hsel j oj cs b hoj) (fun c a w h => hQ c a _ _ w h) hy h1
      have hri : i ∈ Region.ready .any ops (listed.setIfInBounds j true) := ready_mono hr (Ne.symm hji)
      have hfree' : ∀ k ok, ops[k]? = some ok → k ≠ i → (listed.setIfInBounds j true).getD k true = false → (∀ e ∈ ok.after, Region.binds .any e = true → e.on ≠ i) → oi.apart ops ok = true := fun k ok hk hki hun hno => by
        refine hfree k ok hk hki ?_ hno
        by_cases hjk : j = k
        · subst hjk; exact hjun
        · rw [getD_set_ne true hjk] at hun; exact hun
      refine wpOp_mono (fun a' w' h3 => ?_) h2
      have hSw : S w' := h3.2.1 hjn
      refine ⟨fun _ => hSw, ih (listed.setIfInBounds j true) a' w' (inv.set hj) hfree' hri h3.1 hSw ?_⟩
      rw [Array.setIfInBounds_comm _ _ hji]
      exact h3.2.2

theorem ordB_sub {n i : Nat} {l : Plan} {listed : Array Bool} (inv : Closed ops listed) (hs : sinkOk ops n = true) (hB : ordB ops n l (listed.setIfInBounds n true) = true) (hn : n ∈ Region.ready .any ops listed) : l = .done := by
  have hlt : n < ops.size := by obtain ⟨_, o, ho, _⟩ := mem_ready.1 hn; exact (Array.getElem?_eq_some_iff.1 ho).1
  have key : ∀ k, k ∈ Region.ready .any ops (listed.setIfInBounds n true) → False := by
    intro k hk
    obtain ⟨hku, ok, hok, _⟩ := mem_ready.1 hk
    have hks : k < ops.size := (Array.getElem?_eq_some_iff.1 hok).1
    by_cases hkj : n = k
    · subst hkj
      have hjs : n < listed.size := by rw [inv.1]; exact hks
      simp [hjs] at hku
    · have hss := hs
      unfold sinkOk at hss
      simp only [Bool.or_eq_true, Bool.and_eq_true, beq_iff_eq] at hss
      have hlt : k < n := by
        rcases hss with h9 | ⟨⟨h9, _⟩, _⟩ <;> omega
      have hun : listed.getD k true = false := by rw [getD_set_ne true hkj] at hku; exact hku
      exact absurd rfl (inv.notYet hs hlt hun hn)
  cases l with
  | done => rfl
  | rd k l =>
    simp only [ordB, Bool.and_eq_true] at hB
    exact (key k (by simpa using hB.1.1.2)).elim
  | one k l =>
    simp only [ordB, Bool.and_eq_true, beq_iff_eq] at hB
    exact (key k (by rw [hB.1]; simp)).elim
  | two k l j m =>
    simp only [ordB, Bool.and_eq_true, beq_iff_eq] at hB
    exact (key k (by rw [hB.1.1.1]; simp)).elim

theorem wpOp_ord {i : Nat} {o : Oper} {K : Act → World → Prop} {a : Act} {w : World} (ho : ops[i]? = some o) (h : wpList P ops (ordQ Q K) [o] a w) : wpOp P ops Q i K a w := by
  unfold wpOp
  simp only [ho]
  unfold wpList at h
  split at h
  · rename_i hw
    rw [if_pos hw]
    rcases h with h | ⟨h1, b, u, h3⟩
    · exact .inl (wp_ordQ h)
    · exact .inr ⟨h1, b, u, h3⟩
  · rename_i hw
    rw [if_neg hw]
    exact h

theorem wpAnyE_ord {n : Nat} (hs : sinkOk ops n = true) (hsel : Region.noSelect ops = true) (hQ : ∀ c a d v w, Q (.panic c) (Act.put a d v) w → Q (.panic c) a w) :
    ∀ (l : Plan) (listed : Array Bool) (a : Act) (w : World), Closed ops listed → ordB ops n l listed = true → (l ≠ .done → S w) → wpOrd P ops n S Q l a w → wpAnyE P ops n Q S l.len listed a w
  | .done, listed, a, w, inv, hB, hS, h => ⟨by simpa [ordB] using hB, h⟩
  | .rd i l, listed, a, w, inv, hB, hS, h => by
    obtain ⟨o, v, ho, hy, hr⟩ := h
    simp only [ordB, Bool.and_eq_true, decide_eq_true_eq] at hB
    obtain ⟨⟨⟨h0, h1⟩, h2⟩, h3⟩ := hB
    have hw : S w := hS (by simp)
    have h1' : i ∈ Region.ready .any ops listed := by simpa using h1
    exact wpAnyE_first hs h0 ho hsel hQ l.len listed a w inv (Region.free_spec ho h2) h1' hy hw (wpAnyE_ord hs hsel hQ l _ _ w (inv.set h1') h3 (fun _ => hw) hr)
  | .one i l, listed, a, w, inv, hB, hS, h => by
    obtain ⟨o, ho, h⟩ := h
    simp only [ordB, Bool.and_eq_true, beq_iff_eq] at hB
    have hir : i ∈ Region.ready .any ops listed := by rw [hB.1]; simp
    refine ⟨fun h0 => by (rw [hB.1] at h0; cases h0), fun j hj => ?_⟩
    have hji : j = i := by rw [hB.1] at hj; simpa using hj
    subst hji
    refine wpOp_mono (fun a' w' h' => ⟨h'.1, wpAnyE_ord hs hsel hQ l _ a' w' (inv.set hir) hB.2 (fun hl => h'.1 fun e => ?_) h'.2⟩) (wpOp_ord ho h)
    subst e
    exact hl (ordB_sub (i := j) inv hs hB.2 hir)
  | .two i l j m, listed, a, w, inv, hB, hS, h => by
    obtain ⟨⟨o, ho, h⟩, ⟨o2, ho2, h2⟩⟩ := h
    simp only [ordB, Bool.and_eq_true, beq_iff_eq] at hB
    obtain ⟨⟨⟨hB0, hBl⟩, hB1⟩, hB2⟩ := hB
    have hir : i ∈ Region.ready .any ops listed := by rw [hB0]; simp
    have hjr : j ∈ Region.ready .any ops listed := by rw [hB0]; simp
    refine ⟨fun h0 => by (rw [hB0] at h0; cases h0), fun k hk => ?_⟩
    have hk2 : k = i ∨ k = j := by rw [hB0] at hk; simpa using hk
    rcases hk2 with rfl | rfl
    · refine wpOp_mono (fun a' w' h' => ⟨h'.1, wpAnyE_ord hs hsel hQ l _ a' w' (inv.set hir) hB1 (fun hl => h'.1 fun e => ?_) h'.2⟩) (wpOp_ord ho h)
      subst e
      exact hl (ordB_sub (i := k) inv hs hB1 hir)
    · rw [hBl]
      refine wpOp_mono (fun a' w' h' => ⟨h'.1, wpAnyE_ord hs hsel hQ m _ a' w' (inv.set hjr) hB2 (fun hl => h'.1 fun e => ?_) h'.2⟩) (wpOp_ord ho2 h2)
      subst e
      exact hl (ordB_sub (i := k) inv hs hB2 hjr)

/-- A region that draws its order, in an order of one's own; n: the operation behind which S need not hold (the last one), or their number. -/
theorem wp_region_ord {id : Nat} {a : Act} {w : World} (n : Nat) (l : Plan) (S : World → Prop) (hm : P.follows .mixedOrders = true) (hsel : Region.noSelect ops = true) (hs : sinkOk ops n = true) (hB : ordB ops n l (Array.replicate ops.size false) = true) (hl : l.len = ops.size)
    (hQ : ∀ c a d v w, Q (.panic c) (Act.put a d v) w → Q (.panic c) a w) (hS : S w.drew) (h0 : S w.drew → wpOrd P ops n S Q l a w.drew) : (Code.region id ops true).wp P Q a w := by
  have h := h0 hS
  have inv : Closed ops (Array.replicate ops.size false) := ⟨by simp, fun j oj _ hl => (by rw [getD_replicate_false] at hl; cases hl)⟩
  have := wpAnyE_ord hs hsel hQ l _ a w.drew inv hB (fun _ => hS) h
  rw [hl] at this
  exact wp_region_any hm (wpAnyE_any _ _ _ _ this)

theorem wpOrd_nil {n : Nat} {a : Act} {w : World} (h : Q .normal a w) : wpOrd P ops n S Q .done a w := h

def _root_.Go.Oper.rdK (P : Program) (o : Oper) (a : Act) (w : World) (K : Act → Prop) : Prop :=
  match (execOp a.eval o).run P w with
  | .ok (.value v) w' => w' = w ∧ K (a.put o.dst v)
  | _ => False

theorem put_inj {a : Act} {d : Tmp} {v v' : Value} (hd : d < a.tmps.size) (h : a.put (some d) v = a.put (some d) v') : v = v' := by
  have := congrArg (fun b : Act => b.tmps[d]?) h
  simpa [Act.put, hd] using this

/-- A read. -/
theorem wpOrd_rd {n i : Nat} {l : Plan} {a A : Act} {w : World} {o : Oper} {d : Tmp} (ho : ops[i]? = some o) (hd : o.dst = some d) (hlt : d < a.tmps.size) (hS : S w)
    (h : ∀ w', S w' → ∀ K : Act → Prop, K A → if Region.wanted o (yielded ops a.tmps) then o.rdK P a w' K else K (a.put o.dst undef)) (hK : wpOrd P ops n S Q l A w) : wpOrd P ops n S Q (.rd i l) a w := by
  by_cases hw : Region.wanted o (yielded ops a.tmps) = true
  · have key : ∀ w', S w' → ∃ v, (execOp a.eval o).run P w' = .ok (.value v) w' ∧ a.put o.dst v = A := by
      intro w' hw'
      have := h w' hw' (fun b => b = A) rfl
      rw [if_pos hw] at this
      unfold Oper.rdK at this
      split at this
      · rename_i v w'' he
        obtain ⟨rfl, h2⟩ := this
        exact ⟨v, he, h2⟩
      · exact this.elim
    obtain ⟨v, h1, h2⟩ := key w hS
    refine ⟨o, v, ho, .inl ⟨hw, fun w' hw' => ?_⟩, by rw [h2]; exact hK⟩
    obtain ⟨v', h3, h4⟩ := key w' hw'
    have : v' = v := by
      rw [← h2, hd] at h4
      exact put_inj hlt h4
    rw [← this]; exact h3
  · have := h w hS (fun b => b = A) rfl
    rw [if_neg hw] at this
    exact ⟨o, undef, ho, .inr ⟨by simpa using hw, rfl⟩, by rw [this]; exact hK⟩

/-- What is no read. -/
theorem wpOrd_do {n i : Nat} {l : Plan} {a : Act} {w : World} {o : Oper} (ho : ops[i]? = some o)
    (h : wpList P ops (ordQ Q (fun a' w' => (i ≠ n → S w') ∧ wpOrd P ops n S Q l a' w')) [o] a w) : wpOrd P ops n S Q (.one i l) a w := ⟨o, ho, h⟩
theorem wpOrd_two {n i j : Nat} {l m : Plan} {a : Act} {w : World} {o o2 : Oper} (ho : ops[i]? = some o) (ho2 : ops[j]? = some o2)
    (h : wpList P ops (ordQ Q (fun a' w' => (i ≠ n → S w') ∧ wpOrd P ops n S Q l a' w')) [o] a w) (h2 : wpList P ops (ordQ Q (fun a' w' => (j ≠ n → S w') ∧ wpOrd P ops n S Q m a' w')) [o2] a w) : wpOrd P ops n S Q (.two i l j m) a w := ⟨⟨o, ho, h⟩, ⟨o2, ho2, h2⟩⟩
theorem wpOrd_done {n i : Nat} {l : Plan} {a : Act} {w : World} (hS : S w) (h : S w → wpOrd P ops n S Q l a w) : wpList P ops (ordQ Q (fun a' w' => (i ≠ n → S w') ∧ wpOrd P ops n S Q l a' w')) [] a w := ⟨fun _ => hS, h hS⟩
theorem wpOrd_last {n : Nat} {l : Plan} {a : Act} {w : World} (h : wpOrd P ops n S Q l a w) : wpList P ops (ordQ Q (fun a' w' => (n ≠ n → S w') ∧ wpOrd P ops n S Q l a' w')) [] a w := ⟨fun e => absurd rfl e, h⟩
end

/-- What may be read in w reads alike in w'. -/
def Same (W : World) (w' : World) : Prop := ∀ p, (W.cell? p).isSome = true → w'.cell? p = W.cell? p
theorem Same.of {W w' : World} (h : Chg NoB W w') : Same W w' := sameC h
end Go.Proofs.Ytlhblkpdfdpiaaa
