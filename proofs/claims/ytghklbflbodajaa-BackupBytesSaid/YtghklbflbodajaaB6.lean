import Derived.Test.YtghklbflbodajaaA1
import Derived.Test.YtghklbflbodajaaA3
import Derived.Test.YtghklbflbodajaaBk4
import Derived.Test.YtghklbflbodajaaB5
namespace Go.Proofs.Ytghklbflbodajaa
open Go.RowKit Go.ChangeMaps Go.MapKept
set_option linter.unusedVariables false
set_option linter.unusedSimpArgs false
set_option linter.unnecessarySimpa false

theorem okk_of {w : World} {v : Value} {l : List Ent} (hv : Ents w v l) (hf : true = entsFew l) : ∀ x ∈ l, x.r.okk := by
  intro x hx
  obtain ⟨i, hi⟩ := List.getElem?_of_mem hx
  obtain ⟨a, c, _, _, _, h⟩ := hv
  obtain ⟨cs, b, off, ⟨v1, v2, _, _, hok, _⟩, _⟩ := h i x hi
  simp only [entsFew, Bool.true_eq, Bool.and_eq_true, List.all_eq_true] at hf
  have h9 := hf.1 x hx
  unfold Rec.few at h9
  simp only [Bool.and_eq_true, decide_eq_true_eq] at h9
  exact ⟨hok, by omega, by omega⟩
theorem few_200 {l : List Ent} (hf : true = entsFew l) : l.length ≤ 200 := by
  simp only [entsFew, Bool.true_eq, Bool.and_eq_true, decide_eq_true_eq] at hf
  exact hf.2

theorem u64_nonneg (x : Int) : 0 ≤ IntKind.u64.wrap x := by
  simp [IntKind.wrap, IntKind.signed, IntKind.bits]
  omega
theorem w64_small (y : Int) (h1 : -9223372036854775808 ≤ y) (h2 : y ≤ 9223372036854775807) : wrap64 y = y := by
  rw [← IntWalk.i64_left, IntKind.wrap_i64]; omega
theorem u64_small (y : Int) (h1 : 0 ≤ y) (h2 : y ≤ 9223372036854775807) : IntKind.u64.wrap y = y := by
  simp [IntKind.wrap, IntKind.signed, IntKind.bits]; omega

theorem uMod (x m : Int) (h0 : 0 < m) (hn : m ≤ 1001) : ∃ M : Nat, wrap64 ((IntKind.u64.wrap x).tmod m) = (M : Int) ∧ (M : Int) < m := by
  have h := u64_nonneg x
  rw [Int.tmod_eq_emod_of_nonneg h]
  have h1 := Int.emod_nonneg (IntKind.u64.wrap x) (show m ≠ 0 by omega)
  have h2 := Int.emod_lt_of_pos (IntKind.u64.wrap x) h0
  rw [w64_small _ (by omega) (by omega)]
  exact ⟨((IntKind.u64.wrap x) % m).toNat, by omega, by omega⟩

theorem rises_pair {l : List Ent} (h : risesB l = true) : l.Pairwise (fun a b => a.at_ < b.at_) := by
  induction l with
  | nil => simp
  | cons x l ih =>
    cases l with
    | nil => simp
    | cons y l =>
      simp only [risesB, Bool.and_eq_true, decide_eq_true_eq] at h
      have h2 := ih h.2
      rw [List.pairwise_cons] at h2 ⊢
      refine ⟨?_, by rw [List.pairwise_cons]; exact h2⟩
      intro z hz
      rcases List.mem_cons.1 hz with rfl | hz
      · exact h.1
      · have := h2.1 z hz; omega
end Go.Proofs.Ytghklbflbodajaa

namespace Go.Proofs.Ytghklbflbodajaa
open Go.RowKit Go.ChangeMaps Go.MapKept
set_option linter.unusedVariables false
set_option linter.unusedSimpArgs false
set_option linter.unnecessarySimpa false

theorem put_ok {p : Pg} {off a : Int} {s : ByteArray} (h : (p.put off s a).2 = 0) : p.right = true ∧ 0 ≤ a ∧ a ≤ 2147483647 ∧ 0 ≤ off ∧ s.size ≤ 220 ∧ off + s.size ≤ 220 ∧ (p.put off s a).1.at_ = a ∧ (p.put off s a).1.right = true := by
  unfold Pg.put at h ⊢
  split at h
  · simp at h
  · rename_i h1
    rw [if_neg h1]
    split at h
    · simp at h
    · rename_i h2
      rw [if_neg h2]
      split at h
      · simp at h
      · rename_i h3
        rw [if_neg h3]
        have h1' : p.right = true := by simpa using h1
        have h4 : p.data.size = 220 := by simp [Pg.right] at h1'; exact h1'.2.2
        refine ⟨h1', by omega, by omega, by omega, by omega, by omega, rfl, ?_⟩
        have h5 : p.data.data.toList.length = 220 := by rw [← Lib.size_eq]; exact h4
        have h6 : s.data.toList.length = s.size := (Lib.size_eq s).symm
        have h7 : (splice p.data.data.toList off.toNat s.data.toList).toArray.size = 220 := by rw [List.size_toArray, splice_len (by omega)]; exact h5
        simp only [Pg.right, Bool.and_eq_true, decide_eq_true_eq]
        exact ⟨by omega, by omega, h7⟩
theorem put_bad {p q : Pg} {off a : Int} {s : ByteArray} (hp : p.right = true) (hq : q.right = true) (h : (p.put off s a).2 ≠ 0) : (q.put off s a).2 ≠ 0 := by
  intro h2
  obtain ⟨_, h3, h4, h5, h6, h7, _⟩ := put_ok h2
  apply h
  unfold Pg.put
  rw [if_neg (by rw [hp]; decide), if_neg (by omega), if_neg (by omega)]
theorem apply_right {p : Pg} (h : p.right = true) (a : Int) (r : Rec) : (p.apply a r).right = true := by
  unfold Pg.apply
  dsimp only
  split
  · split
    · rename_i h2
      exact (put_ok h2).2.2.2.2.2.2.2
    · exact h
  · exact h
theorem apply_self (p : Pg) (a : Int) (r : Rec) : (p.apply a r).apply a r = p.apply a r := by
  by_cases h1 : (r.kind = 1 ∨ r.kind = 2) ∧ p.at_ < a
  · by_cases h2 : (p.put r.off r.after a).2 = 0
    · have e : p.apply a r = (p.put r.off r.after a).1 := by unfold Pg.apply; rw [if_pos h1]; simp [h2]
      rw [e]
      have h3 := (put_ok h2).2.2.2.2.2.2.1
      unfold Pg.apply
      rw [if_neg (by rw [h3]; omega)]
    · have e : p.apply a r = p := by unfold Pg.apply; rw [if_pos h1]; simp [h2]
      rw [e, e]
  · have e : p.apply a r = p := by unfold Pg.apply; rw [if_neg h1]
    rw [e, e]
theorem apply_mono {p : Pg} (hp : p.right = true) {a b : Int} {r s : Rec} (h : p.apply a r = p) : (p.apply b s).apply a r = p.apply b s := by
  by_cases h1 : (s.kind = 1 ∨ s.kind = 2) ∧ p.at_ < b
  · by_cases h2 : (p.put s.off s.after b).2 = 0
    · have e : p.apply b s = (p.put s.off s.after b).1 := by unfold Pg.apply; rw [if_pos h1]; simp [h2]
      obtain ⟨_, _, _, _, _, _, h3, h4⟩ := put_ok h2
      rw [e]
      generalize (p.put s.off s.after b).1 = q at h3 h4
      by_cases h5 : (r.kind = 1 ∨ r.kind = 2) ∧ p.at_ < a
      · by_cases h6 : (p.put r.off r.after a).2 = 0
        · have e2 : p.apply a r = (p.put r.off r.after a).1 := by unfold Pg.apply; rw [if_pos h5]; simp [h6]
          have h7 := (put_ok h6).2.2.2.2.2.2.1
          rw [← e2, h] at h7
          omega
        · have h7 := put_bad hp h4 h6
          unfold Pg.apply
          split
          · simp [h7]
          · rfl
      · unfold Pg.apply
        rw [if_neg (by rw [h3]; omega)]
    · have e : p.apply b s = p := by unfold Pg.apply; rw [if_pos h1]; simp [h2]
      rw [e, h]
  · have e : p.apply b s = p := by unfold Pg.apply; rw [if_neg h1]
    rw [e, h]
/-- A record that changes no page any more. -/
def Dn (f : Int) (PL : List Pg) (x : Ent) : Prop := f ≤ x.at_ → ∀ k (h : k < PL.length), x.r.page = (k : Int) → PL[k].apply x.at_ x.r = PL[k]
theorem Dn.fix {f : Int} {PL : List Pg} {x : Ent} (h : Dn f PL x) : rdStep f PL x = PL := by
  unfold rdStep
  split
  · rename_i h1
    unfold pSet
    split
    · rfl
    · rename_i h2
      have hk : x.r.page.toNat < PL.length := by omega
      have h9 := h h1 _ hk (by omega)
      rw [getD_at PL _ hk]
      show PL.set x.r.page.toNat (PL[x.r.page.toNat].apply x.at_ x.r) = PL
      rw [h9, List.set_getElem_self]
  · rfl
theorem rdStep_get (f : Int) (PL : List Pg) (y : Ent) (k : Nat) (h : k < (rdStep f PL y).length) : ∃ h' : k < PL.length, (rdStep f PL y)[k] = PL[k] ∨ ((rdStep f PL y)[k] = PL[k].apply y.at_ y.r) := by
  have h' : k < PL.length := by rw [rdStep_len] at h; exact h
  refine ⟨h', ?_⟩
  unfold rdStep
  split
  · unfold pSet
    split
    · exact .inl rfl
    · rename_i h2
      have hk : y.r.page.toNat < PL.length := by omega
      rw [List.getElem_set]
      split
      · rename_i h3
        subst h3
        rw [getD_at PL _ hk]
        exact .inr rfl
      · exact .inl rfl
  · exact .inl rfl
theorem rdStep_right {f : Int} {PL : List Pg} (h : ∀ q ∈ PL, q.right = true) (y : Ent) : ∀ q ∈ rdStep f PL y, q.right = true := by
  unfold rdStep; split
  · exact pSet_mem h _ fun p hp => apply_right hp _ _
  · exact h
theorem rdPages_right (l : List Ent) (f : Int) : ∀ {PL : List Pg}, (∀ q ∈ PL, q.right = true) → ∀ q ∈ rdPages l f PL, q.right = true := by
  induction l with
  | nil => intro PL h; exact h
  | cons x l ih => intro PL h; exact ih (rdStep_right h x)
theorem Dn.mono {f : Int} {PL : List Pg} (hr : ∀ q ∈ PL, q.right = true) {x : Ent} (h : Dn f PL x) (y : Ent) : Dn f (rdStep f PL y) x := by
  intro hf k hk hp
  obtain ⟨h', h1 | h1⟩ := rdStep_get f PL y k hk
  · rw [h1]; exact h hf k h' hp
  · rw [h1]; exact apply_mono (hr _ (List.getElem_mem _)) (h hf k h' hp)
theorem Dn.self (f : Int) (PL : List Pg) (x : Ent) : Dn f (rdStep f PL x) x := by
  intro hf k hk hp
  have h' : k < PL.length := by rw [rdStep_len] at hk; exact hk
  have e : (rdStep f PL x)[k] = PL[k].apply x.at_ x.r := by
    unfold rdStep pSet
    simp only [if_pos hf]
    have hn : ¬ (x.r.page < 0 ∨ (PL.length : Int) ≤ x.r.page) := by omega
    simp only [if_neg hn]
    rw [List.getElem_set, if_pos (by omega), getD_at PL _ (by omega)]
    simp [hp]
  rw [e, apply_self]
theorem Dn.all (f : Int) {x : Ent} : ∀ (l : List Ent) {PL : List Pg}, (∀ q ∈ PL, q.right = true) → Dn f PL x → Dn f (rdPages l f PL) x
  | [], _, _, h => h
  | y :: l, PL, hr, h => Dn.all f l (rdStep_right hr y) (h.mono hr y)
theorem rdPages_done (f : Int) : ∀ (l : List Ent) {PL : List Pg}, (∀ q ∈ PL, q.right = true) → ∀ x ∈ l, Dn f (rdPages l f PL) x
  | [], _, _, x, hx => by cases hx
  | y :: l, PL, hr, x, hx => by
    rcases List.mem_cons.1 hx with rfl | hx
    · exact Dn.all f l (rdStep_right hr x) (Dn.self f PL x)
    · exact rdPages_done f l (rdStep_right hr y) x hx
theorem rdPages_again (l : List Ent) (f : Int) {PL : List Pg} (hr : ∀ q ∈ PL, q.right = true) : rdPages l f (rdPages l f PL) = rdPages l f PL := by
  have h := rdPages_done f l hr
  generalize rdPages l f PL = R at h
  have key : ∀ (m : List Ent), (∀ x ∈ m, Dn f R x) → rdPages m f R = R := by
    intro m
    induction m with
    | nil => intro _; rfl
    | cons x m ih =>
      intro hm
      have h1 := (hm x (List.mem_cons_self ..)).fix
      show rdPages m f (rdStep f R x) = R
      rw [h1]
      exact ih fun y hy => hm y (List.mem_cons_of_mem _ hy)
  exact key l h
/-- What copies are when they were taken. -/
def tks (L : List Tk) (l : List Cpy) : List Tk := l.foldl (fun L c => (bkTake L c.n c.p c.at_).1) L
theorem tks_snoc {L : List Tk} {l : List Cpy} {k : Nat} (h : k < l.length) : tks L (l.take (k + 1)) = (bkTake (tks L (l.take k)) l[k].n l[k].p l[k].at_).1 := by
  unfold tks; rw [take_snoc' h, List.foldl_append]; rfl
theorem bkTake_len (L : List Tk) (n : Int) (p : Pg) (a : Int) : (bkTake L n p a).1.length = L.length := by
  unfold bkTake
  split
  · rfl
  · split
    · rfl
    · split
      · rfl
      · simp
theorem tks_len (l : List Cpy) : ∀ L, (tks L l).length = L.length := by
  induction l with
  | nil => intro L; rfl
  | cons c l ih => intro L; exact (ih _).trans (bkTake_len _ _ _ _)
/-- What was rolled, as copies. -/
def bkOf (PL : List Pg) (a : Int) : List Tk := PL.map fun q => ⟨true, q, a⟩
theorem bkOf_from {PL : List Pg} (h : 1 ≤ PL.length) {a : Int} (ha : 0 ≤ a) : bkFrom (bkOf PL a) = a := by
  have key : ∀ (M : List Pg), (bkOf M a).foldl (fun m x => if x.has && (decide (m < 0) || decide (x.at_ < m)) then x.at_ else m) a = a := by
    intro M
    induction M with
    | nil => rfl
    | cons q M ih =>
      simp only [bkOf, List.map_cons, List.foldl_cons] at ih ⊢
      have e : (if (true && (decide (a < 0) || decide (a < a))) = true then a else a) = a := by split <;> rfl
      rw [e]
      exact ih
  match PL, h with
  | q :: M, _ =>
    unfold bkFrom bkLeast
    have e : (bkOf (q :: M) a).foldl (fun m x => if x.has && (decide (m < 0) || decide (x.at_ < m)) then x.at_ else m) (-1) = (bkOf M a).foldl (fun m x => if x.has && (decide (m < 0) || decide (x.at_ < m)) then x.at_ else m) a := rfl
    rw [e, key M]
    omega
theorem bkOf_roll {L : List Tk} {l : List Ent} {PL : List Pg} (h : (PL, 0) = bkRoll L l) (hL : tkOk L) (h1 : 1 ≤ L.length) : bkRoll (bkOf PL (bkFrom L)) l = (PL, 0) ∧ (∀ q ∈ PL, q.right = true) ∧ PL.length = L.length := by
  unfold bkRoll at h
  split at h
  · rename_i hw
    split at h
    · rename_i hr
      have e : PL = rdPages l (bkFrom L) (bkPgs L) := (Prod.mk.inj h).1
      have hp : ∀ q ∈ bkPgs L, q.right = true := by
        intro q hq
        obtain ⟨x, hx, rfl⟩ := List.mem_map.1 hq
        have : x.has = true := by
          unfold bkWhole at hw
          rw [List.all_eq_true] at hw
          exact hw x hx
        exact ((hL x hx).1 this).1
      have hlen : PL.length = L.length := by rw [e, rdPages_len]; simp [bkPgs]
      refine ⟨?_, by rw [e]; exact rdPages_right l _ hp, hlen⟩
      have hw2 : bkWhole (bkOf PL (bkFrom L)) = true := by
        unfold bkWhole bkOf
        rw [List.all_eq_true]
        intro x hx
        obtain ⟨q, _, rfl⟩ := List.mem_map.1 hx
        rfl
      have hp2 : bkPgs (bkOf PL (bkFrom L)) = PL := by unfold bkPgs bkOf; rw [List.map_map]; exact List.map_id _
      unfold bkRoll
      rw [if_pos hw2, if_pos hr, bkOf_from (by omega) (bkFrom_fits hL).1, hp2, e, rdPages_again l _ hp]
    · have := (Prod.mk.inj h).2; omega
  · have := (Prod.mk.inj h).2; omega
end Go.Proofs.Ytghklbflbodajaa

namespace Go.Proofs.Ytghklbflbodajaa
open Go.RowKit Go.ChangeMaps Go.MapKept
set_option linter.unusedVariables false
set_option linter.unusedSimpArgs false
set_option linter.unnecessarySimpa false

theorem PgB.rd {B : Nat} {w : World} {v : Value} {l : List Pg} (h : PgB B w v l) (hl : l.length ≤ maxLen) : Rd w 2 encP v l := by
  rcases h with ⟨rfl, rfl⟩ | ⟨g, _, rfl, hg⟩
  · exact ⟨none, 0, rfl, Nat.le_refl _, by simp [maxLen], fun i x hi => by simp at hi⟩
  · exact Rd.of_blk (enc := encP) (size := 2) (fun _ => rfl) hg (by simp [pgsC]) hl
theorem mix_set {α : Type} {A B : List α} (h : A.length = B.length) {k : Nat} (hk : k < A.length) : (A.take k ++ B.drop k).set k A[k] = A.take (k + 1) ++ B.drop (k + 1) := by
  apply List.ext_getElem
  · simp; omega
  · intro i h1 h2
    rw [List.getElem_set]
    by_cases hi : k = i
    · subst hi
      rw [if_pos rfl, List.getElem_append_left (by simp; omega)]
      simp
    · rw [if_neg hi]
      by_cases hlt : i < k
      · rw [List.getElem_append_left (by simp; omega), List.getElem_append_left (by simp; omega)]
        simp
      · rw [List.getElem_append_right (by simp; omega), List.getElem_append_right (by simp; omega)]
        simp
        congr 1
        omega
/-- Copies, taken one by one. -/
def agMix (PL : List Pg) (a : Int) (k : Nat) : List Tk := (bkOf PL a).take k ++ (bkNew PL.length).drop k
theorem agMix_zero (PL : List Pg) (a : Int) : agMix PL a 0 = bkNew PL.length := by simp [agMix]
theorem agMix_all (PL : List Pg) (a : Int) : agMix PL a PL.length = bkOf PL a := by
  unfold agMix
  have h1 : (bkOf PL a).length = PL.length := by simp [bkOf]
  have h2 : (bkNew PL.length).length = PL.length := by simp [bkNew]
  rw [List.take_of_length_le (by omega), List.drop_of_length_le (by omega), List.append_nil]
theorem agMix_take {PL : List Pg} {a : Int} {k : Nat} (hk : k < PL.length) (hr : ∀ q ∈ PL, q.right = true) (ha : 0 ≤ a ∧ a ≤ 2147483647) : bkTake (agMix PL a k) k PL[k] a = (agMix PL a (k + 1), 0) := by
  have h1 : (bkOf PL a).length = PL.length := by simp [bkOf]
  have h2 : (bkNew PL.length).length = PL.length := by simp [bkNew]
  have h3 : (agMix PL a k).length = PL.length := by unfold agMix; rw [List.length_append, List.length_take, List.length_drop]; omega
  have h4 := hr PL[k] (List.getElem_mem _)
  unfold bkTake
  rw [if_neg (by omega), if_neg (by rw [h4]; decide), if_neg (by omega)]
  have h5 : (⟨true, PL[k], a⟩ : Tk) = (bkOf PL a)[k]'(by omega) := by simp [bkOf]
  have h6 : (k : Int).toNat = k := by omega
  rw [h6, h5]
  unfold agMix
  rw [mix_set (by omega) (by omega)]
end Go.Proofs.Ytghklbflbodajaa
