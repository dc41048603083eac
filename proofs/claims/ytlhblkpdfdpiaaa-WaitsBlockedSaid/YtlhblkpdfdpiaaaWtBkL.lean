import Derived.Test.YtlhblkpdfdpiaaaWtAw
namespace Go.Proofs.Ytlhblkpdfdpiaaa.Wt
open Go.RowKit Go.ChangeMaps Go.MapKept Go.Shelf
set_option linter.unusedVariables false
set_option linter.unusedSimpArgs false
set_option linter.unnecessarySimpa false

def tkT (l : List Trip) : LTab := l.foldl (fun t x => lkTake t x.txn x.page x.mode) lkEmpty
def tkL (l : List Trip) : List RRow := l.foldl (fun t x => rfTake t x.txn x.page x.mode) []
theorem tkT_snoc (l : List Trip) (x : Trip) : tkT (l ++ [x]) = lkTake (tkT l) x.txn x.page x.mode := by simp [tkT, List.foldl_append]
theorem tkL_snoc (l : List Trip) (x : Trip) : tkL (l ++ [x]) = rfTake (tkL l) x.txn x.page x.mode := by simp [tkL, List.foldl_append]
theorem snocInd {α : Type} {P : List α → Prop} (h0 : P []) (hs : ∀ l x, P l → P (l ++ [x])) (l : List α) : P l := by
  have : ∀ (n : Nat) (l : List α), l.length = n → P l := by
    intro n
    induction n with
    | zero => intro l hl; rw [List.eq_nil_of_length_eq_zero hl]; exact h0
    | succ n ih =>
      intro l hl
      have hne : l ≠ [] := by intro e; rw [e] at hl; simp at hl
      rw [← List.dropLast_concat_getLast hne]
      exact hs _ _ (ih _ (by simp [hl]))
  exact this _ l rfl
theorem rel_tk (l : List Trip) : RelLR (tkT l) (tkL l) := by
  induction l using snocInd with
  | h0 => exact RelLR.empty
  | hs l x ih => rw [tkT_snoc, tkL_snoc]; exact ih.take _ _ _
theorem rfUp_len (txn page mode : Int) (L : List RRow) : (rfUp txn page mode L).length ≤ L.length + 1 := by
  induction L with
  | nil => simp [rfUp]
  | cons x r ih => unfold rfUp; split <;> simp; omega
theorem rfTake_len (txn page mode : Int) (L : List RRow) : (rfTake L txn page mode).length ≤ L.length + 1 := by
  unfold rfTake
  split
  · exact rfUp_len _ _ _ _
  · omega
theorem tkL_len (l : List Trip) : (tkL l).length ≤ l.length := by
  induction l using snocInd with
  | h0 => simp [tkL]
  | hs l x ih => rw [tkL_snoc]; have := rfTake_len x.txn x.page x.mode (tkL l); simp; omega
theorem rfUp_txn {txn page mode : Int} {L : List RRow} : ∀ y ∈ rfUp txn page mode L, y.txn = txn ∨ ∃ z ∈ L, z.txn = y.txn := by
  induction L with
  | nil => intro y hy; simp [rfUp] at hy; subst hy; exact .inl rfl
  | cons x r ih =>
    intro y hy
    unfold rfUp at hy
    split at hy
    · rcases List.mem_cons.1 hy with rfl | hy
      · exact .inr ⟨x, by simp, rfl⟩
      · exact .inr ⟨y, by simp [hy], rfl⟩
    · rcases List.mem_cons.1 hy with rfl | hy
      · exact .inr ⟨y, by simp, rfl⟩
      · rcases ih y hy with h | ⟨z, hz, e⟩
        · exact .inl h
        · exact .inr ⟨z, by simp [hz], e⟩
theorem tkL_txn (l : List Trip) : ∀ y ∈ tkL l, y.txn ∈ l.map (·.txn) := by
  induction l using snocInd with
  | h0 => intro y hy; simp [tkL] at hy
  | hs l x ih =>
    rw [tkL_snoc]
    intro y hy
    unfold rfTake at hy
    split at hy
    · rcases rfUp_txn y hy with h | ⟨z, hz, e⟩
      · simp [h]
      · rw [← e]; have := ih z hz; simp only [List.map_append, List.mem_append]; exact .inl this
    · have := ih y hy; simp only [List.map_append, List.mem_append]; exact .inl this

theorem bstep_ne {F : Int → Bool} {acc : List Int} {n : Int} : bstep F acc n ≠ [] ↔ acc ≠ [] ∨ F n = true := by
  unfold bstep
  split
  · rename_i h; simp at h; simp [h.1]
  · rename_i h
    constructor
    · exact .inl
    · rintro (h2 | h2)
      · exact h2
      · simp [h2] at h
        exact fun e => by simp [e] at h
theorem blk_any (F : Int → Bool) (l : List Int) : blk F l ≠ [] ↔ ∃ n ∈ l, F n = true := by
  induction l using snocInd with
  | h0 => simp [blk]
  | hs l x ih =>
    rw [blk_snoc, bstep_ne, ih]
    constructor
    · rintro (⟨n, h1, h2⟩ | h)
      · exact ⟨n, by simp [h1], h2⟩
      · exact ⟨x, by simp, h⟩
    · rintro ⟨n, h1, h2⟩
      rcases List.mem_append.1 h1 with h1 | h1
      · exact .inl ⟨n, h1, h2⟩
      · obtain rfl := List.mem_singleton.1 h1; exact .inr h2
theorem mode_vals {t : LTab} {L : List RRow} (h : RelLR t L) (n pg : Int) : lkMode t n pg = 0 ∨ (lkMode t n pg = 1 ∨ lkMode t n pg = 2) ∧ 0 ≤ pg ∧ pg < 8 ∧ (n, lkMode t n pg) ∈ t.getD pg.toNat [] := by
  unfold lkMode
  split
  · rename_i hp
    cases hg : mget (t.getD pg.toNat []) n with
    | none => left; rfl
    | some v =>
      right
      have hm := mget_mem hg
      have hlt : pg.toNat < t.length := by rw [h.len]; omega
      have ho : mapOk (t.getD pg.toNat []) := h.ok _ (by simp [hlt])
      exact ⟨by simpa using ho.2.1 _ hm, hp.1, hp.2, by simpa using hm⟩
  · left; rfl
theorem pBl_rBl {t : LTab} {L : List RRow} (h : RelLR t L) (kd tx pg : Int) (l : List Int) : pBl t kd tx pg l = rBl L kd tx pg l := by
  unfold pBl rBl
  by_cases hk : opIn kd
  · rw [if_pos hk]
    have hk2 : kd = 2 ∨ kd = 3 ∨ kd = 4 := hk
    by_cases hp : pg < 0 ∨ pg > 7
    · rw [if_pos (by omega)]
      by_cases hb : blk (pF t kd tx pg) l = []
      · exact hb
      · obtain ⟨n, _, h2⟩ := (blk_any _ _).1 hb
        have h3 : lkMode t n pg = 0 := by unfold lkMode; rw [if_neg (by omega)]
        simp [pF, h3] at h2
    · rw [if_neg (by omega)]
      congr 1
      funext n
      unfold pF rF
      rw [← h.mode]
      congr 1
      rcases mode_vals h n pg with e | ⟨e | e, _⟩ <;> rw [e] <;> rcases hk2 with rfl | rfl | rfl <;> simp [mdK] <;> decide
  · have hk2 : ¬ (kd = 2 ∨ kd = 3 ∨ kd = 4) := hk
    rw [if_neg hk, if_pos (by omega)]
theorem may_blk (l : List Trip) (kd tx pg : Int) (hk : opIn kd) (ht : 1 ≤ tx ∧ tx ≤ 100) (hp : 0 ≤ pg ∧ pg ≤ 7) :
    lkMay (tkT l) tx pg (mdK kd) = 6 ↔ pBl (tkT l) kd tx pg (l.map (·.txn)) ≠ [] := by
  have hr := rel_tk l
  have hk2 : kd = 2 ∨ kd = 3 ∨ kd = 4 := hk
  have hmd : mdK kd = 1 ∨ mdK kd = 2 := by rcases hk2 with rfl | rfl | rfl <;> simp [mdK]
  have hbad : lkBad tx pg (mdK kd) = false := by
    unfold lkBad
    rcases hmd with e | e <;> rw [e] <;> simp <;> omega
  have hlt : pg.toNat < (tkT l).length := by rw [hr.len]; omega
  have ho : mapOk ((tkT l).getD pg.toNat []) := hr.ok _ (by simp [hlt])
  unfold pBl
  rw [if_pos hk, blk_any]
  unfold lkMay
  simp only [hbad, Bool.false_eq_true, if_false]
  have hany : (((tkT l).getD pg.toNat []).any (lkHit tx (mdK kd)) = true) ↔ ∃ n ∈ l.map (·.txn), pF (tkT l) kd tx pg n = true := by
    rw [List.any_eq_true]
    constructor
    · rintro ⟨⟨k, v⟩, h1, h2⟩
      have hm : lkMode (tkT l) k pg = v := by
        unfold lkMode
        rw [if_pos (by omega), (Go.Proofs.Ytlhblkpdfdpiaaa.mget_iff ho.1 k v).2 h1]
        rfl
      have hL := (hr.mem pg.toNat (by omega) k v).1 h1
      refine ⟨k, tkL_txn l _ hL, ?_⟩
      unfold pF
      rw [hm]
      unfold lkHit at h2
      have := ho.2.1 _ h1
      simp at h2 this
      simp [h2.1]
      exact ⟨by omega, h2.2⟩
    · rintro ⟨n, _, h2⟩
      unfold pF at h2
      simp at h2
      rcases mode_vals hr n pg with e | ⟨_, _, _, e⟩
      · omega
      · exact ⟨_, e, by unfold lkHit; simp [h2.1, h2.2.2]⟩
  split
  · rename_i h
    exact ⟨fun _ => hany.1 h, fun _ => rfl⟩
  · rename_i h
    constructor
    · intro h2; simp at h2
    · intro h2; exact absurd (hany.2 h2) h
end Go.Proofs.Ytlhblkpdfdpiaaa.Wt
