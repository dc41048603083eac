import Derived.Test.YtekjchphlphecaaSb22
import Derived.Test.YtekjchphlphecaaA3
namespace Go.Proofs.Ytekjchphlphecaa
open Go.RowKit Go.ChangeMaps
set_option linter.unusedVariables false
set_option linter.unusedSimpArgs false
set_option linter.unnecessarySimpa false

theorem rowsS_snoc (x : Ent) : ∀ L : List Ent, rowsS (L ++ [x]) = (if ofT x && decide (x.r.kind ≤ 2) then [(x.r.txn, x.at_)] else []) ++ (if ofT x then (rowsS L).filter (fun y => !(y.1 == x.r.txn)) else rowsS L)
  | [] => by simp [rowsS]
  | y :: L => by
    rw [List.cons_append, rowsS, rowsS_snoc x L, rowsS, List.any_append]
    simp only [List.any_cons, List.any_nil, Bool.or_false]
    have e1 : ofTx y.r.txn x = (ofT x && (x.r.txn == y.r.txn)) := rfl
    rw [e1]
    cases hx : ofT x
    · simp
    · simp only [Bool.true_and, if_true, List.append_assoc]
      congr 1
      rw [List.filter_append]
      congr 1
      by_cases ht : x.r.txn = y.r.txn
      · have h1 : (x.r.txn == y.r.txn) = true := by simpa using ht
        rw [h1, Bool.or_true]
        simp only [Bool.not_true, Bool.and_false, Bool.false_and, Bool.false_eq_true, if_false]
        split
        · simp [ht]
        · rfl
      · have h1 : (x.r.txn == y.r.txn) = false := by simpa using ht
        have h2 : (y.r.txn == x.r.txn) = false := by simp; exact fun e => ht e.symm
        rw [h1, Bool.or_false]
        split
        · simp [h2]
        · rfl

/-- What a standby is between two calls. -/
structure SInv (s : SS) : Prop where
  last : s.last = s.L.foldl sLast []
  rise : s.L.Pairwise (fun a b => a.at_ < b.at_)
  okk : ∀ x ∈ s.L, x.r.okk ∧ fits x.at_
  fit : ∀ q ∈ s.pg, fits q.at_
  sz : ∀ q ∈ s.pg, q.data.size ≤ 220

theorem sUpto_snoc (L : List Ent) (x : Ent) : sUpto (L ++ [x]) = x.at_ := by simp [sUpto]
theorem sUpto_ge {L : List Ent} (h : L.Pairwise (fun a b => a.at_ < b.at_)) : ∀ y ∈ L, y.at_ ≤ sUpto L := by
  rcases snoc_cases L with rfl | ⟨ys, z, rfl⟩
  · simp
  · intro y hy
    rw [sUpto_snoc]
    rw [List.pairwise_append] at h
    rcases List.mem_append.1 hy with hy | hy
    · exact Int.le_of_lt (h.2.2 y hy z (by simp))
    · obtain rfl := List.mem_singleton.1 hy; exact Int.le_refl _
theorem put_fit (p : Pg) (off : Int) (s : ByteArray) (a : Int) (h : fits a) : fits (p.put off s a).1.at_ := by
  unfold Pg.put
  split
  · simp [Pg.none, fits]
  · split
    · simp [Pg.none, fits]
    · split
      · simp [Pg.none, fits]
      · exact h
theorem apply_fit (p : Pg) (a : Int) (r : Rec) (h : fits p.at_) (ha : fits a) : fits (p.apply a r).at_ := by
  unfold Pg.apply
  dsimp only
  split
  · split
    · exact put_fit _ _ _ _ ha
    · exact h
  · exact h
theorem SInv.new (n : Nat) : SInv (sNew n) := by
  refine ⟨rfl, List.Pairwise.nil, by simp [sNew], fun q hq => ?_, rep_size _⟩
  rw [List.eq_of_mem_replicate hq]
  simp [Pg.empty, fits]
theorem SInv.take {s : SS} (h : SInv s) {x : Ent} (hx : x.r.okk ∧ fits x.at_) (hu : sUpto s.L < x.at_) : SInv (sTake s x) := by
  refine ⟨?_, ?_, ?_, ?_, ?_⟩
  · show sLast s.last x = _
    rw [show (sTake s x).L = s.L ++ [x] from rfl, List.foldl_append, ← h.last]; rfl
  · show (s.L ++ [x]).Pairwise _
    rw [List.pairwise_append]
    exact ⟨h.rise, by simp, fun a ha b hb => by obtain rfl := List.mem_singleton.1 hb; have := sUpto_ge h.rise a ha; omega⟩
  · intro y hy
    rcases List.mem_append.1 (show y ∈ s.L ++ [x] from hy) with hy | hy
    · exact h.okk y hy
    · obtain rfl := List.mem_singleton.1 hy; exact hx
  · exact pSet_mem (Q := fun q => fits q.at_) h.fit x.r.page (f := fun p => p.apply x.at_ x.r) (fun p hp => apply_fit p _ _ hp hx.2)
  · exact pSet_mem (Q := fun q => q.data.size ≤ 220) h.sz x.r.page (f := fun p => p.apply x.at_ x.r) (fun p hp => apply_size p _ _ hp)
theorem SInv.foldl {l : List Ent} (hl : ∀ x ∈ l, x.r.okk ∧ fits x.at_) : ∀ {u : Int × SS}, SInv u.2 → SInv (l.foldl sStep u).2 := by
  induction l with
  | nil => intro u h; exact h
  | cons x l ih =>
    intro u h
    rw [List.foldl_cons]
    refine ih (fun y hy => hl y (List.mem_cons_of_mem _ hy)) ?_
    unfold sStep
    split
    · exact h.take (hl x (by simp)) ‹_›
    · exact h
theorem SInv.feed {s : SS} (h : SInv s) {l : List Ent} (hl : ∀ x ∈ l, x.r.okk ∧ fits x.at_) : SInv (sFeed s l).2.2 := by
  unfold sFeed
  split
  · exact SInv.foldl hl (u := (0, s)) h
  · exact h
theorem sStep_pg (l : List Ent) : ∀ u : Int × SS, (l.foldl sStep u).2.pg.length = u.2.pg.length := by
  induction l with
  | nil => intro u; rfl
  | cons x l ih =>
    intro u
    rw [List.foldl_cons, ih]
    unfold sStep
    split
    · exact pSet_len _ _ _
    · rfl
theorem sFeed_pg (s : SS) (l : List Ent) : (sFeed s l).2.2.pg.length = s.pg.length := by
  unfold sFeed
  split
  · exact sStep_pg l (0, s)
  · rfl
theorem sFeed_len (s : SS) (l : List Ent) : (sFeed s l).2.2.L.length ≤ s.L.length + l.length := by
  unfold sFeed
  split
  · exact (sStep_len l (0, s) (by simp)).1
  · simp

/-- The rows and the map tell the same. -/
structure RInv (L : List Ent) (m : List (Int × Int)) (R : List (Int × Int)) : Prop where
  fall : R.Pairwise (fun a b => b.2 < a.2)
  mem : ∀ y ∈ R, ∃ e ∈ L, e.at_ = y.2 ∧ e.r.txn = y.1
  nodup : (R.map (·.1)).Nodup
  mnodup : (m.map (·.1)).Nodup
  same : ∀ t a, mget m t = some a ↔ (t, a) ∈ R

theorem rows_inv : ∀ (L : List Ent), L.Pairwise (fun a b => a.at_ < b.at_) → RInv L (L.foldl sLast []) (rowsS L) := by
  intro L
  generalize hn : L.length = n
  induction n generalizing L with
  | zero =>
    obtain rfl := List.eq_nil_of_length_eq_zero hn
    intro _
    exact ⟨List.Pairwise.nil, by simp [rowsS], by simp [rowsS], by simp, fun t a => by simp [rowsS, mget_nil]⟩
  | succ n ih =>
    rcases snoc_cases L with rfl | ⟨ys, x, rfl⟩
    · simp at hn
    · intro hp
      rw [List.pairwise_append] at hp
      have h := ih ys (by simpa using hn) hp.1
      rw [List.foldl_append, rowsS_snoc]
      simp only [List.foldl_cons, List.foldl_nil]
      generalize ys.foldl sLast [] = m at h
      generalize rowsS ys = R at h
      have hlt : ∀ y ∈ R, y.2 < x.at_ := fun y hy => by
        obtain ⟨e, he, h1, _⟩ := h.mem y hy
        have := hp.2.2 e he x (by simp)
        omega
      have hfil : ∀ t, RInv ys (mdel m t) (R.filter (fun y => !(y.1 == t))) := fun t => by
        refine ⟨h.fall.sublist List.filter_sublist, fun y hy => h.mem y (List.mem_filter.1 hy).1, h.nodup.sublist (List.Sublist.map _ List.filter_sublist), mdel_nodup h.mnodup t, fun u a => ?_⟩
        rw [mget_mdel, List.mem_filter]
        by_cases hu : u = t
        · simp [hu]
        · rw [if_neg hu, h.same]; simp [hu]
      have hmem : ∀ {R' : List (Int × Int)}, (∀ y ∈ R', ∃ e ∈ ys, e.at_ = y.2 ∧ e.r.txn = y.1) → ∀ y ∈ R', ∃ e ∈ ys ++ [x], e.at_ = y.2 ∧ e.r.txn = y.1 := fun hR y hy => by
        obtain ⟨e, he, h1⟩ := hR y hy
        exact ⟨e, List.mem_append_left _ he, h1⟩
      unfold sLast
      by_cases h12 : x.r.kind = 1 ∨ x.r.kind = 2
      · have ht : ofT x = true := by simp [ofT]; omega
        have h2 : decide (x.r.kind ≤ 2) = true := by simp; omega
        rw [if_pos h12, ht, h2]
        simp only [Bool.and_self, if_true, List.singleton_append]
        have hf := hfil x.r.txn
        refine ⟨?_, ?_, ?_, mput_nodup h.mnodup _ _, fun t a => ?_⟩
        · rw [List.pairwise_cons]
          exact ⟨fun y hy => hlt y (List.mem_filter.1 hy).1, hf.fall⟩
        · intro y hy
          rcases List.mem_cons.1 hy with rfl | hy
          · exact ⟨x, by simp, rfl, rfl⟩
          · exact hmem hf.mem y hy
        · rw [List.map_cons, List.nodup_cons]
          refine ⟨fun hm => ?_, hf.nodup⟩
          obtain ⟨y, hy, he⟩ := List.mem_map.1 hm
          have := (List.mem_filter.1 hy).2
          simp [he] at this
        · rw [mget_mput, List.mem_cons]
          have := hf.same t a
          rw [mget_mdel] at this
          by_cases hu : t = x.r.txn
          · rw [if_pos hu] at this ⊢
            constructor
            · intro e; cases e; exact .inl (by rw [hu])
            · rintro (e | e)
              · cases e; rfl
              · exact absurd (this.2 e) (by simp)
          · rw [if_neg hu] at this ⊢
            rw [this]
            constructor
            · exact .inr
            · rintro (e | e)
              · cases e; exact absurd rfl hu
              · exact e
      · rw [if_neg h12]
        by_cases h34 : x.r.kind = 3 ∨ x.r.kind = 4
        · have ht : ofT x = true := by simp [ofT]; omega
          have h2 : decide (x.r.kind ≤ 2) = false := by simp; omega
          rw [if_pos h34, ht, h2]
          simp only [Bool.and_false, Bool.false_eq_true, if_false, if_true, List.nil_append]
          have hf := hfil x.r.txn
          exact ⟨hf.fall, hmem hf.mem, hf.nodup, hf.mnodup, hf.same⟩
        · have ht : ofT x = false := by
            cases hq : ofT x with
            | false => rfl
            | true => simp [ofT] at hq; omega
          rw [if_neg h34, ht]
          simp only [Bool.false_and, Bool.false_eq_true, if_false, List.nil_append]
          exact ⟨h.fall, hmem h.mem, h.nodup, h.mnodup, h.same⟩

theorem SInv.rows {s : SS} (h : SInv s) : RInv s.L s.last (rowsS s.L) := by rw [h.last]; exact rows_inv s.L h.rise
theorem RInv.get {L : List Ent} {m R : List (Int × Int)} (h : RInv L m R) {y : Int × Int} (hy : y ∈ R) : (mget m y.1).getD 0 = y.2 := by
  rw [(h.same y.1 y.2).2 hy]; rfl
theorem RInv.perm {L : List Ent} {m R : List (Int × Int)} (h : RInv L m R) : (R.map (·.1)).Perm (m.map (·.1)) := by
  rw [List.perm_ext_iff_of_nodup h.nodup h.mnodup]
  intro t
  constructor
  · intro ht
    obtain ⟨y, hy, rfl⟩ := List.mem_map.1 ht
    have h1 := (h.same y.1 y.2).2 hy
    rcases Decidable.em (y.1 ∈ m.map (·.1)) with h2 | h2
    · exact h2
    · rw [mget_none_iff.2 h2] at h1; cases h1
  · intro ht
    obtain ⟨a, ha⟩ := mget_some_of ht
    exact List.mem_map.2 ⟨(t, a), (h.same t a).1 ha, rfl⟩
theorem RInv.order {L : List Ent} {m R : List (Int × Int)} (h : RInv L m R) : (R.map (·.1)).Pairwise (fun a b => (mget m b).getD 0 < (mget m a).getD 0) := by
  rw [List.pairwise_map]
  have h2 : R.Pairwise (fun a b => a ∈ R ∧ b ∈ R ∧ b.2 < a.2) := by
    refine List.Pairwise.imp_of_mem (fun {a b} ha hb hab => ⟨ha, hb, hab⟩) h.fall
  exact h2.imp fun ⟨ha, hb, hab⟩ => by rw [h.get ha, h.get hb]; exact hab
theorem RInv.rows {L : List Ent} {m R : List (Int × Int)} (h : RInv L m R) : (R.map (·.1)).map (fun t => (t, (mget m t).getD 0)) = R := by
  rw [List.map_map]
  have : R.map ((fun t => (t, (mget m t).getD 0)) ∘ fun x => x.1) = R.map id := List.map_congr_left fun y hy => by
    simp only [Function.comp_def, id]
    rw [h.get hy]
  rw [this, List.map_id]
theorem RInv.open_ {L : List Ent} {m R : List (Int × Int)} (h : RInv L m R) : (R.map (·.1)).foldl insI [] = sortI (m.map (·.1)) := by
  rw [insAll h.nodup]
  exact sortI_ext h.nodup h.mnodup fun x => h.perm.mem_iff
theorem RInv.fits {L : List Ent} {m R : List (Int × Int)} (h : RInv L m R) (hok : ∀ x ∈ L, fits x.r.txn) : ∀ x ∈ m, (Lit.int .i64 x.1).wf = true := by
  intro x hx
  obtain ⟨a, ha⟩ := mget_some_of (List.mem_map.2 ⟨x, hx, rfl⟩ : x.1 ∈ m.map (·.1))
  obtain ⟨e, he, _, h2⟩ := h.mem _ ((h.same _ _).1 ha)
  have h3 := hok e he
  rw [h2] at h3
  unfold Go.Proofs.Ytekjchphlphecaa.fits at h3
  simp [Lit.wf, IntKind.min, IntKind.max, IntKind.signed, IntKind.bits]
  omega
end Go.Proofs.Ytekjchphlphecaa
