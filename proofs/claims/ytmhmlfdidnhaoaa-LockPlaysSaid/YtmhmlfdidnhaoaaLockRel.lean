import Derived.Test.YtmhmlfdidnhaoaaRefLock2
import Derived.Test.YtmhmlfdidnhaoaaWalkLockFree
import Derived.Test.YtmhmlfdidnhaoaaWalkLockMay
namespace Go.Proofs.Ytmhmlfdidnhaoaa
open Go.RowKit Go.ChangeMaps

structure RelLR (t : LTab) (L : List RRow) : Prop where
  len : t.length = 8
  ok : lkOk t
  mem : ∀ i : Nat, i < 8 → ∀ k v, (k, v) ∈ t.getD i [] ↔ (⟨k, (i : Int), v⟩ : RRow) ∈ L
  nd : (L.map (fun x => (x.txn, x.page))).Nodup
  pg : ∀ x ∈ L, 0 ≤ x.page ∧ x.page < 8

theorem RelLR.empty : RelLR lkEmpty [] := by
  refine ⟨rfl, lkOk_empty, fun i hi k v => ?_, by simp, by simp⟩
  have : lkEmpty.getD i [] = [] := by
    obtain rfl | rfl | rfl | rfl | rfl | rfl | rfl | rfl : i = 0 ∨ i = 1 ∨ i = 2 ∨ i = 3 ∨ i = 4 ∨ i = 5 ∨ i = 6 ∨ i = 7 := by omega
    all_goals rfl
  rw [this]
  simp

theorem mget_iff {m : List (Int × Int)} (hn : (m.map (·.1)).Nodup) (k v : Int) : mget m k = some v ↔ (k, v) ∈ m := by
  constructor
  · exact mget_mem
  · intro h
    obtain ⟨j, hj⟩ := List.getElem?_of_mem h
    exact mget_of hn hj

theorem rf_find {L : List RRow} (hn : (L.map (fun x => (x.txn, x.page))).Nodup) {x : RRow} (hx : x ∈ L) : L.find? (rfIs x.txn x.page) = some x := by
  induction L with
  | nil => simp at hx
  | cons y r ih =>
    simp only [List.map_cons, List.nodup_cons] at hn
    rcases List.mem_cons.1 hx with rfl | hx
    · simp [rfIs]
    · have hne : rfIs x.txn x.page y = false := by
        cases h : rfIs x.txn x.page y
        · rfl
        · simp [rfIs] at h
          exact absurd (List.mem_map.2 ⟨x, hx, by simp [h.1, h.2]⟩) hn.1
      rw [List.find?_cons, hne]
      exact ih hn.2 hx

theorem RelLR.mode {t : LTab} {L : List RRow} (h : RelLR t L) (txn page : Int) : lkMode t txn page = rfMode L txn page := by
  unfold lkMode rfMode
  by_cases hp : 0 ≤ page ∧ page < 8
  · rw [if_pos hp]
    have hok : mapOk (t.getD page.toNat []) := h.ok _ (by have := h.len; simp [show page.toNat < t.length by omega])
    have hm := h.mem page.toNat (by omega)
    rw [show ((page.toNat : Nat) : Int) = page by omega] at hm
    cases hg : mget (t.getD page.toNat []) txn with
    | none =>
      cases hf : L.find? (rfIs txn page) with
      | none => rfl
      | some x =>
        exfalso
        have h1 := List.find?_some hf
        have h2 := List.mem_of_find?_eq_some hf
        simp [rfIs] at h1
        obtain ⟨rfl, rfl⟩ := h1
        exact mget_none hg _ ((hm x.txn x.mode).2 h2) rfl
    | some v =>
      have h1 := (hm txn v).1 (mget_mem hg)
      have h2 := rf_find h.nd h1
      simp only at h2
      rw [h2]
      rfl
  · rw [if_neg hp]
    cases hf : L.find? (rfIs txn page) with
    | none => rfl
    | some x =>
      have h1 := List.find?_some hf
      have h2 := h.pg _ (List.mem_of_find?_eq_some hf)
      simp [rfIs] at h1
      omega

theorem RelLR.may {t : LTab} {L : List RRow} (h : RelLR t L) (txn page mode : Int) : lkMay t txn page mode = rfMay L txn page mode := by
  have hbb : lkBad txn page mode = rfBad txn page mode := by
    unfold lkBad rfBad
    rw [Bool.eq_iff_iff]
    simp
    omega
  unfold lkMay rfMay
  rw [hbb]
  cases hb : rfBad txn page mode
  · simp only [Bool.false_eq_true, if_false]
    have hp : 0 ≤ page ∧ page < 8 ∧ 1 ≤ mode ∧ mode ≤ 2 := by simp [rfBad] at hb; omega
    have hok : mapOk (t.getD page.toNat []) := h.ok _ (by have := h.len; simp [show page.toNat < t.length by omega])
    have hm := h.mem page.toNat (by omega)
    rw [show ((page.toNat : Nat) : Int) = page by omega] at hm
    have : (t.getD page.toNat []).any (lkHit txn mode) = L.any (rfHit txn page mode) := by
      rw [Bool.eq_iff_iff, List.any_eq_true, List.any_eq_true]
      constructor
      · rintro ⟨⟨k, v⟩, hk, hh⟩
        refine ⟨_, (hm k v).1 hk, ?_⟩
        have := hok.2.1 _ hk
        simp [lkHit] at hh this
        simp [rfHit]
        omega
      · rintro ⟨⟨k, pg, v⟩, hk, hh⟩
        simp [rfHit] at hh
        obtain ⟨⟨h1, rfl⟩, h2⟩ := hh
        have h3 := (hm k v).2 hk
        refine ⟨_, h3, ?_⟩
        have := hok.2.1 _ h3
        simp at this
        simp [lkHit, h1]
        omega
    rw [this]
  · rfl

theorem mem_mput_iff {m : List (Int × Int)} {k v : Int} (p : Int × Int) : p ∈ mput m k v ↔ p = (k, v) ∨ (p ∈ m ∧ p.1 ≠ k) := by
  constructor
  · exact mem_mput
  · rintro (rfl | ⟨h1, h2⟩)
    · exact mget_mem (mget_mput m k v)
    · unfold mput
      split
      · exact List.mem_map.2 ⟨p, h1, by simp [h2]⟩
      · exact List.mem_append_left _ h1

theorem rfUp_mem {L : List RRow} {txn page mode : Int} (hn : (L.map (fun x => (x.txn, x.page))).Nodup) (hm : 0 ≤ mode) (y : RRow) :
    y ∈ rfUp txn page mode L ↔ (y ∈ L ∧ rfIs txn page y = false) ∨ y = ⟨txn, page, max (rfMode L txn page) mode⟩ := by
  induction L with
  | nil => simp [rfUp, rfMode]; rw [show max 0 mode = mode by omega]
  | cons x r ih =>
    simp only [List.map_cons, List.nodup_cons] at hn
    unfold rfUp
    cases hx : rfIs txn page x with
    | true =>
      have hx' := hx
      simp [rfIs] at hx'
      obtain ⟨e1, e2⟩ := hx'
      have hr : ∀ z ∈ r, rfIs txn page z = false := by
        intro z hz
        cases h : rfIs txn page z
        · rfl
        · simp [rfIs] at h
          exact absurd (List.mem_map.2 ⟨z, hz, by simp [h.1, h.2, e1, e2]⟩) hn.1
      have hmo : rfMode (x :: r) txn page = x.mode := by simp [rfMode, hx]
      rw [hmo]
      simp only [if_true, List.mem_cons]
      constructor
      · rintro (rfl | h)
        · right; cases x; simp_all
        · left; exact ⟨.inr h, hr y h⟩
      · rintro (⟨rfl | h, h2⟩ | rfl)
        · rw [hx] at h2; cases h2
        · exact .inr h
        · left; cases x; simp_all
    | false =>
      have hmo : rfMode (x :: r) txn page = rfMode r txn page := by simp [rfMode, hx]
      rw [hmo]
      simp only [Bool.false_eq_true, if_false, List.mem_cons]
      rw [ih hn.2]
      constructor
      · rintro (rfl | h | h)
        · exact .inl ⟨.inl rfl, hx⟩
        · exact .inl ⟨.inr h.1, h.2⟩
        · exact .inr h
      · rintro (⟨rfl | h, h2⟩ | h)
        · exact .inl rfl
        · exact .inr (.inl ⟨h, h2⟩)
        · exact .inr (.inr h)

theorem rfUp_keys {L : List RRow} {txn page mode : Int} (hn : (L.map (fun x => (x.txn, x.page))).Nodup) : ((rfUp txn page mode L).map (fun x => (x.txn, x.page))).Nodup := by
  have key : ∀ L : List RRow, (rfUp txn page mode L).map (fun x => (x.txn, x.page)) = L.map (fun x => (x.txn, x.page)) ∨ ((rfUp txn page mode L).map (fun x => (x.txn, x.page)) = L.map (fun x => (x.txn, x.page)) ++ [(txn, page)] ∧ ∀ x ∈ L, rfIs txn page x = false) := by
    intro L
    induction L with
    | nil => right; simp [rfUp]
    | cons x r ih =>
      unfold rfUp
      cases hx : rfIs txn page x with
      | true => left; simp
      | false =>
        rcases ih with h | ⟨h, h2⟩
        · left; simp [h]
        · right
          refine ⟨by simp [h], fun y hy => ?_⟩
          rcases List.mem_cons.1 hy with rfl | hy
          · exact hx
          · exact h2 y hy
  rcases key L with h | ⟨h, h2⟩
  · rw [h]; exact hn
  · rw [h]
    refine List.nodup_append.2 ⟨hn, by simp, ?_⟩
    intro a ha b hb
    simp at hb
    subst hb
    intro e
    subst e
    obtain ⟨x, hx, he⟩ := List.mem_map.1 ha
    have := h2 x hx
    simp at he
    simp [rfIs, he.1, he.2] at this

theorem RelLR.take {t : LTab} {L : List RRow} (h : RelLR t L) (txn page mode : Int) : RelLR (lkTake t txn page mode) (rfTake L txn page mode) := by
  have hok := lkOk_take h.ok txn page mode
  have hmay := h.may txn page mode
  have hmode := h.mode txn page
  unfold rfTake
  rw [← hmay]
  unfold lkTake at hok ⊢
  by_cases h0 : lkMay t txn page mode = 0
  · rw [if_pos h0] at hok ⊢
    rw [if_pos h0]
    have hb : lkBad txn page mode = false := by
      cases hb : lkBad txn page mode
      · rfl
      · simp [lkMay, hb] at h0
    have hp : 0 ≤ page ∧ page < 8 ∧ 1 ≤ mode ∧ mode ≤ 2 := by simp [lkBad] at hb; omega
    have hl := h.len
    have hmode2 : (mget (t.getD page.toNat []) txn).getD 0 = rfMode L txn page := by
      rw [← hmode, lkMode, if_pos ⟨hp.1, hp.2.1⟩]
    refine ⟨by simp [hl], hok, fun i hi k v => ?_, rfUp_keys h.nd, fun x hx => ?_⟩
    · rw [rfUp_mem h.nd (by omega)]
      by_cases hip : page.toNat = i
      · subst hip
        have : (t.set page.toNat (mput (t.getD page.toNat []) txn (max ((mget (t.getD page.toNat []) txn).getD 0) mode))).getD page.toNat [] = mput (t.getD page.toNat []) txn (max ((mget (t.getD page.toNat []) txn).getD 0) mode) := by
          simp [List.getD, show page.toNat < t.length by omega]
        rw [this, mem_mput_iff, hmode2, h.mem page.toNat hi]
        have hpp : ((page.toNat : Nat) : Int) = page := by omega
        rw [hpp]
        simp only [Prod.mk.injEq, RRow.mk.injEq, rfIs, true_and]
        constructor
        · rintro (⟨rfl, rfl⟩ | ⟨h1, h2⟩)
          · exact .inr ⟨rfl, rfl⟩
          · exact .inl ⟨h1, by simp [h2]⟩
        · rintro (⟨h1, h2⟩ | ⟨rfl, rfl⟩)
          · right; refine ⟨h1, ?_⟩; simpa using h2
          · exact .inl ⟨rfl, rfl⟩
      · have : (t.set page.toNat (mput (t.getD page.toNat []) txn (max ((mget (t.getD page.toNat []) txn).getD 0) mode))).getD i [] = t.getD i [] := by
          simp [List.getD, List.getElem?_set_ne hip]
        rw [this, h.mem i hi]
        have hne : ¬ (i : Int) = page := by omega
        constructor
        · intro h1; exact .inl ⟨h1, by simp [rfIs, hne]⟩
        · rintro (⟨h1, _⟩ | h1)
          · exact h1
          · simp [hne] at h1
    · rcases (rfUp_mem h.nd (by omega) x).1 hx with ⟨h1, _⟩ | rfl
      · exact h.pg x h1
      · exact ⟨hp.1, hp.2.1⟩
  · rw [if_neg h0] at hok ⊢
    rw [if_neg h0]
    exact h

theorem lkFree_at (t : LTab) (txn : Int) (i : Nat) : (lkFree t txn).getD i [] = lkFreeM txn (t.getD i []) := by
  unfold lkFree
  simp only [List.getD, List.getElem?_map]
  cases t[i]? with
  | none => rfl
  | some m => rfl

theorem mem_lkFreeM {m : List (Int × Int)} (hm : mapOk m) (txn k v : Int) : (k, v) ∈ lkFreeM txn m ↔ (k, v) ∈ m ∧ k ≠ txn := by
  unfold lkFreeM
  split
  · unfold mdel
    rw [List.mem_filter]
    simp
  · rename_i hno
    constructor
    · intro h1
      refine ⟨h1, ?_⟩
      rintro rfl
      have h2 := (mget_iff hm.1 k v).2 h1
      have h3 := hm.2.1 _ h1
      simp [lkHas, h2] at hno
      simp at h3
      omega
    · exact fun h1 => h1.1

theorem RelLR.free {t : LTab} {L : List RRow} (h : RelLR t L) (txn : Int) : RelLR (lkFree t txn) (rfFree L txn) := by
  refine ⟨by simp [lkFree, h.len], lkOk_free h.ok txn, fun i hi k v => ?_, List.Nodup.sublist (List.Sublist.map _ List.filter_sublist) h.nd, fun x hx => h.pg x (List.mem_filter.1 hx).1⟩
  have hl := h.len
  rw [lkFree_at, mem_lkFreeM (h.ok _ (by simp [show i < t.length by omega])), h.mem i hi, rfFree, List.mem_filter]
  simp

theorem mem_pages {t : LTab} {txn p : Int} : p ∈ lkPages t txn ↔ (0 ≤ p ∧ p < 8) ∧ 0 < lkMode t txn p := by
  unfold lkPages lkPagesK
  rw [List.mem_map]
  constructor
  · rintro ⟨i, hi, rfl⟩
    rw [List.mem_filter] at hi
    simp at hi
    exact ⟨by omega, hi.2⟩
  · rintro ⟨h1, h2⟩
    refine ⟨p.toNat, ?_, by omega⟩
    rw [List.mem_filter]
    have : ((p.toNat : Nat) : Int) = p := by omega
    simp [this, h2]
    omega
theorem nodup_pages (t : LTab) (txn : Int) : (lkPages t txn).Nodup := by
  unfold lkPages lkPagesK
  have h1 : ((List.range 8).filter (fun i : Nat => decide (0 < lkMode t txn (i : Int)))).Nodup := List.Nodup.sublist List.filter_sublist List.nodup_range
  exact List.Pairwise.map _ (fun a b hab e => hab (by omega)) h1

theorem RelLR.count {t : LTab} {L : List RRow} (h : RelLR t L) (txn : Int) : lkCount t txn = (L.length : Int) - ((rfFree L txn).length : Int) := by
  rw [← pages_count h.len txn]
  have h1 : L.length = (rfFree L txn).length + (L.filter (fun x => x.txn == txn)).length := by
    clear h
    unfold rfFree
    induction L with
    | nil => rfl
    | cons x r ih =>
      by_cases hx : x.txn = txn
      · simp [hx]; omega
      · simp [hx]; omega
  have h2 : ((L.filter (fun x => x.txn == txn)).map (·.page)).Perm (lkPages t txn) := by
    rw [List.perm_ext_iff_of_nodup ?_ (nodup_pages t txn)]
    · intro p
      rw [mem_pages, List.mem_map, h.mode]
      constructor
      · rintro ⟨x, hx, rfl⟩
        rw [List.mem_filter] at hx
        have e : x.txn = txn := by simpa using hx.2
        refine ⟨h.pg x hx.1, ?_⟩
        subst e
        rw [rfMode, rf_find h.nd hx.1]
        have hpg := h.pg x hx.1
        have hl := h.len
        have h3 := (h.mem x.page.toNat (by omega) x.txn x.mode).2 (by rw [show ((x.page.toNat : Nat) : Int) = x.page by omega]; exact hx.1)
        have h4 := (h.ok (t.getD x.page.toNat []) (by simp [show x.page.toNat < t.length by omega])).2.1 _ h3
        simp at h4 ⊢
        omega
      · rintro ⟨hp, hm⟩
        unfold rfMode at hm
        cases hf : L.find? (rfIs txn p) with
        | none => rw [hf] at hm; simp at hm
        | some x =>
          have h3 := List.find?_some hf
          simp [rfIs] at h3
          exact ⟨x, List.mem_filter.2 ⟨List.mem_of_find?_eq_some hf, by simp [h3.1]⟩, h3.2⟩
    · have hn : (L.filter (fun x => x.txn == txn)).map (fun x => (x.txn, x.page)) = ((L.filter (fun x => x.txn == txn)).map (·.page)).map (fun p => (txn, p)) := by
        rw [List.map_map]
        apply List.map_congr_left
        intro x hx
        have : x.txn = txn := by simpa using (List.mem_filter.1 hx).2
        simp [this]
      have h5 : ((L.filter (fun x => x.txn == txn)).map (fun x => (x.txn, x.page))).Nodup := List.Nodup.sublist (List.Sublist.map _ List.filter_sublist) h.nd
      rw [hn] at h5
      exact List.Pairwise.of_map _ (fun a b hab e => hab (by rw [e])) h5
  have h3 := h2.length_eq
  rw [List.length_map] at h3
  omega
end Go.Proofs.Ytmhmlfdidnhaoaa
