import Derived.Test.YtlhblkpdfdpiaaaLock4
import Derived.Test.YtlhblkpdfdpiaaaRefLock2
namespace Go.Proofs.Ytlhblkpdfdpiaaa
open Go.RowKit Go.ChangeMaps
set_option linter.unusedVariables false
set_option linter.unusedSimpArgs false
set_option linter.unnecessarySimpa false

/-- Take, whatever it answers. -/
theorem lockTake (p : Nat) (rs : List Nat) (t : LTab) (txn page mode : Int) (w : World) (h : LockAt w p rs t) (res : Int) (hres : Hid (res = lkMay t txn page mode)) (T : LTab) (hT : Hid (T = lkTake t txn page mode)) :
    Calls Try.prog 17 #[.pointer (some ⟨p, 0, none⟩), .int .i64 txn, .int .i64 page, .int .i64 mode] w fun e w' => e = .returned (.int .i64 res) ∧ LockAt w' p rs T ∧ Chg (InB rs) w w' := by
  by_cases h0 : lkMay t txn page mode = 0
  · refine (lockTake_yes p rs t txn page mode w h h0 T hT).mono ?_
    rintro e w' ⟨rfl, h1, h2⟩
    exact ⟨ret_int (by rw [hres.out, h0]), h1, h2⟩
  · refine (lockTake_no p rs t txn page mode w h res hres (by rw [hres.out]; simpa using h0)).mono ?_
    rintro e w' ⟨rfl, h1⟩
    have : T = t := by rw [hT.out]; simp [lkTake, h0]
    subst this
    exact ⟨rfl, h.keep h1 (fun e => e) (fun _ _ e => e), h1.mono fun i hi => .inl hi.elim⟩

theorem lockMay (p : Nat) (rs : List Nat) (t : LTab) (txn page mode : Int) (w : World) (h : LockAt w p rs t) (res : Int) (hres : Hid (res = lkMay t txn page mode)) :
    Calls Try.prog 21 #[.pointer (some ⟨p, 0, none⟩), .int .i64 txn, .int .i64 page, .int .i64 mode] w fun e w' => e = .returned (.int .i64 res) ∧ Chg NoB w w' := by
  cases hb : lkBad txn page mode
  · have h8 : 0 ≤ page ∧ page < 8 := by simp [lkBad] at hb; omega
    obtain ⟨r, h1, h2, h3⟩ := h.at page.toNat (by omega)
    exact lockMay_ok p r _ txn page mode w hb h2 h3 res (by rw [hres.out]; simp [lkMay, hb, Hid])
  · refine (lockMay_bad p txn page mode w hb).mono ?_
    rintro e w' ⟨rfl, rfl⟩
    exact ⟨ret_int (by rw [hres.out]; simp [lkMay, hb]), Chg.refl _ _⟩

/-- A new one, as an object of its own. -/
theorem lockNew' (w : World) : Calls Try.prog 16 #[] w fun e w' => (∃ p rs, e = .returned (.pointer (some ⟨p, 0, none⟩)) ∧ LockAt w' p rs lkEmpty ∧ (∀ r ∈ p :: rs, w.heap.size ≤ r)) ∧ Chg NoB w w' := by
  refine (lockNew w).mono ?_
  rintro e w' ⟨rfl, h⟩
  refine ⟨⟨_, _, rfl, h.lock, ?_⟩, h.chg⟩
  intro r hr
  rcases List.mem_cons.1 hr with rfl | hr
  · exact Nat.le_refl _
  · simp only [newRs, List.mem_map] at hr
    obtain ⟨i, _, rfl⟩ := hr
    omega

def mapOk (m : List (Int × Int)) : Prop := (m.map (·.1)).Nodup ∧ (∀ p ∈ m, p.2 = 1 ∨ p.2 = 2) ∧ ∀ p ∈ m, p.2 = 2 → ∀ q ∈ m, q.1 = p.1
def lkOk (t : LTab) : Prop := ∀ m ∈ t, mapOk m

theorem mapOk_nil : mapOk [] := ⟨by simp, by simp, by simp⟩
theorem lkOk_empty : lkOk lkEmpty := by
  intro m hm
  have : m = [] := by simp [lkEmpty] at hm; exact hm
  subst this
  exact mapOk_nil

theorem mapOk_del {m : List (Int × Int)} (h : mapOk m) (k : Int) : mapOk (mdel m k) := by
  obtain ⟨h1, h2, h3⟩ := h
  have hs : (mdel m k).Sublist m := List.filter_sublist
  exact ⟨List.Nodup.sublist (hs.map _) h1, fun p hp => h2 p (hs.subset hp), fun p hp e q hq => h3 p (hs.subset hp) e q (hs.subset hq)⟩

theorem lkOk_free {t : LTab} (h : lkOk t) (txn : Int) : lkOk (lkFree t txn) := by
  intro m hm
  simp only [lkFree, List.mem_map] at hm
  obtain ⟨m', hm', rfl⟩ := hm
  unfold lkFreeM
  split
  · exact mapOk_del (h m' hm') _
  · exact h m' hm'

theorem mem_mput {ν : Type} {m : List (Int × ν)} {k : Int} {v : ν} {p : Int × ν} (h : p ∈ mput m k v) : p = (k, v) ∨ (p ∈ m ∧ p.1 ≠ k) := by
  unfold mput at h
  split at h
  · simp only [List.mem_map] at h
    obtain ⟨q, hq, rfl⟩ := h
    by_cases hk : q.1 = k
    · left; simp [hk]
    · right; simp [hk, hq]
  · rename_i hn
    rw [List.mem_append] at h
    rcases h with h | h
    · right
      refine ⟨h, fun e => hn (List.any_eq_true.2 ⟨p, h, by simpa using e⟩)⟩
    · left; simpa using h

theorem nodup_mput {ν : Type} {m : List (Int × ν)} (h : (m.map (·.1)).Nodup) (k : Int) (v : ν) : ((mput m k v).map (·.1)).Nodup := by
  unfold mput
  split
  · have : (m.map (fun p => if p.1 == k then (k, v) else p)).map (·.1) = m.map (·.1) := by
      rw [List.map_map]
      apply List.map_congr_left
      intro p _
      by_cases hk : p.1 = k
      · simp [hk]
      · simp [hk]
    rw [this]
    exact h
  · rename_i hn
    rw [List.map_append]
    refine List.nodup_append.2 ⟨h, by simp, ?_⟩
    intro a ha b hb
    simp at hb
    subst hb
    intro e
    subst e
    obtain ⟨p, hp, rfl⟩ := List.mem_map.1 ha
    exact hn (List.any_eq_true.2 ⟨p, hp, by simp⟩)

theorem mget_mem {ν : Type} {m : List (Int × ν)} {k : Int} {v : ν} (h : mget m k = some v) : (k, v) ∈ m := by
  unfold mget at h
  obtain ⟨p, hp, rfl⟩ := Option.map_eq_some_iff.1 h
  have h1 := List.find?_some hp
  have h2 := List.mem_of_find?_eq_some hp
  simp at h1
  subst h1
  exact h2
theorem mget_none {ν : Type} {m : List (Int × ν)} {k : Int} (h : mget m k = none) : ∀ p ∈ m, p.1 ≠ k := by
  unfold mget at h
  simp only [Option.map_eq_none_iff] at h
  intro p hp e
  have := List.find?_eq_none.1 h p hp
  simp [e] at this

theorem lkOk_take {t : LTab} (h : lkOk t) (txn page mode : Int) : lkOk (lkTake t txn page mode) := by
  unfold lkTake
  split
  · rename_i h0
    have hb : lkBad txn page mode = false := by
      cases hb : lkBad txn page mode
      · rfl
      · simp [lkMay, hb] at h0
    have hm : mode = 1 ∨ mode = 2 := by simp [lkBad] at hb; omega
    intro m hm'
    rcases List.mem_or_eq_of_mem_set hm' with hm' | rfl
    · exact h m hm'
    · have ho : mapOk (t.getD page.toNat []) := by
        by_cases hl : page.toNat < t.length
        · exact h _ (by simp [hl])
        · have : t.getD page.toNat [] = [] := by simp [List.getD, show t[page.toNat]? = none by simp; omega]
          rw [this]
          exact mapOk_nil
      have hany : (t.getD page.toNat []).any (lkHit txn mode) = false := by
        simp only [lkMay, hb, Bool.false_eq_true, if_false] at h0
        cases ha : (t.getD page.toNat []).any (lkHit txn mode)
        · rfl
        · rw [ha] at h0; simp at h0
      generalize t.getD page.toNat [] = m0 at *
      obtain ⟨h1, h2, h3⟩ := ho
      have hno : ∀ q ∈ m0, q.1 ≠ txn → q.2 = 1 ∧ mode = 1 := by
        intro q hq hne
        have := List.any_eq_false.1 hany q hq
        have h4 := h2 q hq
        simp [lkHit, hne] at this
        omega
      have hv : ∀ v, v = max ((mget m0 txn).getD 0) mode → (v = 1 ∨ v = 2) := by
        intro v hv
        cases hg : mget m0 txn with
        | none => rw [hg] at hv; simp at hv; omega
        | some x => have h5 := h2 _ (mget_mem hg); rw [hg] at hv; simp at hv h5; omega
      refine ⟨nodup_mput h1 _ _, fun p hp => ?_, fun p hp e q hq => ?_⟩
      · rcases mem_mput hp with rfl | ⟨hp, _⟩
        · exact hv _ rfl
        · exact h2 p hp
      · rcases mem_mput hp with rfl | ⟨hp, hne⟩
        · rcases mem_mput hq with rfl | ⟨hq, hqn⟩
          · rfl
          · exfalso
            obtain ⟨hq1, hm1⟩ := hno q hq hqn
            simp at e
            cases hg : mget m0 txn with
            | none => rw [hg] at e; simp at e; omega
            | some x =>
              rw [hg] at e
              simp at e
              have hx2 : x = 2 := by have := h2 _ (mget_mem hg); simp at this; omega
              subst hx2
              exact hqn (h3 _ (mget_mem hg) rfl q hq)
        · exfalso
          have := hno p hp hne
          omega
  · exact h
structure RelLR (t : LTab) (L : List RRow) : Prop where
  len : t.length = 8
  ok : lkOk t
  mem : ∀ i : Nat, i < 8 → ∀ k v, (k, v) ∈ t.getD i [] ↔ (⟨k, (i : Int), v⟩ : RRow) ∈ L
  nd : (L.map (fun x => (x.txn, x.page))).Nodup
  pg : ∀ x ∈ L, 0 ≤ x.page ∧ x.page < 8

theorem RelLR.empty : RelLR lkEmpty [] := by
  refine ⟨rfl, lkOk_empty, fun i hi k v => ?_, by simp, by simp⟩
  have : lkEmpty.getD i [] = [] := by
    obtain rfl | rfl | rfl | rfl | rfl | rfl | rfl | rfl : i = 0 ∨ i = 1 ∨ i = 2 ∨ i = 3 ∨ i = 4 ∨ i = 5 ∨ i = 6 ∨ i = 7 := by omega
    all_goals rfl
  rw [this]
  simp

theorem mget_iff {m : List (Int × Int)} (hn : (m.map (·.1)).Nodup) (k v : Int) : mget m k = some v ↔ (k, v) ∈ m := by
  constructor
  · exact mget_mem
  · intro h
    obtain ⟨j, hj⟩ := List.getElem?_of_mem h
    exact mget_of hn hj

theorem rf_find {L : List RRow} (hn : (L.map (fun x => (x.txn, x.page))).Nodup) {x : RRow} (hx : x ∈ L) : L.find? (rfIs x.txn x.page) = some x := by
  induction L with
  | nil => simp at hx
  | cons y r ih =>
    simp only [List.map_cons, List.nodup_cons] at hn
    rcases List.mem_cons.1 hx with rfl | hx
    · simp [rfIs]
    · have hne : rfIs x.txn x.page y = false := by
        cases h : rfIs x.txn x.page y
        · rfl
        · simp [rfIs] at h
          exact absurd (List.mem_map.2 ⟨x, hx, by simp [h.1, h.2]⟩) hn.1
      rw [List.find?_cons, hne]
      exact ih hn.2 hx

theorem RelLR.mode {t : LTab} {L : List RRow} (h : RelLR t L) (txn page : Int) : lkMode t txn page = rfMode L txn page := by
  unfold lkMode rfMode
  by_cases hp : 0 ≤ page ∧ page < 8
  · rw [if_pos hp]
    have hok : mapOk (t.getD page.toNat []) := h.ok _ (by have := h.len; simp [show page.toNat < t.length by omega])
    have hm := h.mem page.toNat (by omega)
    rw [show ((page.toNat : Nat) : Int) = page by omega] at hm
    cases hg : mget (t.getD page.toNat []) txn with
    | none =>
      cases hf : L.find? (rfIs txn page) with
      | none => rfl
      | some x =>
        exfalso
        have h1 := List.find?_some hf
        have h2 := List.mem_of_find?_eq_some hf
        simp [rfIs] at h1
        obtain ⟨rfl, rfl⟩ := h1
        exact mget_none hg _ ((hm x.txn x.mode).2 h2) rfl
    | some v =>
      have h1 := (hm txn v).1 (mget_mem hg)
      have h2 := rf_find h.nd h1
      simp only at h2
      rw [h2]
      rfl
  · rw [if_neg hp]
    cases hf : L.find? (rfIs txn page) with
    | none => rfl
    | some x =>
      have h1 := List.find?_some hf
      have h2 := h.pg _ (List.mem_of_find?_eq_some hf)
      simp [rfIs] at h1
      omega

theorem RelLR.may {t : LTab} {L : List RRow} (h : RelLR t L) (txn page mode : Int) : lkMay t txn page mode = rfMay L txn page mode := by
  have hbb : lkBad txn page mode = rfBad txn page mode := by
    unfold lkBad rfBad
    rw [Bool.eq_iff_iff]
    simp
    omega
  unfold lkMay rfMay
  rw [hbb]
  cases hb : rfBad txn page mode
  · simp only [Bool.false_eq_true, if_false]
    have hp : 0 ≤ page ∧ page < 8 ∧ 1 ≤ mode ∧ mode ≤ 2 := by simp [rfBad] at hb; omega
    have hok : mapOk (t.getD page.toNat []) := h.ok _ (by have := h.len; simp [show page.toNat < t.length by omega])
    have hm := h.mem page.toNat (by omega)
    rw [show ((page.toNat : Nat) : Int) = page by omega] at hm
    have : (t.getD page.toNat []).any (lkHit txn mode) = L.any (rfHit txn page mode) := by
      rw [Bool.eq_iff_iff, List.any_eq_true, List.any_eq_true]
      constructor
      · rintro ⟨⟨k, v⟩, hk, hh⟩
        refine ⟨_, (hm k v).1 hk, ?_⟩
        have := hok.2.1 _ hk
        simp [lkHit] at hh this
        simp [rfHit]
        omega
      · rintro ⟨⟨k, pg, v⟩, hk, hh⟩
        simp [rfHit] at hh
        obtain ⟨⟨h1, rfl⟩, h2⟩ := hh
        have h3 := (hm k v).2 hk
        refine ⟨_, h3, ?_⟩
        have := hok.2.1 _ h3
        simp at this
        simp [lkHit, h1]
        omega
    rw [this]
  · rfl

theorem mgetPut {ν : Type} (m : List (Int × ν)) (k : Int) (v : ν) : mget (mput m k v) k = some v := by
  unfold mput
  split
  · rename_i h
    induction m with
    | nil => simp at h
    | cons p m ih =>
      unfold mget
      rw [List.map_cons, List.find?_cons]
      by_cases hp : (p.1 == k) = true
      · simp [hp]
      · have hp : (p.1 == k) = false := by simpa using hp
        simp only [List.any_cons, hp, Bool.false_or] at h
        simp only [hp, Bool.false_eq_true, if_false]
        exact ih h
  · rename_i h
    unfold mget
    rw [List.find?_append, List.find?_eq_none.2 (fun p hp => fun e => h (List.any_eq_true.2 ⟨p, hp, e⟩))]
    simp

theorem mem_mput_iff {m : List (Int × Int)} {k v : Int} (p : Int × Int) : p ∈ mput m k v ↔ p = (k, v) ∨ (p ∈ m ∧ p.1 ≠ k) := by
  constructor
  · exact mem_mput
  · rintro (rfl | ⟨h1, h2⟩)
    · exact mget_mem (mgetPut m k v)
    · unfold mput
      split
      · exact List.mem_map.2 ⟨p, h1, by simp [h2]⟩
      · exact List.mem_append_left _ h1

theorem rfUp_mem {L : List RRow} {txn page mode : Int} (hn : (L.map (fun x => (x.txn, x.page))).Nodup) (hm : 0 ≤ mode) (y : RRow) :
    y ∈ rfUp txn page mode L ↔ (y ∈ L ∧ rfIs txn page y = false) ∨ y = ⟨txn, page, max (rfMode L txn page) mode⟩ := by
  induction L with
  | nil => simp [rfUp, rfMode]; rw [show max 0 mode = mode by omega]
  | cons x r ih =>
    simp only [List.map_cons, List.nodup_cons] at hn
    unfold rfUp
    cases hx : rfIs txn page x with
    | true =>
      have hx' := hx
      simp [rfIs] at hx'
      obtain ⟨e1, e2⟩ := hx'
      have hr : ∀ z ∈ r, rfIs txn page z = false := by
        intro z hz
        cases h : rfIs txn page z
        · rfl
        · simp [rfIs] at h
          exact absurd (List.mem_map.2 ⟨z, hz, by simp [h.1, h.2, e1, e2]⟩) hn.1
      have hmo : rfMode (x :: r) txn page = x.mode := by simp [rfMode, hx]
      rw [hmo]
      simp only [if_true, List.mem_cons]
      constructor
      · rintro (rfl | h)
        · right; cases x; simp_all
        · left; exact ⟨.inr h, hr y h⟩
      · rintro (⟨rfl | h, h2⟩ | rfl)
        · rw [hx] at h2; cases h2
        · exact .inr h
        · left; cases x; simp_all
    | false =>
      have hmo : rfMode (x :: r) txn page = rfMode r txn page := by simp [rfMode, hx]
      rw [hmo]
      simp only [Bool.false_eq_true, if_false, List.mem_cons]
      rw [ih hn.2]
      constructor
      · rintro (rfl | h | h)
        · exact .inl ⟨.inl rfl, hx⟩
        · exact .inl ⟨.inr h.1, h.2⟩
        · exact .inr h
      · rintro (⟨rfl | h, h2⟩ | h)
        · exact .inl rfl
        · exact .inr (.inl ⟨h, h2⟩)
        · exact .inr (.inr h)

theorem rfUp_keys {L : List RRow} {txn page mode : Int} (hn : (L.map (fun x => (x.txn, x.page))).Nodup) : ((rfUp txn page mode L).map (fun x => (x.txn, x.page))).Nodup := by
  have key : ∀ L : List RRow, (rfUp txn page mode L).map (fun x => (x.txn, x.page)) = L.map (fun x => (x.txn, x.page)) ∨ ((rfUp txn page mode L).map (fun x => (x.txn, x.page)) = L.map (fun x => (x.txn, x.page)) ++ [(txn, page)] ∧ ∀ x ∈ L, rfIs txn page x = false) := by
    intro L
    induction L with
    | nil => right; simp [rfUp]
    | cons x r ih =>
      unfold rfUp
      cases hx : rfIs txn page x with
      | true => left; simp
      | false =>
        rcases ih with h | ⟨h, h2⟩
        · left; simp [h]
        · right
          refine ⟨by simp [h], fun y hy => ?_⟩
          rcases List.mem_cons.1 hy with rfl | hy
          · exact hx
          · exact h2 y hy
  rcases key L with h | ⟨h, h2⟩
  · rw [h]; exact hn
  · rw [h]
    refine List.nodup_append.2 ⟨hn, by simp, ?_⟩
    intro a ha b hb
    simp at hb
    subst hb
    intro e
    subst e
    obtain ⟨x, hx, he⟩ := List.mem_map.1 ha
    have := h2 x hx
    simp at he
    simp [rfIs, he.1, he.2] at this

theorem RelLR.take {t : LTab} {L : List RRow} (h : RelLR t L) (txn page mode : Int) : RelLR (lkTake t txn page mode) (rfTake L txn page mode) := by
  have hok := lkOk_take h.ok txn page mode
  have hmay := h.may txn page mode
  have hmode := h.mode txn page
  unfold rfTake
  rw [← hmay]
  unfold lkTake at hok ⊢
  by_cases h0 : lkMay t txn page mode = 0
  · rw [if_pos h0] at hok ⊢
    rw [if_pos h0]
    have hb : lkBad txn page mode = false := by
      cases hb : lkBad txn page mode
      · rfl
      · simp [lkMay, hb] at h0
    have hp : 0 ≤ page ∧ page < 8 ∧ 1 ≤ mode ∧ mode ≤ 2 := by simp [lkBad] at hb; omega
    have hl := h.len
    have hmode2 : (mget (t.getD page.toNat []) txn).getD 0 = rfMode L txn page := by
      rw [← hmode, lkMode, if_pos ⟨hp.1, hp.2.1⟩]
    refine ⟨by simp [hl], hok, fun i hi k v => ?_, rfUp_keys h.nd, fun x hx => ?_⟩
    · rw [rfUp_mem h.nd (by omega)]
      by_cases hip : page.toNat = i
      · subst hip
        have : (t.set page.toNat (mput (t.getD page.toNat []) txn (max ((mget (t.getD page.toNat []) txn).getD 0) mode))).getD page.toNat [] = mput (t.getD page.toNat []) txn (max ((mget (t.getD page.toNat []) txn).getD 0) mode) := by
          simp [List.getD, show page.toNat < t.length by omega]
        rw [this, mem_mput_iff, hmode2, h.mem page.toNat hi]
        have hpp : ((page.toNat : Nat) : Int) = page := by omega
        rw [hpp]
        simp only [Prod.mk.injEq, RRow.mk.injEq, rfIs, true_and]
        constructor
        · rintro (⟨rfl, rfl⟩ | ⟨h1, h2⟩)
          · exact .inr ⟨rfl, rfl⟩
          · exact .inl ⟨h1, by simp [h2]⟩
        · rintro (⟨h1, h2⟩ | ⟨rfl, rfl⟩)
          · right; refine ⟨h1, ?_⟩; simpa using h2
          · exact .inl ⟨rfl, rfl⟩
      · have : (t.set page.toNat (mput (t.getD page.toNat []) txn (max ((mget (t.getD page.toNat []) txn).getD 0) mode))).getD i [] = t.getD i [] := by
          simp [List.getD, List.getElem?_set_ne hip]
        rw [this, h.mem i hi]
        have hne : ¬ (i : Int) = page := by omega
        constructor
        · intro h1; exact .inl ⟨h1, by simp [rfIs, hne]⟩
        · rintro (⟨h1, _⟩ | h1)
          · exact h1
          · simp [hne] at h1
    · rcases (rfUp_mem h.nd (by omega) x).1 hx with ⟨h1, _⟩ | rfl
      · exact h.pg x h1
      · exact ⟨hp.1, hp.2.1⟩
  · rw [if_neg h0] at hok ⊢
    rw [if_neg h0]
    exact h

end Go.Proofs.Ytlhblkpdfdpiaaa
