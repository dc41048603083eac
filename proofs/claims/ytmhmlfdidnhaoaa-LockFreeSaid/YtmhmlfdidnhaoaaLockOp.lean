import Derived.Test.YtmhmlfdidnhaoaaLockAwake
import Derived.Test.YtmhmlfdidnhaoaaOpen
namespace Go.Proofs.Ytmhmlfdidnhaoaa
open Go.RowKit Go.ChangeMaps

/-- An Op of the law's. -/
structure LOp where
  kind : Int
  txn : Int
  page : Int
  mode : Int
def encLOp (x : LOp) : List Value := [.int .i64 x.kind, .int .i64 x.txn, .int .i64 x.page, .int .i64 x.mode]
/-- The integers fit. -/
def fits (x : Int) : Prop := -9223372036854775808 ≤ x ∧ x < 9223372036854775808
theorem fits_of {x : Int} (h : (Lit.int .i64 x).wf = true) : fits x := by
  simp [Lit.wf, IntKind.min, IntKind.max, IntKind.signed, IntKind.bits] at h
  unfold fits
  omega

theorem opens_lop (w : World) : Opens Try.prog w 27 (fun (x : LOp) cs => cs = encLOp x) := by
  intro H enc held fuel cs y h
  obtain ⟨xs, n, rfl, _, hl, hx, hf⟩ := DataW.trod_struct Try.underlying27 h
  have c4 : Try.prog.cellsOf 27 = 4 := by kernel_rfl
  have c1 : Try.prog.cellsOf 3 = 1 := by kernel_rfl
  rw [c4] at hl
  match cs, hl with
  | [x0, x1, x2, x3], _ =>
    have f0 := hf 0 _ rfl
    have f1 := hf 1 _ rfl
    have f2 := hf 2 _ rfl
    have f3 := hf 3 _ rfl
    obtain ⟨y0, g0⟩ := fld (m := 4) hx (by omega) f0
    obtain ⟨y1, g1⟩ := fld (m := 4) hx (by omega) f1
    obtain ⟨y2, g2⟩ := fld (m := 4) hx (by omega) f2
    obtain ⟨y3, g3⟩ := fld (m := 4) hx (by omega) f3
    obtain ⟨n0, e0, _⟩ := opens_int (w := w) Try.underlying3 _ _ _ _ _ g0
    obtain ⟨n1, e1, _⟩ := opens_int (w := w) Try.underlying3 _ _ _ _ _ g1
    obtain ⟨n2, e2, _⟩ := opens_int (w := w) Try.underlying3 _ _ _ _ _ g2
    obtain ⟨n3, e3, _⟩ := opens_int (w := w) Try.underlying3 _ _ _ _ _ g3
    simp [c1] at e0 e1 e2 e3
    subst e0 e1 e2 e3
    exact ⟨⟨n0, n1, n2, n3⟩, rfl⟩

theorem opens_lops (w : World) : Opens Try.prog w 22 (fun (l : List LOp) cs => ∃ v, cs = [v] ∧ RdR w 4 (fun (x : LOp) cs => cs = encLOp x) v l) :=
  opens_slice Try.underlying22 (by kernel_rfl) (by omega) (opens_lop w)

/-! ### what every table keeps -/
def mapOk (m : List (Int × Int)) : Prop := (m.map (·.1)).Nodup ∧ (∀ p ∈ m, p.2 = 1 ∨ p.2 = 2) ∧ ∀ p ∈ m, p.2 = 2 → ∀ q ∈ m, q.1 = p.1
def lkOk (t : LTab) : Prop := ∀ m ∈ t, mapOk m

theorem mapOk_nil : mapOk [] := ⟨by simp, by simp, by simp⟩
theorem lkOk_empty : lkOk lkEmpty := by
  intro m hm
  have : m = [] := by simp [lkEmpty] at hm; exact hm
  subst this
  exact mapOk_nil

theorem mapOk_del {m : List (Int × Int)} (h : mapOk m) (k : Int) : mapOk (mdel m k) := by
  obtain ⟨h1, h2, h3⟩ := h
  have hs : (mdel m k).Sublist m := List.filter_sublist
  exact ⟨List.Nodup.sublist (hs.map _) h1, fun p hp => h2 p (hs.subset hp), fun p hp e q hq => h3 p (hs.subset hp) e q (hs.subset hq)⟩

theorem lkOk_free {t : LTab} (h : lkOk t) (txn : Int) : lkOk (lkFree t txn) := by
  intro m hm
  simp only [lkFree, List.mem_map] at hm
  obtain ⟨m', hm', rfl⟩ := hm
  unfold lkFreeM
  split
  · exact mapOk_del (h m' hm') _
  · exact h m' hm'

theorem mem_mput {ν : Type} {m : List (Int × ν)} {k : Int} {v : ν} {p : Int × ν} (h : p ∈ mput m k v) : p = (k, v) ∨ (p ∈ m ∧ p.1 ≠ k) := by
  unfold mput at h
  split at h
  · simp only [List.mem_map] at h
    obtain ⟨q, hq, rfl⟩ := h
    by_cases hk : q.1 = k
    · left; simp [hk]
    · right; simp [hk, hq]
  · rename_i hn
    rw [List.mem_append] at h
    rcases h with h | h
    · right
      refine ⟨h, fun e => hn (List.any_eq_true.2 ⟨p, h, by simpa using e⟩)⟩
    · left; simpa using h

theorem nodup_mput {ν : Type} {m : List (Int × ν)} (h : (m.map (·.1)).Nodup) (k : Int) (v : ν) : ((mput m k v).map (·.1)).Nodup := by
  unfold mput
  split
  · have : (m.map (fun p => if p.1 == k then (k, v) else p)).map (·.1) = m.map (·.1) := by
      rw [List.map_map]
      apply List.map_congr_left
      intro p _
      by_cases hk : p.1 = k
      · simp [hk]
      · simp [hk]
    rw [this]
    exact h
  · rename_i hn
    rw [List.map_append]
    refine List.nodup_append.2 ⟨h, by simp, ?_⟩
    intro a ha b hb
    simp at hb
    subst hb
    intro e
    subst e
    obtain ⟨p, hp, rfl⟩ := List.mem_map.1 ha
    exact hn (List.any_eq_true.2 ⟨p, hp, by simp⟩)

theorem mget_mem {ν : Type} {m : List (Int × ν)} {k : Int} {v : ν} (h : mget m k = some v) : (k, v) ∈ m := by
  unfold mget at h
  obtain ⟨p, hp, rfl⟩ := Option.map_eq_some_iff.1 h
  have h1 := List.find?_some hp
  have h2 := List.mem_of_find?_eq_some hp
  simp at h1
  subst h1
  exact h2
theorem mget_none {ν : Type} {m : List (Int × ν)} {k : Int} (h : mget m k = none) : ∀ p ∈ m, p.1 ≠ k := by
  unfold mget at h
  simp only [Option.map_eq_none_iff] at h
  intro p hp e
  have := List.find?_eq_none.1 h p hp
  simp [e] at this

theorem lkOk_take {t : LTab} (h : lkOk t) (txn page mode : Int) : lkOk (lkTake t txn page mode) := by
  unfold lkTake
  split
  · rename_i h0
    have hb : lkBad txn page mode = false := by
      cases hb : lkBad txn page mode
      · rfl
      · simp [lkMay, hb] at h0
    have hm : mode = 1 ∨ mode = 2 := by simp [lkBad] at hb; omega
    intro m hm'
    rcases List.mem_or_eq_of_mem_set hm' with hm' | rfl
    · exact h m hm'
    · have ho : mapOk (t.getD page.toNat []) := by
        by_cases hl : page.toNat < t.length
        · exact h _ (by simp [hl])
        · have : t.getD page.toNat [] = [] := by simp [List.getD, show t[page.toNat]? = none by simp; omega]
          rw [this]
          exact mapOk_nil
      have hany : (t.getD page.toNat []).any (lkHit txn mode) = false := by
        simp only [lkMay, hb, Bool.false_eq_true, if_false] at h0
        cases ha : (t.getD page.toNat []).any (lkHit txn mode)
        · rfl
        · rw [ha] at h0; simp at h0
      generalize t.getD page.toNat [] = m0 at *
      obtain ⟨h1, h2, h3⟩ := ho
      have hno : ∀ q ∈ m0, q.1 ≠ txn → q.2 = 1 ∧ mode = 1 := by
        intro q hq hne
        have := List.any_eq_false.1 hany q hq
        have h4 := h2 q hq
        simp [lkHit, hne] at this
        omega
      have hv : ∀ v, v = max ((mget m0 txn).getD 0) mode → (v = 1 ∨ v = 2) := by
        intro v hv
        cases hg : mget m0 txn with
        | none => rw [hg] at hv; simp at hv; omega
        | some x => have h5 := h2 _ (mget_mem hg); rw [hg] at hv; simp at hv h5; omega
      refine ⟨nodup_mput h1 _ _, fun p hp => ?_, fun p hp e q hq => ?_⟩
      · rcases mem_mput hp with rfl | ⟨hp, _⟩
        · exact hv _ rfl
        · exact h2 p hp
      · rcases mem_mput hp with rfl | ⟨hp, hne⟩
        · rcases mem_mput hq with rfl | ⟨hq, hqn⟩
          · rfl
          · exfalso
            obtain ⟨hq1, hm1⟩ := hno q hq hqn
            simp at e
            cases hg : mget m0 txn with
            | none => rw [hg] at e; simp at e; omega
            | some x =>
              rw [hg] at e
              simp at e
              have hx2 : x = 2 := by have := h2 _ (mget_mem hg); simp at this; omega
              subst hx2
              exact hqn (h3 _ (mget_mem hg) rfl q hq)
        · exfalso
          have := hno p hp hne
          omega
  · exact h
end Go.Proofs.Ytmhmlfdidnhaoaa
