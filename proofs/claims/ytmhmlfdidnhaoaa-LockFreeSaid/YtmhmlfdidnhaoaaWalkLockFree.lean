import Derived.Test.YtmhmlfdidnhaoaaLockOp
namespace Go.Proofs.Ytmhmlfdidnhaoaa
open Go.RowKit Go.ChangeMaps

theorem mget_mdel {ν : Type} (m : List (Int × ν)) (k : Int) : mget (mdel m k) k = none := by
  unfold mget mdel
  have : (m.filter (fun p => !(p.1 == k))).find? (fun p => p.1 == k) = none := List.find?_eq_none.2 fun p hp => by
    have := (List.mem_filter.1 hp).2
    simpa using this
  rw [this]
  rfl

theorem pages_count {t : LTab} (ht : t.length = 8) (txn : Int) : (((lkPages t txn).length : Nat) : Int) = lkCount t txn := by
  match t, ht with
  | [m0, m1, m2, m3, m4, m5, m6, m7], _ =>
    have hm : ∀ (i : Nat), i < 8 → lkMode [m0, m1, m2, m3, m4, m5, m6, m7] txn (i : Int) = (mget ([m0, m1, m2, m3, m4, m5, m6, m7].getD i []) txn).getD 0 := by
      intro i hi
      unfold lkMode
      rw [if_pos (by omega)]
      try simp
    have hp : lkPages [m0, m1, m2, m3, m4, m5, m6, m7] txn = ((List.range 8).filter (fun i : Nat => lkHas txn ([m0, m1, m2, m3, m4, m5, m6, m7].getD i []))).map (fun i => ((i : Nat) : Int)) := by
      unfold lkPages lkPagesK
      refine congrArg (List.map _) (List.filter_congr fun i hi => ?_)
      rw [hm i (by simpa using hi)]
      rfl
    rw [hp, List.length_map]
    unfold lkCount
    have hr : List.range 8 = [0, 1, 2, 3, 4, 5, 6, 7] := rfl
    rw [hr]
    simp only [List.filter_cons, List.filter_nil, List.getD_cons_zero, List.getD_cons_succ]
    cases lkHas txn m0 <;> cases lkHas txn m1 <;> cases lkHas txn m2 <;> cases lkHas txn m3 <;> cases lkHas txn m4 <;> cases lkHas txn m5 <;> cases lkHas txn m6 <;> cases lkHas txn m7 <;> rfl

theorem free_mode {t : LTab} (txn page : Int) : ¬ 0 < lkMode (lkFree t txn) txn page := by
  unfold lkMode
  split
  · have : (lkFree t txn).getD page.toNat [] = lkFreeM txn (t.getD page.toNat []) := by
      unfold lkFree
      simp only [List.getD, List.getElem?_map]
      cases t[page.toNat]? with
      | none => rfl
      | some m => rfl
    rw [this]
    unfold lkFreeM
    split
    · rw [mget_mdel]; simp
    · rename_i h; simpa [lkHas] using h
  · omega
theorem free_pages {t : LTab} (txn : Int) : lkPages (lkFree t txn) txn = [] := by
  unfold lkPages lkPagesK
  have : (List.range 8).filter (fun i : Nat => decide (0 < lkMode (lkFree t txn) txn (i : Int))) = [] := List.filter_eq_nil_iff.2 fun i _ => by simpa using free_mode txn (i : Int)
  rw [this]
  rfl

/-- Only these two have anything. -/
def onlyTwo (t : LTab) (a b : Int) : Prop := ∀ m ∈ t, ∀ p ∈ m, p.1 = a ∨ p.1 = b
theorem onlyTwo_empty (a b : Int) : onlyTwo lkEmpty a b := by
  intro m hm
  have : m = [] := by simp [lkEmpty] at hm; exact hm
  subst this
  simp
theorem onlyTwo_take {t : LTab} {a b txn : Int} (h : onlyTwo t a b) (ht : txn = a ∨ txn = b) (page mode : Int) : onlyTwo (lkTake t txn page mode) a b := by
  unfold lkTake
  split
  · intro m hm p hp
    rcases List.mem_or_eq_of_mem_set hm with hm | rfl
    · exact h m hm p hp
    · rcases mem_mput hp with rfl | ⟨hp, _⟩
      · exact ht
      · by_cases hl : page.toNat < t.length
        · exact h _ (by simp [hl]) p hp
        · have : t.getD page.toNat [] = [] := by simp [List.getD, show t[page.toNat]? = none by simp; omega]
          rw [this] at hp
          simp at hp
  · exact h

theorem free_may {t : LTab} (hO : lkOk t) {a b : Int} (h : onlyTwo t a b) (page : Int) : lkMay (lkFree t a) b page 2 = 0 ∨ lkMay (lkFree t a) b page 2 = 1 := by
  unfold lkMay
  split
  · exact .inr rfl
  · left
    rw [if_neg]
    intro hany
    obtain ⟨p, hp, hh⟩ := List.any_eq_true.1 hany
    have hg : (lkFree t a).getD page.toNat [] = lkFreeM a (t.getD page.toNat []) := by
      unfold lkFree
      simp only [List.getD, List.getElem?_map]
      cases t[page.toNat]? with
      | none => rfl
      | some m => rfl
    rw [hg] at hp
    have hm : mapOk (t.getD page.toNat []) ∧ ∀ p ∈ t.getD page.toNat [], p.1 = a ∨ p.1 = b := by
      by_cases hl : page.toNat < t.length
      · exact ⟨hO _ (by simp [hl]), h _ (by simp [hl])⟩
      · have : t.getD page.toNat [] = [] := by simp [List.getD, show t[page.toNat]? = none by simp; omega]
        rw [this]
        exact ⟨mapOk_nil, by simp⟩
    generalize t.getD page.toNat [] = m at *
    obtain ⟨⟨m1, m2, m3⟩, m4⟩ := hm
    simp [lkHit] at hh
    unfold lkFreeM at hp
    split at hp
    · have h1 := List.mem_filter.1 hp
      have h2 := m4 p h1.1
      simp at h1
      omega
    · rename_i hno
      have h2 := m4 p hp
      have hpa : p.1 = a := by omega
      cases hga : mget m a with
      | none => exact mget_none hga p hp hpa
      | some x =>
        have := m2 _ (mget_mem hga)
        simp [lkHas, hga] at hno
        simp at this
        omega

structure FRel (w : World) (p : Nat) (rs : List Nat) (a b : Int) (wr : World) : Prop where
  st : ∃ t, LockAt wr p rs t ∧ lkOk t ∧ onlyTwo t a b
  chg : Chg NoB w wr
  new : ∀ r ∈ p :: rs, w.heap.size ≤ r

set_option maxRecDepth 100000 in
theorem lockFree_walk (w : World) (v : Value) (l : List LOp) (hv : RdR w 4 (fun (x : LOp) cs => cs = encLOp x) v l) (txn : Int) (_ht : (Lit.int .i64 txn).wf = true) (other : Int) (_hp : (Lit.int .i64 other).wf = true) (page : Int) (_hm : (Lit.int .i64 page).wf = true) :
    Calls Try.prog 5 #[v, .int .i64 txn, .int .i64 other, .int .i64 page] w fun e w' => e = .returned (.bool true) ∧ Chg NoB w w' := by
  obtain ⟨a, c, rfl, h1, h2, h3⟩ := hv.rd
  clear hv _ht _hp _hm
  unfold maxLen at h2
  by_cases hlen : 300 < l.length
  · have hl : (300 : Int) < (l.length : Int) := by omega
    go_enter Try.func5, Try.ntmps5
    go_wp2_with (go_at_call 8; refine (awake w).mono ?_; rintro e w1 ⟨rfl, c1⟩)
    refine (awake w1).mono ?_
    rintro e w2 ⟨rfl, c2⟩
    go_wp2
    go_ret
    exact ⟨rfl, c1.trans' c2⟩
  have hl : ¬ (300 : Int) < (l.length : Int) := by omega
  cases hto : (txn == other)
  case true =>
    go_enter Try.func5, Try.ntmps5
    go_wp2_with (go_at_call 8; refine (awake w).mono ?_; rintro e w1 ⟨rfl, c1⟩)
    refine (awake w1).mono ?_
    rintro e w2 ⟨rfl, c2⟩
    go_wp2
    go_ret
    exact ⟨rfl, c1.trans' c2⟩
  case false =>
    go_enter Try.func5, Try.ntmps5
    go_wp2_with (first | (go_at_call 8; refine (awake w).mono ?_; rintro e w1 ⟨rfl, c1⟩) | (go_at_call 9; refine (lockNew' w1).mono ?_; rintro e w2 ⟨⟨p, rs, rfl, hL, hn⟩, c2⟩))
    have hA0 : FRel w p rs txn other w2 := ⟨⟨_, hL, lkOk_empty, onlyTwo_empty _ _⟩, c1.trans' c2, fun r hr => Nat.le_trans c1.size (hn r hr)⟩
    clear hL hn c2
    have H3 := hid h3
    clear h3
    go_loopw [30] (fun i wr => ∃ k : Nat, k ≤ l.length ∧ i = .int .i64 k ∧ FRel w p rs txn other wr) (fun i _ => l.length - (intOf i).toNat)
    case atStart => exact ⟨0, by omega, rfl, hA0⟩
    case round =>
      obtain ⟨k, hk, rfl, hA⟩ := hrel
      clear hA0
      obtain ⟨t, hL, hO, hT⟩ := hA.st
      have hC := hA.chg
      have hN := hA.new
      clear hA
      by_cases hlt : k < l.length
      · obtain ⟨b, off, rfl, hcs⟩ := Rd.cells H3.out hC k hlt
        obtain ⟨x, hx⟩ := named l[k]
        rw [← hx.out] at hcs
        have g0 : wr.cell? ⟨b, off + k * 4, none⟩ = some (.int .i64 x.kind) := hcs 0 _ rfl
        have g1 : wr.cell? ⟨b, off + k * 4 + 1, none⟩ = some (.int .i64 x.txn) := hcs 1 _ rfl
        have g2 : wr.cell? ⟨b, off + k * 4 + 2, none⟩ = some (.int .i64 x.page) := hcs 2 _ rfl
        have g3 : wr.cell? ⟨b, off + k * 4 + 3, none⟩ = some (.int .i64 x.mode) := hcs 3 _ rfl
        clear hcs
        have hlt2 : (k : Int) < (l.length : Int) := by omega
        obtain ⟨O, hO'⟩ := named (Obj.cells #[Value.int IntKind.i64 x.kind, Value.int IntKind.i64 x.txn, Value.int IntKind.i64 x.page, Value.int IntKind.i64 x.mode] 27)
        have hL3 : LockAt (wr.alloc O) p rs t := hL.keep ((Chg.refl NoB _).alloc _) (fun e => e) (fun _ _ e => e)
        have hC3 : Chg NoB w (wr.alloc O) := hC.alloc _
        rw [hO'.out] at hL3 hC3
        by_cases hmine : x.txn = txn ∨ x.txn = other
        · have HM := hid hmine
          have hb : (x.txn == txn) = true ∨ (x.txn == txn) = false ∧ (x.txn == other) = true := by
            by_cases h : x.txn = txn
            · left; simp [h]
            · right; have : x.txn = other := by omega
              simp only [this, beq_self_eq_true, and_true]
              simp; omega
          clear hmine
          rcases hb with hb | ⟨hb, hb2⟩
          all_goals
            go_wp2_with fail
            obtain ⟨res, hres⟩ := named (lkMay t x.txn x.page x.mode)
            refine (lockTake p rs t _ _ _ _ hL3 res hres _ (hid rfl)).mono ?_
            rintro e w4 ⟨rfl, hL4, hC4⟩
            have hO4 := lkOk_take hO x.txn x.page x.mode
            have hT4 := onlyTwo_take hT HM.out x.page x.mode
            have hC5 : Chg NoB w w4 := hC3.new hC4 fun i hi => hN i (List.mem_cons_of_mem _ hi)
            clear hC4 hL3 hC3 hC hL g0 g1 g2 g3
            go_wp2_with fail
            go_roundw
            case rel => exact ⟨k + 1, by omega, by go_num, ⟨⟨_, hL4, hO4, hT4⟩, hC5, hN⟩⟩
            case measure => simp [intOf]; omega
        · have hb : (x.txn == txn) = false := by simp; omega
          have hb2 : (x.txn == other) = false := by simp; omega
          clear hmine
          go_wp2_with fail
          go_roundw
          case rel => exact ⟨k + 1, by omega, by go_num, ⟨⟨_, hL3, hO, hT⟩, hC3, hN⟩⟩
          case measure => simp [intOf]; omega
      · obtain rfl : k = l.length := by omega
        obtain ⟨N, hNn⟩ := named (lkCount t txn)
        have hr : ∀ i, InB rs i → w.heap.size ≤ i := fun i hi => hN i (List.mem_cons_of_mem _ hi)
        go_wp2_with fail
        refine (lockPages p rs t txn wr hL).mono ?_
        rintro e w5 ⟨⟨v5, rfl, hv5⟩, c5⟩
        have hL5 := hL.keep c5 (fun e => e) (fun _ _ e => e)
        obtain ⟨a5, k5, rfl, _, _, _⟩ := Rd.ints_of hv5
        have hcnt : (((lkPages t txn).length : Nat) : Int) = N := by rw [hNn.out]; exact pages_count hL.lt txn
        obtain ⟨n5, hn5⟩ := named (lkPages t txn).length
        rw [← hn5.out] at hcnt ⊢
        have hbe : ((n5 : Int) == (n5 : Int)) = true := by simp
        subst hcnt
        clear hv5 hL
        go_wp2_with fail
        refine (lockFree p rs t txn w5 hL5).mono ?_
        rintro e w6 ⟨rfl, hL6, c6⟩
        rw [← hNn.out]
        go_wp2_with fail
        refine (lockPages p rs _ txn w6 hL6).mono ?_
        rintro e w7 ⟨⟨v7, rfl, hv7⟩, c7⟩
        have hL7 := hL6.keep c7 (fun e => e) (fun _ _ e => e)
        rw [free_pages] at hv7
        obtain ⟨a7, k7, rfl, _, _, _⟩ := Rd.ints_of hv7
        clear hv7 hL6 hL5
        obtain ⟨res, hres⟩ := named (lkMay (lkFree t txn) other page 2)
        have HR : Hid (res = 0 ∨ res = 1) := by have := free_may hO hT page; rw [← hres.out] at this; exact this
        go_wp2_with fail
        refine (lockMay p rs _ other page 2 w7 hL7 res hres).mono ?_
        rintro e w8 ⟨rfl, c8⟩
        have hfin : Chg NoB w w8 := (((hC.trans' c5).new c6 hr).trans' c7).trans' c8
        clear hL7 c5 c6 c7 c8 hC
        have e0 : (res == 0) = true ∨ (res == 0) = false ∧ (res == 1) = true := by
          rcases HR.out with h | h
          · left; simp [h]
          · right; simp [h]
        rcases e0 with e0 | ⟨e0, e1⟩
        all_goals
          go_wp2
          go_ret
          exact ⟨rfl, hfin⟩
end Go.Proofs.Ytmhmlfdidnhaoaa
