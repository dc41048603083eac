import Derived.Test.YtmhmlfdidnhaoaaLockOp
namespace Go.Proofs.Ytmhmlfdidnhaoaa
open Go.RowKit Go.ChangeMaps

theorem mget_mput {ν : Type} (m : List (Int × ν)) (k : Int) (v : ν) : mget (mput m k v) k = some v := by
  unfold mget mput
  split
  · rename_i h
    rw [List.find?_map]
    obtain ⟨p, hp, hk⟩ := List.any_eq_true.1 h
    have : (m.find? ((fun p : Int × ν => p.1 == k) ∘ fun p => if p.1 == k then (k, v) else p)) = m.find? (fun p => p.1 == k) := by
      congr 1
      funext q
      by_cases hq : q.1 = k <;> simp [hq]
    rw [this]
    cases hf : m.find? (fun p => p.1 == k) with
    | none => have := List.find?_eq_none.1 hf p hp; simp at hk this; exact absurd hk this
    | some q => have := List.find?_some hf; simp at this; simp [this]
  · rename_i h
    have : m.find? (fun p => p.1 == k) = none := List.find?_eq_none.2 fun p hp => by
      intro hk
      exact h (List.any_eq_true.2 ⟨p, hp, hk⟩)
    rw [List.find?_append, this]
    simp

/-- Whoever may have a page gets it; who is refused has what it had. -/
theorem take_mode {t : LTab} (ht : t.length = 8) (txn page mode : Int) : lkMode (lkTake t txn page mode) txn page = if lkMay t txn page mode = 0 then max (lkMode t txn page) mode else lkMode t txn page := by
  unfold lkTake
  by_cases h0 : lkMay t txn page mode = 0
  · rw [if_pos h0, if_pos h0]
    have hb : lkBad txn page mode = false := by
      cases hb : lkBad txn page mode
      · rfl
      · simp [lkMay, hb] at h0
    have hp : 0 ≤ page ∧ page < 8 := by simp [lkBad] at hb; omega
    unfold lkMode
    rw [if_pos hp, if_pos hp]
    have hl : page.toNat < t.length := by omega
    have : (t.set page.toNat (mput (t.getD page.toNat []) txn (max ((mget (t.getD page.toNat []) txn).getD 0) mode))).getD page.toNat [] = mput (t.getD page.toNat []) txn (max ((mget (t.getD page.toNat []) txn).getD 0) mode) := by
      simp [List.getD, hl]
    rw [this, mget_mput]
    rfl
  · rw [if_neg h0, if_neg h0]

structure MRel (w : World) (p : Nat) (rs : List Nat) (wr : World) : Prop where
  st : ∃ t, LockAt wr p rs t ∧ lkOk t
  chg : Chg NoB w wr
  new : ∀ r ∈ p :: rs, w.heap.size ≤ r

set_option maxRecDepth 100000 in
theorem lockMay_walk (w : World) (v : Value) (l : List LOp) (hv : RdR w 4 (fun (x : LOp) cs => cs = encLOp x) v l) (txn : Int) (_ht : (Lit.int .i64 txn).wf = true) (page : Int) (_hp : (Lit.int .i64 page).wf = true) (mode : Int) (_hm : (Lit.int .i64 mode).wf = true) :
    Calls Try.prog 4 #[v, .int .i64 txn, .int .i64 page, .int .i64 mode] w fun e w' => e = .returned (.bool true) ∧ Chg NoB w w' := by
  obtain ⟨a, c, rfl, h1, h2, h3⟩ := hv.rd
  clear hv _ht _hp _hm
  unfold maxLen at h2
  by_cases hlen : 300 < l.length
  · have hl : (300 : Int) < (l.length : Int) := by omega
    go_enter Try.func4, Try.ntmps4
    go_wp2_with (go_at_call 8; refine (awake w).mono ?_; rintro e w1 ⟨rfl, c1⟩)
    refine (awake w1).mono ?_
    rintro e w2 ⟨rfl, c2⟩
    go_wp2
    go_ret
    exact ⟨rfl, c1.trans' c2⟩
  · have hl : ¬ (300 : Int) < (l.length : Int) := by omega
    go_enter Try.func4, Try.ntmps4
    go_wp2_with (first | (go_at_call 8; refine (awake w).mono ?_; rintro e w1 ⟨rfl, c1⟩) | (go_at_call 9; refine (lockNew' w1).mono ?_; rintro e w2 ⟨⟨p, rs, rfl, hL, hn⟩, c2⟩))
    have hA0 : MRel w p rs w2 := ⟨⟨_, hL, lkOk_empty⟩, c1.trans' c2, fun r hr => Nat.le_trans c1.size (hn r hr)⟩
    clear hL hn c2
    have H3 := hid h3
    clear h3
    go_loopw [27] (fun i wr => ∃ k : Nat, k ≤ l.length ∧ i = .int .i64 k ∧ MRel w p rs wr) (fun i _ => l.length - (intOf i).toNat)
    case atStart => exact ⟨0, by omega, rfl, hA0⟩
    case round =>
      obtain ⟨k, hk, rfl, hA⟩ := hrel
      clear hA0
      obtain ⟨t, hL, hO⟩ := hA.st
      have hC := hA.chg
      have hN := hA.new
      clear hA
      by_cases hlt : k < l.length
      · obtain ⟨b, off, rfl, hcs⟩ := Rd.cells H3.out hC k hlt
        obtain ⟨x, hx⟩ := named l[k]
        rw [← hx.out] at hcs
        have g0 : wr.cell? ⟨b, off + k * 4, none⟩ = some (.int .i64 x.kind) := hcs 0 _ rfl
        have g1 : wr.cell? ⟨b, off + k * 4 + 1, none⟩ = some (.int .i64 x.txn) := hcs 1 _ rfl
        have g2 : wr.cell? ⟨b, off + k * 4 + 2, none⟩ = some (.int .i64 x.page) := hcs 2 _ rfl
        have g3 : wr.cell? ⟨b, off + k * 4 + 3, none⟩ = some (.int .i64 x.mode) := hcs 3 _ rfl
        clear hcs
        have hlt2 : (k : Int) < (l.length : Int) := by omega
        obtain ⟨O, hO'⟩ := named (Obj.cells #[Value.int IntKind.i64 x.kind, Value.int IntKind.i64 x.txn, Value.int IntKind.i64 x.page, Value.int IntKind.i64 x.mode] 27)
        have hL3 : LockAt (wr.alloc O) p rs t := hL.keep ((Chg.refl NoB _).alloc _) (fun e => e) (fun _ _ e => e)
        have hC3 : Chg NoB w (wr.alloc O) := hC.alloc _
        rw [hO'.out] at hL3 hC3
        go_wp2_with fail
        obtain ⟨res, hres⟩ := named (lkMay t x.txn x.page x.mode)
        refine (lockTake p rs t _ _ _ _ hL3 res hres _ (hid rfl)).mono ?_
        rintro e w4 ⟨rfl, hL4, hC4⟩
        have hO4 := lkOk_take hO x.txn x.page x.mode
        have hC5 : Chg NoB w w4 := hC3.new hC4 fun i hi => hN i (List.mem_cons_of_mem _ hi)
        clear hC4 hL3 hC3 hC hL g0 g1 g2 g3
        go_wp2_with fail
        go_roundw
        case rel => exact ⟨k + 1, by omega, by go_num, ⟨⟨_, hL4, hO4⟩, hC5, hN⟩⟩
        case measure => simp [intOf]; omega
      · obtain rfl : k = l.length := by omega
        obtain ⟨was, hwas⟩ := named (lkMode t txn page)
        obtain ⟨res, hres⟩ := named (lkMay t txn page mode)
        obtain ⟨now, hnow⟩ := named (lkMode (lkTake t txn page mode) txn page)
        have HP : Hid (now = if res = 0 then max was mode else was) := by
          rw [hnow.out, take_mode hL.lt, hwas.out, hres.out]; rfl
        go_wp2_with fail
        refine (lockMode p rs t txn page wr hL was hwas).mono ?_
        rintro e w5 ⟨rfl, rfl⟩
        go_wp2_with fail
        refine (lockMay p rs t txn page mode wr hL res hres).mono ?_
        rintro e w6 ⟨rfl, c6⟩
        have hL6 := hL.keep c6 (fun e => e) (fun _ _ e => e)
        clear hL
        go_wp2_with fail
        refine (lockTake p rs t txn page mode w6 hL6 res hres _ (hid rfl)).mono ?_
        rintro e w7 ⟨rfl, hL7, c7⟩
        clear hL6
        go_wp2_with fail
        refine (lockMode p rs _ txn page w7 hL7 now hnow).mono ?_
        rintro e w8 ⟨rfl, rfl⟩
        have hfin : Chg NoB w w7 := (hC.trans' c6).new c7 fun i hi => hN i (List.mem_cons_of_mem _ hi)
        clear hL7 c7 c6
        cases e0 : (res == 0)
        · have HN : now = was := by have := HP.out; simp at e0; rw [if_neg e0] at this; exact this
          have e1 : (now == was) = true := by simp [HN]
          have e2 : (res != 0) = true := by simp at e0; simp [e0]
          clear HN
          go_wp2
          go_ret
          exact ⟨rfl, hfin⟩
        · have HN : now = max was mode := by have := HP.out; simp at e0; rw [if_pos e0] at this; exact this
          by_cases e3 : was < mode
          · have e1 : (now == mode) = true := by simp; omega
            clear HN
            go_wp2
            go_ret
            exact ⟨rfl, hfin⟩
          · have e1 : (now == was) = true := by simp; omega
            clear HN
            go_wp2
            go_ret
            exact ⟨rfl, hfin⟩
end Go.Proofs.Ytmhmlfdidnhaoaa
