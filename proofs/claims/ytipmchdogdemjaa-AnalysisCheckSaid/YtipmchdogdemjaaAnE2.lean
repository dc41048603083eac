import Derived.Test.YtipmchdogdemjaaAnE
namespace Go.Proofs.Ytipmchdogdemjaa
open Go.RowKit Go.ChangeMaps Go.MapKept
set_option linter.unusedVariables false

set_option maxRecDepth 100000 in
set_option maxHeartbeats 8000000 in
theorem entry_end (p rt rp : Nat) (c : Int) (s : AT) (x : Ent) (v1 v2 : Value) (w : World) (h : AnAt w p rt rp c s) (hk : x.r.kind = 3 ∨ x.r.kind = 4) :
    Calls Try.prog 16 #[.pointer (some ⟨p, 0, none⟩), .agg (entC x v1 v2)] w fun e w' => e = .returned (.tuple #[]) ∧ AnAt w' p rt rp c (aEnt c s x) ∧ Chg (AnB rt rp) w w' := by
  have HE : Hid (aEnt c s x = ⟨mdel s.T x.r.txn, s.G⟩) := hid (by unfold aEnt; rw [if_neg (by omega), if_pos hk])
  have HH := hid h
  have hpl := lt_of_block h.blk
  have htl := h.mt.lt
  have hrl := h.mp.lt
  clear h
  have hW0 : Hid (EnI w (w.alloc (.cells (entC x v1 v2) 30)) w.heap.size p rt rp c s x v1 v2 ∧ Chg NoB w (w.alloc (.cells (entC x v1 v2) 30))) := hid ⟨⟨HH.out.keep0 ((Chg.refl NoB w).alloc _), blk_new _ _, ((Chg.refl _ w).alloc _), Nat.le_refl _⟩, (Chg.refl NoB w).alloc _⟩
  unfold entC at hW0 ⊢
  have hb1 : (x.r.kind == 1) = false := by rcases hk with hk | hk <;> simp [hk]
  have hb2 : (x.r.kind == 2) = false := by rcases hk with hk | hk <;> simp [hk]
  have HK := hid hk
  clear hk
  go_enter Try.func16, Try.ntmps16
  go_upto_if 80 with fail
  go_cut [80] (fun s80 wx => s80 = .bool true ∧ Hid (EnI w wx w.heap.size p rt rp c s x v1 v2 ∧ Chg NoB w wx))
  case first =>
    rcases HK.out with hk | hk
    · have hb : (x.r.kind == 3) = true := by simp [hk]
      clear hk
      go_wp2_with fail
      go_meet
      exact ⟨congrArg Value.bool hb, hW0⟩
    · have hb : (x.r.kind == 3) = false := by simp [hk]
      have hb2 : (x.r.kind == 4) = true := by simp [hk]
      clear hk
      go_wp2_with fail
      go_meet
      exact ⟨by first | rfl | exact congrArg Value.bool hb2, hW0⟩
  case rest =>
    obtain ⟨rfl, hW⟩ := hcut
    clear hW0
    obtain ⟨k0, k1, k2, k3, _, _, _⟩ := entC_cells hW.out.1.blk
    obtain ⟨p0, p1, p2⟩ := hW.out.1.at_.cells
    go_upto_region 15 with fail
    (refine wp_region_tail 8 (by kernel_rfl) (by kernel_rfl) ?_; simp only [List.take_succ_cons, List.take_zero, List.drop_succ_cons, List.drop_zero]; (repeat still_step); refine wpStill_nil ?_; change wpList _ _ _ _ _ _)
    refine step_delete hW.out.1.at_.mt.drew rfl _ _ 50 3 44 rfl Try.underlying50 Try.underlying3 x.r.txn rfl rfl ?_
    intro w2 hm2 hc2 hs2
    go_wp2_with fail
    go_end0
    have hc3 : Chg (OneB rt) wc w2 := ((Chg.refl (OneB rt) wc).drew).trans' hc2
    exact ⟨rfl, by rw [HE.out]; exact hW.out.1.at_.putT hm2 hc3, hW.out.1.chg.trans hc3 (fun i e => .inl (.inl e))⟩

/-- A slice that is read is no map. -/
theorem Rd.maps {α : Type} {w w' : World} {size : Nat} {enc : α → List Value} {v : Value} {l : List α} {S : Nat → Prop} (h : Rd w size enc v l) (hc : Chg S w w') (hs : ∀ k, S k → ∃ es c, w.heap[k]? = some (.map es c)) : Rd w' size enc v l := by
  obtain ⟨a, c, hv, h1, h2, h3⟩ := h
  refine ⟨a, c, hv, h1, h2, fun i x hi => ?_⟩
  obtain ⟨b, off, ha, h4⟩ := h3 i x hi
  refine ⟨b, off, ha, fun j u hu => ?_⟩
  have h5 := h4 j u hu
  refine hc.cell h5 (fun e => ?_)
  obtain ⟨es, c, he⟩ := hs _ e
  have he' : w.heap[b]? = some (.map es c) := he
  simp [World.cell?, he'] at h5
theorem AnAt.maps {w : World} {p rt rp : Nat} {c : Int} {s : AT} (h : AnAt w p rt rp c s) : ∀ k, AnB rt rp k → ∃ es c, w.heap[k]? = some (.map es c) := by
  rintro k (rfl | rfl)
  · obtain ⟨es, c, h1, _⟩ := h.mt; exact ⟨es, c, h1⟩
  · obtain ⟨es, c, h1, _⟩ := h.mp; exact ⟨es, c, h1⟩
theorem Tabs.maps {w w' : World} {r : Rec} {v1 v2 : Value} {S : Nat → Prop} (h : Tabs w r v1 v2) (hc : Chg S w w') (hs : ∀ k, S k → ∃ es c, w.heap[k]? = some (.map es c)) : Tabs w' r v1 v2 := ⟨h.1.maps hc hs, h.2.maps hc hs⟩
theorem row3_at {w : World} {a : Option Addr} {l : List Row3} {c : Nat} (h : Rd w 3 encTx (.slice a l.length c) l) (k : Nat) (hk : k < l.length) :
    ∃ x y z b off, Hid (l[k] = (x, y, z)) ∧ a = some ⟨b, off, none⟩ ∧ w.cell? ⟨b, off + k * 3, none⟩ = some (.int .i64 x) ∧ w.cell? ⟨b, off + k * 3 + 1, none⟩ = some (.int .i64 y) ∧ w.cell? ⟨b, off + k * 3 + 2, none⟩ = some (.int .i64 z) := by
  obtain ⟨a', c', e, h1, h2, h3⟩ := h
  cases e
  obtain ⟨b, off, ha, h4⟩ := h3 k _ (List.getElem?_eq_getElem hk)
  exact ⟨_, _, _, b, off, rfl, ha, h4 0 _ rfl, h4 1 _ rfl, h4 2 _ rfl⟩
theorem row2_at {w : World} {a : Option Addr} {l : List (Int × Int)} {c : Nat} (h : Rd w 2 encPg (.slice a l.length c) l) (k : Nat) (hk : k < l.length) :
    ∃ x y b off, Hid (l[k] = (x, y)) ∧ a = some ⟨b, off, none⟩ ∧ w.cell? ⟨b, off + k * 2, none⟩ = some (.int .i64 x) ∧ w.cell? ⟨b, off + k * 2 + 1, none⟩ = some (.int .i64 y) := by
  obtain ⟨a', c', e, h1, h2, h3⟩ := h
  cases e
  obtain ⟨b, off, ha, h4⟩ := h3 k _ (List.getElem?_eq_getElem hk)
  exact ⟨_, _, b, off, rfl, ha, h4 0 _ rfl, h4 1 _ rfl⟩
theorem foldl_take {α β : Type} (f : β → α → β) (l : List α) (s : β) {k : Nat} (hk : k < l.length) {x : α} (hx : l[k] = x) : (l.take (k + 1)).foldl f s = f ((l.take k).foldl f s) x := by
  rw [List.take_succ_eq_append_getElem hk, List.foldl_append, hx]; rfl

def noKind (x : Ent) : Prop := x.r.kind ≠ 1 ∧ x.r.kind ≠ 2 ∧ x.r.kind ≠ 3 ∧ x.r.kind ≠ 4
set_option maxRecDepth 100000 in
set_option maxHeartbeats 8000000 in
theorem entry_tab (p rt rp : Nat) (c : Int) (s : AT) (x : Ent) (v1 v2 : Value) (w : World) (h : AnAt w p rt rp c s) (hk : noKind x) (ht : Tabs w x.r v1 v2) :
    Calls Try.prog 16 #[.pointer (some ⟨p, 0, none⟩), .agg (entC x v1 v2)] w fun e w' => e = .returned (.tuple #[]) ∧ AnAt w' p rt rp c (aEnt c s x) ∧ Chg (AnB rt rp) w w' := by
  have HH := hid h
  have hpl := lt_of_block h.blk
  have htl := h.mt.lt
  have hrl := h.mp.lt
  clear h
  have hW0 : Hid (EnI w (w.alloc (.cells (entC x v1 v2) 30)) w.heap.size p rt rp c s x v1 v2 ∧ Chg NoB w (w.alloc (.cells (entC x v1 v2) 30))) := hid ⟨⟨HH.out.keep0 ((Chg.refl NoB w).alloc _), blk_new _ _, ((Chg.refl _ w).alloc _), Nat.le_refl _⟩, (Chg.refl NoB w).alloc _⟩
  unfold entC at hW0 ⊢
  have hb1 : (x.r.kind == 1) = false := by simp [hk.1]
  have hb2 : (x.r.kind == 2) = false := by simp [hk.2.1]
  have hb3 : (x.r.kind == 3) = false := by simp [hk.2.2.1]
  have hb4 : (x.r.kind == 4) = false := by simp [hk.2.2.2]
  have HK := hid hk
  obtain ⟨a1, n1, ev1, q1, q2, _⟩ := id ht.1
  obtain ⟨a2, n2, ev2, q3, q4, _⟩ := id ht.2
  subst ev1 ev2
  unfold maxLen at q2 q4
  have HT := hid ht
  clear hk ht
  have HE0 : Hid (aEnt c s x = if x.r.kind = 6 then (if x.r.beg = c then ⟨x.r.txns.foldl aTxn s.T, x.r.pages.foldl aPage s.G⟩ else s) else s) := hid (by
    unfold aEnt
    have := HK.out
    rw [if_neg (by rintro (e | e); exact this.1 e; exact this.2.1 e), if_neg (by rintro (e | e); exact this.2.2.1 e; exact this.2.2.2 e)])
  by_cases h6 : x.r.kind = 6
  · have HE1 : Hid (aEnt c s x = (if x.r.beg = c then ⟨x.r.txns.foldl aTxn s.T, x.r.pages.foldl aPage s.G⟩ else s)) := hid (by rw [HE0.out, if_pos h6])
    have hb6 : (x.r.kind == 6) = true := by simp [h6]
    clear h6
    cases hbc : (x.r.beg != c) with
    | true =>
      have hbc2 : x.r.beg ≠ c := by simpa using hbc
      have HE2 : Hid (aEnt c s x = s) := hid (by rw [HE1.out, if_neg hbc2])
      clear hbc2
      go_enter Try.func16, Try.ntmps16
      go_upto_region 17 with fail
      obtain ⟨W, hWW⟩ := named (w.alloc (.cells (entC x (.slice a1 x.r.txns.length n1) (.slice a2 x.r.pages.length n2)) 30))
      unfold entC at hWW
      rw [← hWW.out] at hW0 ⊢
      obtain ⟨k0, k1, k2, k3, k7, k10, k11⟩ := entC_cells hW0.out.1.blk
      obtain ⟨p0, p1, p2⟩ := hW0.out.1.at_.cells
      (refine wp_region_reads (by kernel_rfl) (by kernel_rfl) ?_; (repeat still_step); refine wpStill_nil ?_)
      go_wp2_with fail
      refine bodyPost_ret (results_none rfl _ _ _) rfl ?_
      exact ⟨rfl, by rw [HE2.out]; exact hW0.out.1.at_.keep0 ((Chg.refl NoB _).drew), hW0.out.1.chg.drew⟩
    | false =>
      have hbc2 : x.r.beg = c := by simpa using hbc
      have HE2 : Hid (aEnt c s x = ⟨x.r.txns.foldl aTxn s.T, x.r.pages.foldl aPage s.G⟩) := hid (by rw [HE1.out, if_pos hbc2])
      clear hbc2
      go_enter Try.func16, Try.ntmps16
      go_upto_region 17 with fail
      obtain ⟨W, hWW⟩ := named (w.alloc (.cells (entC x (.slice a1 x.r.txns.length n1) (.slice a2 x.r.pages.length n2)) 30))
      unfold entC at hWW
      rw [← hWW.out] at hW0 ⊢
      obtain ⟨k0, k1, k2, k3, k7, k10, k11⟩ := entC_cells hW0.out.1.blk
      obtain ⟨p0, p1, p2⟩ := hW0.out.1.at_.cells
      (refine wp_region_reads (by kernel_rfl) (by kernel_rfl) ?_; (repeat still_step); refine wpStill_nil ?_)
      go_wp2_with fail
      have hW1 := hid (hW0.out.1.keep ((Chg.refl NoB W).drew))
      clear k0 k1 k2 k3 k7 k10 k11 p0 p1 p2
      go_loopw [107] (fun i wr => ∃ k : Nat, k ≤ x.r.txns.length ∧ i = .int .i64 k ∧ Hid (EnI w wr w.heap.size p rt rp c ⟨(x.r.txns.take k).foldl aTxn s.T, s.G⟩ x (.slice a1 x.r.txns.length n1) (.slice a2 x.r.pages.length n2))) (fun i _ => x.r.txns.length - (intOf i).toNat)
      case atStart => exact ⟨0, by omega, rfl, hW1⟩
      case round =>
        obtain ⟨k, hk, rfl, hI⟩ := hrel
        have hT := HT.out.maps hI.out.chg HH.out.maps
        by_cases hlt : k < x.r.txns.length
        · obtain ⟨y1, y2, y3, b1, o1, hy, rfl, g0, g1, g2⟩ := row3_at hT.1 k hlt
          have HF := hid (foldl_take aTxn x.r.txns s.T hlt hy.out)
          clear hT
          go_wp2_with (go_at_call 22; refine (txn_calls p rt rp c _ (y1, y2, y3) _ (hI.out.at_.keep0 ((Chg.refl NoB wr).alloc _))).mono ?_; rintro e w2 ⟨rfl, ha2, hc2⟩)
          go_roundw
          case rel =>
            refine ⟨k + 1, by omega, by go_num, ?_⟩
            rw [HF.out]
            have hcc : Chg (OneB rt) wr w2 := ((Chg.refl (OneB rt) wr).alloc _).trans' hc2
            exact ⟨ha2, hcc.heap hI.out.blk (fun e => by have h' : w.heap.size = rt := e; omega), hI.out.chg.trans hcc (fun i e => .inl (.inl e)), Nat.le_refl _⟩
          case measure => simp [intOf]; omega
        · obtain rfl : x.r.txns.length = k := by omega
          rw [List.take_length] at hI
          clear hT
          obtain ⟨k0, k1, k2, k3, k7, k10, k11⟩ := entC_cells hI.out.blk
          go_wp2_with fail
          go_loopw [120] (fun i wr => ∃ k : Nat, k ≤ x.r.pages.length ∧ i = .int .i64 k ∧ Hid (EnI w wr w.heap.size p rt rp c ⟨x.r.txns.foldl aTxn s.T, (x.r.pages.take k).foldl aPage s.G⟩ x (.slice a1 x.r.txns.length n1) (.slice a2 x.r.pages.length n2))) (fun i _ => x.r.pages.length - (intOf i).toNat)
          case atStart => exact ⟨0, by omega, rfl, hI⟩
          case round =>
            obtain ⟨k, hk, rfl, hI⟩ := hrel
            have hT := HT.out.maps hI.out.chg HH.out.maps
            by_cases hlt : k < x.r.pages.length
            · obtain ⟨y1, y2, b1, o1, hy, rfl, g0, g1⟩ := row2_at hT.2 k hlt
              have HF := hid (foldl_take aPage x.r.pages s.G hlt hy.out)
              clear hT
              go_wp2_with (go_at_call 23; refine (page_calls p rt rp c _ y1 y2 _ (hI.out.at_.keep0 ((Chg.refl NoB wr).alloc _))).mono ?_; rintro e w2 ⟨rfl, ha2, hc2⟩)
              go_roundw
              case rel =>
                refine ⟨k + 1, by omega, by go_num, ?_⟩
                rw [HF.out]
                have hcc : Chg (OneB rp) wr w2 := ((Chg.refl (OneB rp) wr).alloc _).trans' hc2
                exact ⟨ha2, hcc.heap hI.out.blk (fun e => by have h' : w.heap.size = rp := e; omega), hI.out.chg.trans hcc (fun i e => .inl (.inr e)), Nat.le_refl _⟩
              case measure => simp [intOf]; omega
            · obtain rfl : x.r.pages.length = k := by omega
              rw [List.take_length] at hI
              clear hT
              go_wp2_with fail
              go_end0
              exact ⟨rfl, by rw [HE2.out]; exact hI.out.at_, hI.out.chg⟩
  · have HE1 : Hid (aEnt c s x = s) := hid (by rw [HE0.out, if_neg h6])
    have hb6 : (x.r.kind == 6) = false := by simp [h6]
    clear h6
    go_enter Try.func16, Try.ntmps16
    go_wp2_with fail
    go_end0
    exact ⟨rfl, by rw [HE1.out]; exact hW0.out.1.at_, hW0.out.1.chg⟩

/-- entry, whatever goes by. -/
theorem entry_calls (p rt rp : Nat) (c : Int) (s : AT) (x : Ent) (v1 v2 : Value) (w : World) (h : AnAt w p rt rp c s) (ht : Tabs w x.r v1 v2) :
    Calls Try.prog 16 #[.pointer (some ⟨p, 0, none⟩), .agg (entC x v1 v2)] w fun e w' => e = .returned (.tuple #[]) ∧ AnAt w' p rt rp c (aEnt c s x) ∧ Chg (AnB rt rp) w w' := by
  by_cases h1 : x.r.kind = 1 ∨ x.r.kind = 2
  · exact entry_upd p rt rp c s x v1 v2 w h h1
  · by_cases h2 : x.r.kind = 3 ∨ x.r.kind = 4
    · exact entry_end p rt rp c s x v1 v2 w h h2
    · exact entry_tab p rt rp c s x v1 v2 w h ⟨fun e => h1 (.inl e), fun e => h1 (.inr e), fun e => h2 (.inl e), fun e => h2 (.inr e)⟩ ht
end Go.Proofs.Ytipmchdogdemjaa
