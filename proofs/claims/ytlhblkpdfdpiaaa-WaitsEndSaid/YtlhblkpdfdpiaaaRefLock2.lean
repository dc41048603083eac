import Derived.Test.YtlhblkpdfdpiaaaRefLock
namespace Go.Proofs.Ytlhblkpdfdpiaaa
open Go.RowKit Go.ChangeMaps
set_option linter.unusedVariables false
set_option linter.unusedSimpArgs false
set_option linter.unnecessarySimpa false

theorem ownsRow_set {w : World} {B : Nat} {e : TypeId} {size : Nat} {v : Value} {n : Nat} {xs : List Value} (h : w.ownsRow B e size v n xs) {g : Nat} (hg : OwnB v g) (i : Nat) (u : Value) : (w.setCell ⟨g, i, none⟩ u).ownsRow B e size v n (xs.set i u) := by
  refine ⟨by simp [h.1], ?_⟩
  rcases h.2 with ⟨rfl, h3⟩ | ⟨g', cap, cur, rfl, hb, hgg, hn, hm, hs, ht⟩
  · simp [OwnB, Value.ownBlock] at hg
  · simp [OwnB, Value.ownBlock] at hg
    subst hg
    refine .inr ⟨g', cap, cur.setIfInBounds i u, rfl, hb, blk_setCell hgg i u, hn, hm, by simp [hs], ?_⟩
    rw [Array.toList_setIfInBounds, List.take_set, ht]

def rfUp (txn page mode : Int) : List RRow → List RRow
  | [] => [⟨txn, page, mode⟩]
  | x :: r => if rfIs txn page x then { x with mode := max x.mode mode } :: r else x :: rfUp txn page mode r
def rfTake (L : List RRow) (txn page mode : Int) : List RRow := if rfMay L txn page mode = 0 then rfUp txn page mode L else L

theorem rfUp_at {txn page mode : Int} {L : List RRow} {k : Nat} (hk : k < L.length) (hn : (L.take k).find? (rfIs txn page) = none) (hi : rfIs txn page L[k] = true) : rfUp txn page mode L = L.set k { L[k] with mode := max L[k].mode mode } := by
  induction L generalizing k with
  | nil => simp at hk
  | cons x r ih =>
    cases k with
    | zero => simp at hi; simp [rfUp, hi]
    | succ k =>
      simp only [List.take_succ_cons, List.find?_cons] at hn
      cases hx : rfIs txn page x with
      | true => rw [hx] at hn; simp at hn
      | false =>
        rw [hx] at hn
        simp only [List.getElem_cons_succ] at hi
        simp only [rfUp, hx, List.set_cons_succ, List.getElem_cons_succ]
        rw [ih (by simpa using hk) hn hi]
        simp
theorem rfUp_none {txn page mode : Int} {L : List RRow} (hn : L.find? (rfIs txn page) = none) : rfUp txn page mode L = L ++ [⟨txn, page, mode⟩] := by
  induction L with
  | nil => rfl
  | cons x r ih =>
    simp only [List.find?_cons] at hn
    cases hx : rfIs txn page x with
    | true => rw [hx] at hn; simp at hn
    | false => rw [hx] at hn; simp [rfUp, hx, ih hn]
theorem flat_set {L : List RRow} {k : Nat} (hk : k < L.length) (m : Int) : (L.set k { L[k] with mode := m }).flatMap encRow = (L.flatMap encRow).set (k * 3 + 2) (.int .i64 m) := by
  induction L generalizing k with
  | nil => simp at hk
  | cons x r ih =>
    cases k with
    | zero => simp [encRow]
    | succ k =>
      simp only [List.set_cons_succ, List.flatMap_cons, List.getElem_cons_succ]
      rw [ih (by simpa using hk)]
      have : (k + 1) * 3 + 2 = (k * 3 + 2) + 3 := by omega
      rw [this]
      simp [encRow]

theorem RefAt.drew {w : World} {q : Nat} {v : Value} {B : Nat} {L : List RRow} (h : RefAt w q v B L) : RefAt w.drew q v B L := ⟨h.blk, h.own, h.ne, h.ge, h.len⟩

set_option maxRecDepth 100000 in
theorem refTake_no (q : Nat) (v : Value) (B : Nat) (L : List RRow) (txn page mode : Int) (w : World) (h : RefAt w q v B L) (res : Int) (hres : Hid (res = rfMay L txn page mode)) (hne : (res != 0) = true) :
    Calls Try.prog 18 #[.pointer (some ⟨q, 0, none⟩), .int .i64 txn, .int .i64 page, .int .i64 mode] w fun e w' => e = .returned (.int .i64 res) ∧ Chg NoB w w' := by
  have hc := refMay q v B L txn page mode w h res hres
  clear h
  go_enter Try.func18, Try.ntmps18
  go_wp2_with (go_at_call 40; refine hc.mono ?_; rintro e w' ⟨rfl, hc⟩)
  go_ret
  exact ⟨rfl, hc⟩

set_option maxRecDepth 100000 in
theorem refTake_yes (q : Nat) (v : Value) (B : Nat) (L : List RRow) (txn page mode : Int) (w : World) (h : RefAt w q v B L) (h0 : rfMay L txn page mode = 0) (hlen : L.length < 1000) :
    Calls Try.prog 18 #[.pointer (some ⟨q, 0, none⟩), .int .i64 txn, .int .i64 page, .int .i64 mode] w fun e w' => e = .returned (.int .i64 0) ∧ ∃ v', RefAt w' q v' B (rfUp txn page mode L) ∧ Chg (RefB q v) w w' ∧ ∀ i, OwnB v' i → OwnB v i ∨ w.heap.size ≤ i := by
  have hcall := refMay q v B L txn page mode w h 0 (hid h0.symm)
  have HR := hid h
  obtain ⟨a, c, hv, hc, hat⟩ := h.at
  have HA := hid hat
  have HV := hid hv
  clear hat h h0 hv
  go_enter Try.func18, Try.ntmps18
  go_wp2_with (go_at_call 40; refine hcall.mono ?_; rintro e w1 ⟨rfl, c1⟩)
  have h1 : RefAt w1 q v B L := HR.out.keep c1 (fun e => e) (fun _ _ e => e)
  have hq : w1.cell? ⟨q, 0, none⟩ = some (.slice a L.length c) := by rw [← HV.out]; exact cell_blk h1.blk 0
  have H1 := hid h1
  clear h1
  go_loop [10] (fun i => ∃ k : Nat, k ≤ L.length ∧ i = .int .i64 k ∧ Hid ((L.take k).find? (rfIs txn page) = none)) (fun i => L.length - (intOf i).toNat)
  case atStart => exact ⟨0, by omega, rfl, rfl⟩
  case round =>
    obtain ⟨k, hk, rfl, HN⟩ := hrel
    by_cases hlt : k < L.length
    · obtain ⟨g, rfl, g0, g1, g2, hown⟩ := HA.out k hlt
      replace g0 := c1.cell g0 (fun e => e)
      replace g1 := c1.cell g1 (fun e => e)
      replace g2 := c1.cell g2 (fun e => e)
      obtain ⟨x, hx⟩ := named L[k]
      rw [← hx.out] at g0 g1 g2
      have hlt2 : (k : Int) < (L.length : Int) := by omega
      have HT : Hid (rfIs txn page x = false → (L.take (k + 1)).find? (rfIs txn page) = none) := by
        intro hb
        rw [List.take_succ_eq_append_getElem hlt, List.find?_append, HN.out, ← hx.out]
        simp [hb]
      cases hb1 : (x.txn == txn)
      · go_wp2
        go_round
        case rel => exact ⟨k + 1, by omega, by go_num, HT.out (by simp [rfIs, hb1])⟩
        case measure => simp [intOf]; omega
      · cases hb2 : (x.page == page)
        · go_wp2
          go_round
          case rel => exact ⟨k + 1, by omega, by go_num, HT.out (by simp [rfIs, hb2])⟩
          case measure => simp [intOf]; omega
        · have hfg : w1.frozen? ⟨g, k * 3 + 2, none⟩ = false := by
            rcases H1.out.own.2 with ⟨hv0, h3⟩ | ⟨g', cap, cur, hv0, hb, hgg, _⟩
            · rw [hv0] at hown; simp [OwnB, Value.ownBlock] at hown
            · rw [hv0] at hown
              simp [OwnB, Value.ownBlock] at hown
              subst hown
              exact frozen_blk hgg _
          have key : ∀ m, m = max x.mode mode → RefAt ((w1.drew).setCell ⟨g, k * 3 + 2, none⟩ (.int .i64 m)) q v B (rfUp txn page mode L) := by
            intro m hm
            rw [rfUp_at hlt HN.out (by rw [← hx.out]; simp [rfIs, hb1, hb2]), ← hx.out, ← hm]
            have hgq : q ≠ g := fun e => H1.out.ne (e ▸ hown)
            refine ⟨blk_setCell_other H1.out.blk hgq _, ?_, H1.out.ne, H1.out.ge, by simpa using H1.out.len⟩
            rw [List.length_set]
            have := flat_set hlt m
            rw [← hx.out] at this
            rw [this]
            exact ownsRow_set (w := w1.drew) H1.out.own hown _ _
          have HK := hid key
          clear key hcall
          by_cases hm : x.mode < mode
          all_goals
            go_wp2
            go_still_tail 17, (by kernel_rfl)
            go_wp2
            go_ret
            refine ⟨rfl, v, HK.out _ (by omega), ((c1.mono fun i hi => .inl (show RefB q v i from hi.elim)).drew).setCell (.inl (.inr hown)) _, fun i hi => .inl hi⟩
    · obtain rfl : k = L.length := by omega
      have hown := H1.out.own
      rw [HV.out] at hown
      have hB : B ≤ w1.heap.size := by have := H1.out.ge; have := H1.out.qlt; omega
      go_wp2_with (at_builtin; refine step_app1 slRow rfl _ _ rfl (World.ownsRow.alloc hown _) rfl w1.heap.size [.int .i64 txn, .int .i64 page, .int .i64 mode] rfl (blk_new _ _) rfl rfl (by simp [Value.oneCell']) ?_ ?_ ?_ ?_)
      case _ => omega
      case _ => unfold maxLen; omega
      case _ => first | omega | (simp; omega)
      intro v' w2 hv2 hc2 hvo hnil
      have hqo : ¬ OwnB (.slice a L.length c) q := by rw [← HV.out]; exact H1.out.ne
      have hblk : w2.heap[q]? = some (.cells #[v] 43 (0, 0)) := hc2.heap (blk_alloc H1.out.blk _) hqo
      have hq2 : w2.cell? ⟨q, 0, none⟩ = some v := cell_blk hblk 0
      have hf2 : w2.frozen? ⟨q, 0, none⟩ = false := frozen_blk hblk 0
      have hvq : ∀ i, OwnB v' i → OwnB v i ∨ w.heap.size ≤ i := by
        intro i hi
        rcases hvo i hi with h | h
        · rw [HV.out]; exact .inl h
        · have := c1.size; exact .inr (by first | omega | (simp at h; omega))
      have hne : ¬ OwnB v' q := by
        intro h
        rcases hvq q h with h | h
        · exact H1.out.ne h
        · have := HR.out.qlt; omega
      have hrf : RefAt (w2.setCell ⟨q, 0, none⟩ v') q v' B (rfUp txn page mode L) := by
        have hN := HN.out
        rw [List.take_length] at hN
        rw [rfUp_none hN]
        refine ⟨by rw [blk_setCell hblk]; rfl, ?_, hne, H1.out.ge, by simp; omega⟩
        have : w2.ownsRow B 76 3 v' (L ++ [(⟨txn, page, mode⟩ : RRow)]).length ((L ++ [(⟨txn, page, mode⟩ : RRow)]).flatMap encRow) := by simpa [encRow] using hv2
        exact ownsRow.chg this ((Chg.refl (OneB q) w2).setCell (p := ⟨q, 0, none⟩) (.inl (OneB.self q)) v') fun i hi e => hne (by cases e; exact hi)
      have hcc : Chg (RefB q v) w (w2.setCell ⟨q, 0, none⟩ v') := by
        refine Chg.setCell ?_ (.inl (.inl rfl)) _
        refine ((c1.mono fun i hi => .inl (show RefB q v i from hi.elim)).alloc _).trans hc2 fun i hi => .inl (.inr (by rw [HV.out]; exact hi))
      obtain ⟨ao, cc, rfl⟩ := ownsRow.form hv2
      clear hv2 hc2 hvo hown hq
      go_wp2
      go_ret
      exact ⟨rfl, _, hrf, hcc, hvq⟩

theorem refTake (q : Nat) (v : Value) (B : Nat) (L : List RRow) (txn page mode : Int) (w : World) (h : RefAt w q v B L) (hlen : L.length < 1000) (res : Int) (hres : Hid (res = rfMay L txn page mode)) :
    Calls Try.prog 18 #[.pointer (some ⟨q, 0, none⟩), .int .i64 txn, .int .i64 page, .int .i64 mode] w fun e w' => e = .returned (.int .i64 res) ∧ ∃ v', RefAt w' q v' B (rfTake L txn page mode) ∧ Chg (RefB q v) w w' ∧ ∀ i, OwnB v' i → OwnB v i ∨ w.heap.size ≤ i := by
  by_cases h0 : rfMay L txn page mode = 0
  · refine (refTake_yes q v B L txn page mode w h h0 hlen).mono ?_
    rintro e w' ⟨rfl, h1⟩
    refine ⟨ret_int (by rw [hres.out, h0]), ?_⟩
    rw [rfTake, if_pos h0]
    exact h1
  · refine (refTake_no q v B L txn page mode w h res hres (by rw [hres.out]; simpa using h0)).mono ?_
    rintro e w' ⟨rfl, h1⟩
    rw [rfTake, if_neg h0]
    exact ⟨rfl, v, h.keep h1 (fun e => e) (fun _ _ e => e), h1.mono fun i hi => .inl hi.elim, fun i hi => .inl hi⟩

theorem filter_take {L : List RRow} {txn : Int} {k : Nat} (hk : k < L.length) : (L.take (k + 1)).filter (fun x => x.txn != txn) = (L.take k).filter (fun x => x.txn != txn) ++ if (L[k].txn != txn) = true then [L[k]] else [] := by
  rw [List.take_succ_eq_append_getElem hk, List.filter_append]
  cases h : (L[k].txn != txn) <;> simp [h]

theorem row_build (w : World) (x : RRow) : ∃ o, o = Obj.cells #[.int .i64 x.txn, .int .i64 x.page, .int .i64 x.mode] 76 (0, 0) := ⟨_, rfl⟩

end Go.Proofs.Ytlhblkpdfdpiaaa
