import Derived.Test.YtobmaipjbepphaaRecFn
import Derived.Test.YtobmaipjbepphaaCell
namespace Go.Proofs.Ytobmaipjbepphaa
open Go.RowKit Go.ChangeMaps
set_option linter.unusedVariables false

/-- The cells of element k of a slice that is read, spelled out. -/
theorem txn_at {w wr : World} {a : Option Addr} {l : List (Int × Int × Int)} (h : ∀ i x, l[i]? = some x → ∃ b off, a = some ⟨b, off, none⟩ ∧ ∀ j u, (encTx x)[j]? = some u → w.cell? ⟨b, off + i * 3 + j, none⟩ = some u) (hc : Chg NoB w wr) (k : Nat) (hk : k < l.length) :
    ∃ x y z b off, Hid (l[k] = (x, y, z)) ∧ a = some ⟨b, off, none⟩ ∧ wr.cell? ⟨b, off + k * 3, none⟩ = some (.int .i64 x) ∧ wr.cell? ⟨b, off + k * 3 + 1, none⟩ = some (.int .i64 y) ∧ wr.cell? ⟨b, off + k * 3 + 2, none⟩ = some (.int .i64 z) := by
  obtain ⟨b, off, ha, h2⟩ := Rd.cells h hc k hk
  exact ⟨_, _, _, b, off, rfl, ha, h2 0 _ rfl, h2 1 _ rfl, h2 2 _ rfl⟩
theorem page_at {w wr : World} {a : Option Addr} {l : List (Int × Int)} (h : ∀ i x, l[i]? = some x → ∃ b off, a = some ⟨b, off, none⟩ ∧ ∀ j u, (encPg x)[j]? = some u → w.cell? ⟨b, off + i * 2 + j, none⟩ = some u) (hc : Chg NoB w wr) (k : Nat) (hk : k < l.length) :
    ∃ x y b off, Hid (l[k] = (x, y)) ∧ a = some ⟨b, off, none⟩ ∧ wr.cell? ⟨b, off + k * 2, none⟩ = some (.int .i64 x) ∧ wr.cell? ⟨b, off + k * 2 + 1, none⟩ = some (.int .i64 y) := by
  obtain ⟨b, off, ha, h2⟩ := Rd.cells h hc k hk
  exact ⟨_, _, b, off, rfl, ha, h2 0 _ rfl, h2 1 _ rfl⟩


set_option maxRecDepth 100000 in
set_option maxHeartbeats 8000000 in
/-- Two records that differ in their tables alone, of the same lengths. -/
theorem recSame_tabs (a b : Rec) (hb : b = { a with txns := b.txns, pages := b.pages }) (hl1 : b.txns.length = a.txns.length) (hl2 : b.pages.length = a.pages.length) (va1 va2 vb1 vb2 : Value) (w : World) (hta : Tabs w a va1 va2) (htb : Tabs w b vb1 vb2) (res : Bool) (hres : Hid (res = decide (a.txns = b.txns ∧ a.pages = b.pages))) :
    Calls Try.prog 18 #[a.val va1 va2, b.val vb1 vb2] w fun e w' => e = .returned (.bool res) ∧ Chg NoB w w' := by
  obtain ⟨⟨p1, c1, rfl, hp1, hp2, hp3⟩, ⟨p2, c2, rfl, hp4, hp5, hp6⟩⟩ := hta
  obtain ⟨⟨q1, d1, rfl, hq1, hq2, hq3⟩, ⟨q2, d2, rfl, hq4, hq5, hq6⟩⟩ := htb
  unfold maxLen at hp2 hp5 hq2 hq5
  rw [hl1] at hq1 hq2 ⊢
  rw [hl2] at hq4 hq5 ⊢
  have P3 := hid hp3
  have P6 := hid hp6
  have Q3 := hid hq3
  have Q6 := hid hq6
  have HL1 := hid hl1
  have HL2 := hid hl2
  clear hp3 hp6 hq3 hq6 hl1 hl2
  have ev : b.val (.slice q1 a.txns.length d1) (.slice q2 a.pages.length d2) = a.val (.slice q1 a.txns.length d1) (.slice q2 a.pages.length d2) := by rw [hb]; rfl
  rw [ev]
  clear ev hb
  unfold Rec.val
  go_enter Try.func18, Try.ntmps18
  go_wp2
  go_loopw [5] (fun i wr => ∃ k : Nat, k ≤ a.txns.length ∧ i = .int .i64 k ∧ Hid (∀ j, j < k → a.txns[j]? = b.txns[j]?) ∧ Hid (Chg NoB w wr) ∧
    wr.cell? ⟨w.heap.size, 9, none⟩ = some (.slice p1 a.txns.length c1) ∧ wr.cell? ⟨w.heap.size + 1, 9, none⟩ = some (.slice q1 a.txns.length d1) ∧
    wr.cell? ⟨w.heap.size, 10, none⟩ = some (.slice p2 a.pages.length c2) ∧ wr.cell? ⟨w.heap.size + 1, 10, none⟩ = some (.slice q2 a.pages.length d2)) (fun i _ => a.txns.length - (intOf i).toNat)
  case atStart =>
    refine ⟨0, by omega, rfl, hid (fun j h => by omega), ((Chg.refl _ _).alloc _).alloc _, ?_, ?_, ?_, ?_⟩
    · rw [cell_blk (heap_alloc2_old _ _ _)]; rfl
    · rw [cell_blk (heap_alloc2_new _ _ _)]; rfl
    · rw [cell_blk (heap_alloc2_old _ _ _)]; rfl
    · rw [cell_blk (heap_alloc2_new _ _ _)]; rfl
  case round =>
    obtain ⟨k, hk, rfl, HE, hc, z1, z2, z3, z4⟩ := hrel
    by_cases hlt : k < a.txns.length
    · obtain ⟨x1, y1, t1, ba, oa, hx, rfl, f1, f2, f3⟩ := txn_at P3.out hc.out k hlt
      obtain ⟨x2, y2, t2, bb, ob, hy, rfl, g1, g2, g3⟩ := txn_at Q3.out hc.out k (by rw [HL1.out]; exact hlt)
      by_cases he : x1 = x2 ∧ y1 = y2 ∧ t1 = t2
      · obtain ⟨rfl, rfl, rfl⟩ := he
        go_wp2
        go_quiet (fail)
        go_wp2
        go_roundw
        case rel =>
          refine ⟨k + 1, by omega, by go_num, hid (fun j hj => ?_), hc.out.drewN _, z1, z2, z3, z4⟩
          by_cases hjk : j < k
          · exact HE.out j hjk
          · obtain rfl : j = k := by omega
            rw [List.getElem?_eq_getElem hlt, List.getElem?_eq_getElem (by rw [HL1.out]; exact hlt), hx.out, hy.out]
        case measure => simp [intOf]; omega
      · have hne : Hid (¬ (a.txns = b.txns ∧ a.pages = b.pages)) := by
          refine hid fun h => he ?_
          have h1 := hx.out
          have h2 := hy.out
          simp only [h.1] at h1
          rw [h1] at h2
          simpa using h2
        have fin : ∀ w' : World, Chg NoB w w' → Ending.returned (.bool false) = .returned (.bool res) ∧ Chg NoB w w' := fun w' hc' => ⟨ret_bool (by rw [hres.out]; simp [hne.out]), hc'⟩
        have FIN := hid fin
        clear fin
        by_cases e1 : x1 = x2
        · by_cases e2 : y1 = y2
          · have e3 : ¬ t1 = t2 := fun e3 => he ⟨e1, e2, e3⟩
            clear he
            go_wp2
            go_quiet (fail)
            go_wp2
            go_ret
            exact FIN.out _ (hc.out.drewN _)
          · clear he
            go_wp2
            go_quiet (fail)
            go_wp2
            go_ret
            exact FIN.out _ (hc.out.drewN _)
        · clear he
          go_wp2
          go_quiet (fail)
          go_wp2
          go_ret
          exact FIN.out _ (hc.out.drewN _)
    · obtain rfl : k = a.txns.length := by omega
      have HT : Hid (a.txns = b.txns) := by
        refine hid (List.ext_getElem? fun j => ?_)
        by_cases hj : j < a.txns.length
        · exact HE.out j hj
        · rw [List.getElem?_eq_none (by omega), List.getElem?_eq_none (by rw [HL1.out]; omega)]
      clear HE P3 Q3
      go_wp2
      go_loopw [6] (fun i wr => ∃ k : Nat, k ≤ a.pages.length ∧ i = .int .i64 k ∧ Hid (∀ j, j < k → a.pages[j]? = b.pages[j]?) ∧ Hid (Chg NoB w wr) ∧
        wr.cell? ⟨w.heap.size, 10, none⟩ = some (.slice p2 a.pages.length c2) ∧ wr.cell? ⟨w.heap.size + 1, 10, none⟩ = some (.slice q2 a.pages.length d2)) (fun i _ => a.pages.length - (intOf i).toNat)
      case atStart => exact ⟨0, by omega, rfl, hid (fun j h => by omega), hc, z3, z4⟩
      case round =>
        obtain ⟨k, hk, rfl, HE, hc, z3, z4⟩ := hrel
        by_cases hlt : k < a.pages.length
        · obtain ⟨x1, y1, ba, oa, hx, rfl, f1, f2⟩ := page_at P6.out hc.out k hlt
          obtain ⟨x2, y2, bb, ob, hy, rfl, g1, g2⟩ := page_at Q6.out hc.out k (by rw [HL2.out]; exact hlt)
          by_cases he : x1 = x2 ∧ y1 = y2
          · obtain ⟨rfl, rfl⟩ := he
            go_wp2
            go_quiet (fail)
            go_wp2
            go_roundw
            case rel =>
              refine ⟨k + 1, by omega, by go_num, hid (fun j hj => ?_), hc.out.drewN _, z3, z4⟩
              by_cases hjk : j < k
              · exact HE.out j hjk
              · obtain rfl : j = k := by omega
                rw [List.getElem?_eq_getElem hlt, List.getElem?_eq_getElem (by rw [HL2.out]; exact hlt), hx.out, hy.out]
            case measure => simp [intOf]; omega
          · have hne : Hid (¬ (a.txns = b.txns ∧ a.pages = b.pages)) := by
              refine hid fun h => he ?_
              have h1 := hx.out
              have h2 := hy.out
              simp only [h.2] at h1
              rw [h1] at h2
              simpa using h2
            have fin : ∀ w' : World, Chg NoB w w' → Ending.returned (.bool false) = .returned (.bool res) ∧ Chg NoB w w' := fun w' hc' => ⟨ret_bool (by rw [hres.out]; simp [hne.out]), hc'⟩
            have FIN := hid fin
            clear fin
            by_cases e1 : x1 = x2
            · have e2 : ¬ y1 = y2 := fun e2 => he ⟨e1, e2⟩
              clear he
              go_wp2
              go_quiet (fail)
              go_wp2
              go_ret
              exact FIN.out _ (hc.out.drewN _)
            · clear he
              go_wp2
              go_quiet (fail)
              go_wp2
              go_ret
              exact FIN.out _ (hc.out.drewN _)
        · obtain rfl : k = a.pages.length := by omega
          have HP : Hid (a.pages = b.pages) := by
            refine hid (List.ext_getElem? fun j => ?_)
            by_cases hj : j < a.pages.length
            · exact HE.out j hj
            · rw [List.getElem?_eq_none (by omega), List.getElem?_eq_none (by rw [HL2.out]; omega)]
          go_wp2
          go_ret
          exact ⟨ret_bool (by rw [hres.out]; simp [HT.out, HP.out]), hc.out⟩
end Go.Proofs.Ytobmaipjbepphaa
