import Derived.Test.YtobmaipjbepphaaJuSpec
namespace Go.Proofs.Ytobmaipjbepphaa
open Go.RowKit Go.ChangeMaps Go.MapKept
attribute [local go_sem] Go.Oper.rdK
set_option linter.unusedVariables false
set_option maxHeartbeats 8000000

theorem mapI_new {ν : Type} {V : ν → Value} (w : World) : MapI (w.alloc (.map #[] 0)) w.heap.size V ([] : List (Int × ν)) := ⟨#[], 0, blk_new _ _, by simp [Stamped], by simp⟩
/-- What has been laid of the pages. -/
def pgK (k : Nat) : List Pg := List.replicate k Pg.empty ++ List.replicate (8 - k) Pg.none
theorem pgK_succ (k : Nat) (h : k < 8) : (pgK k).set k Pg.empty = pgK (k + 1) := by
  unfold pgK
  rw [List.set_append_right _ _ (by simp)]
  have e : 8 - k = (8 - (k + 1)) + 1 := by omega
  rw [e, List.replicate_succ, List.replicate_succ']
  simp
theorem pgK_len (k : Nat) (h : k ≤ 8) : (pgK k).length = 8 := by unfold pgK; simp; omega

set_option maxRecDepth 100000 in
theorem begin_calls (w : World) :
    Calls Try.prog 16 #[] w fun e w' => ∃ p ro rb, e = .returned (.pointer (some ⟨p, 0, none⟩)) ∧ JAt w' p ro rb [] jNew (.func (.func 25) #[] #[]) 0 ∧ Chg NoB w w' ∧ w.heap.size ≤ p ∧ w.heap.size ≤ ro ∧ w.heap.size ≤ rb := by
  have hmm := @run_makeMap Try.prog
  go_enter Try.func16, Try.ntmps16
  go_wp2
  go_loopw [7] (fun i wr => ∃ k : Nat, k ≤ 8 ∧ i = .int .i64 k ∧ Hid (Chg NoB w wr ∧ w.heap.size + 2 < wr.heap.size ∧ wr.heap[w.heap.size + 2]? = some (.cells (juC 0 w.heap.size (pgK k) (w.heap.size + 1) (.func (.func 25) #[] #[])).toArray 62 (0, 0)) ∧ wr.heap[w.heap.size]? = some (.map #[] 0) ∧ wr.heap[w.heap.size + 1]? = some (.map #[] 0))) (fun i _ => 8 - (intOf i).toNat)
  case atStart => exact ⟨0, by omega, rfl, hid ⟨(((Chg.refl _ _).alloc _).alloc _).alloc _, by simp, by rw [show w.heap.size + 2 = ((w.alloc (.map #[] 0)).alloc (.map #[] 0)).heap.size by simp]; exact blk_new _ _, blk_alloc (blk_alloc (blk_new _ _) _) _, by rw [show w.heap.size + 1 = (w.alloc (.map #[] 0)).heap.size by simp]; exact blk_alloc (blk_new _ _) _⟩⟩
  case round =>
    obtain ⟨k, hk, rfl, HB⟩ := hrel
    clear hmm
    by_cases h8 : k < 8
    · have hps : Try.prog.underlying 59 = some (.array 8 58) := by kernel_rfl
      have hk0 : (0 : Int) ≤ (k : Int) := by omega
      have hk8 : (k : Int) < 8 := by omega
      have hcl : Hid ((juC 0 w.heap.size (pgK k) (w.heap.size + 1) (.func (.func 25) #[] #[])).length = 20) := hid (by simp only [juC, List.length_cons, List.length_append, pgsC_len, List.length_nil]; rw [pgK_len k hk])
      go_upto_region 5 with fail
      refine wp_region_ord 6 (.rd 0 (.rd 1 (.rd 3 (.rd 4 (.one 2 (.rd 5 (.one 6 (.done)))))))) (Same wr) (by kernel_rfl) (by kernel_rfl) (by kernel_rfl) (by kernel_rfl) (by kernel_rfl) (fun _ _ d _ _ h => by cases d <;> exact h) (Same.of (Chg.refl _ _).drew) (fun hS0 => ?_)
      refine wpOrd_rd rfl rfl (by first | decide | simp) (by assumption) (fun w' hw' K hK => by ((try unfold Same at hw'); (try go_split_ands); go_simp; exact hK)) ?_
      refine wpOrd_rd rfl rfl (by first | decide | simp) (by assumption) (fun w' hw' K hK => by ((try unfold Same at hw'); (try go_split_ands); go_simp; exact hK)) ?_
      refine wpOrd_rd rfl rfl (by first | decide | simp) (by assumption) (fun w' hw' K hK => by ((try unfold Same at hw'); (try go_split_ands); go_simp; exact hK)) ?_
      refine wpOrd_rd rfl rfl (by first | decide | simp) (by assumption) (fun w' hw' K hK => by ((try unfold Same at hw'); (try go_split_ands); go_simp; exact hK)) ?_
      refine wpOrd_do rfl ?_
      refine wpList_plain rfl (fun K hK => ?_)
      go_simp
      ((with_reducible refine (empty_calls _).mono ?_); rintro e w2 ⟨rfl, hc2⟩)
      refine hK _ _ ?_
      clear hK K
      have hb2 := hc2.heap (show (World.drew wr).heap[w.heap.size + 2]? = _ from HB.out.2.2.1) (fun e => e)
      (try dsimp only [Act.put])
      (try simp only [List.setIfInBounds_toArray, List.set_cons_zero, List.set_cons_succ])
      refine wpOrd_done (Same.of ((Chg.refl NoB wr).drew.trans' hc2)) (fun hS1 => ?_)
      refine wpOrd_rd rfl rfl (by first | decide | simp) (by assumption) (fun w' hw' K hK => by ((try unfold Same at hw'); (try go_split_ands); go_simp; exact hK)) ?_
      refine wpOrd_do rfl ?_
      refine step_storeAt rfl rfl (w.heap.size + 2) (2 + k * 2) (cells := encP Pg.empty) rfl rfl hb2 (by kernel_rfl) (by rw [hcl.out]; simp [encP]; omega) (by simp [encP, Value.oneCell']) ?_; intro w3 hb3 hc3 hs3
      (try dsimp only [Act.put])
      (try simp only [List.setIfInBounds_toArray, List.set_cons_zero, List.set_cons_succ])
      refine wpOrd_last ?_
      refine wpOrd_nil ?_
      have hc4 : Chg (OneB (w.heap.size + 2)) wr w3 := ((Chg.refl _ wr).drew.trans' (hc2.mono fun _ e => e.elim)).trans' hc3
      have hj : juC 0 w.heap.size (pgK (k + 1)) (w.heap.size + 1) (.func (.func 25) #[] #[]) = (juC 0 w.heap.size (pgK k) (w.heap.size + 1) (.func (.func 25) #[] #[])).take (2 + k * 2) ++ encP Pg.empty ++ (juC 0 w.heap.size (pgK k) (w.heap.size + 1) (.func (.func 25) #[] #[])).drop (2 + k * 2 + (encP Pg.empty).length) := by
        have hl := pgsC_len (pgK k)
        rw [pgK_len k hk] at hl
        have := pgsC_set (pgK k) k Pg.empty (by rw [pgK_len k hk]; exact h8)
        rw [← pgK_succ k h8]
        unfold juC
        rw [← this]
        have e1 : (encP Pg.empty).length = 2 := rfl
        rw [e1, show 2 + k * 2 = (k * 2 + 1) + 1 by omega, List.take_succ_cons, List.take_succ_cons, show k * 2 + 1 + 1 + 2 = ((k * 2 + 2) + 1) + 1 by omega, List.drop_succ_cons, List.drop_succ_cons, List.take_append_of_le_length (by omega), List.drop_append_of_le_length (by omega)]
        simp
      have HN : Hid (Chg NoB w w3 ∧ w.heap.size + 2 < w3.heap.size ∧ w3.heap[w.heap.size + 2]? = some (.cells (juC 0 w.heap.size (pgK (k + 1)) (w.heap.size + 1) (.func (.func 25) #[] #[])).toArray 62 (0, 0)) ∧ w3.heap[w.heap.size]? = some (.map #[] 0) ∧ w3.heap[w.heap.size + 1]? = some (.map #[] 0)) :=
        hid ⟨HB.out.1.trans hc4 (fun i e => .inr (by have h' : i = w.heap.size + 2 := e; omega)), by have := hc4.size; have := HB.out.2.1; omega, by rw [hj]; exact hb3, hc4.heap HB.out.2.2.2.1 (fun e => by have h' : w.heap.size = w.heap.size + 2 := e; omega), hc4.heap HB.out.2.2.2.2 (fun e => by have h' : w.heap.size + 1 = w.heap.size + 2 := e; omega)⟩
      clear hj hcl hb2 hb3 hc2 hc3 hs3 hc4 hS0 hS1
      go_wp2_with fail
      go_roundw
      case rel => exact ⟨k + 1, by omega, by go_num, HN⟩
      case measure => simp [intOf]; omega
    · obtain rfl : k = 8 := by omega
      go_wp2_with fail
      go_ret
      obtain ⟨h1, h2, h3, h4, h5⟩ := HB.out
      refine ⟨w.heap.size + 2, w.heap.size, w.heap.size + 1, rfl, ⟨h3, PT.nil ⟨#[], 0, h4, by simp [Stamped], by simp⟩ (by omega), rfl, ⟨#[], 0, h5, by simp [Stamped], rfl⟩, by omega, rfl, fun q hq => by rw [List.eq_of_mem_replicate hq]; simp [Pg.empty, ByteArray.size], ⟨fun t ht => absurd ht List.not_mem_nil, fun x hx => absurd hx List.not_mem_nil⟩⟩, h1, by omega, by omega, by omega⟩
end Go.Proofs.Ytobmaipjbepphaa
