import Derived.Test.YtobmaipjbepphaaPg2
namespace Go.Proofs.Ytobmaipjbepphaa
open Go.RowKit Go.ChangeMaps Go.MapKept
set_option linter.unusedVariables false
set_option maxHeartbeats 8000000

def Pg.none : Pg := ⟨0, ⟨#[]⟩⟩
/-- What Put answers. -/
def Pg.put (p : Pg) (off : Int) (s : ByteArray) (at_ : Int) : Pg × Int :=
  if p.right = false then (Pg.none, 3)
  else if at_ < 0 ∨ 2147483647 < at_ then (Pg.none, 1)
  else if off < 0 ∨ 220 < s.size ∨ 220 < off + s.size then (Pg.none, 2)
  else (⟨at_, ⟨(splice p.data.data.toList off.toNat s.data.toList).toArray⟩⟩, 0)

set_option maxRecDepth 100000 in
theorem put_calls (p : Pg) (off at_ : Int) (s : ByteArray) (w : World) (res : Pg × Int) (hres : Hid (res = p.put off s at_)) (hf : p.data.size ≤ 2 ^ 62) (hs : s.size ≤ 2 ^ 62)
    (ho : fits off) (hn : fits at_) :
    Calls Try.prog 31 #[p.val, .int .i64 off, .string s, .int .i64 at_] w fun e w' => e = .returned (.tuple #[res.1.val, .int .i64 res.2]) ∧ Chg NoB w w' := by
  unfold fits at ho hn
  have hv : p.val = .agg #[.int .i64 p.at_, .string p.data] := rfl
  obtain ⟨f, hfr⟩ := named p.right
  have hsz : f = true → p.data.size = 220 := fun h => by
    rw [h] at hfr
    have := hfr.out.symm
    simp [Pg.right] at this
    exact this.2.2
  rw [hv]
  go_enter Try.func31, Try.ntmps31
  cases f
  · go_wp2_with (first
      | (go_at_call 39; refine (right_calls p _ _ hfr hf).mono ?_; rintro e w1 ⟨rfl, hc⟩; have hb8 := hc.heap (blk_new _ _) (fun e => e); rw [World.size_alloc] at hb8)
      | ((fail_if_success (fail_if_success (with_reducible change wpList _ _ _ (Oper.mk _ (.store 58 _ _) _ _ _ _ :: _) _ _))); refine step_storeRow rfl rfl (w.heap.size + 1) rfl rfl hb8 (by kernel_rfl) rfl (by simp [Value.oneCell']) ?_; intro w2 hb2 hc2 hs2))
    refine bodyPost_ret (res_row2 Try.underlying58 rfl _ _ (w.heap.size + 1) rfl hb2 (by kernel_rfl)) rfl ?_
    have hx := hres.out
    unfold Pg.put at hx
    rw [if_pos hfr.out.symm] at hx
    rw [hx]
    exact ⟨rfl, ((((Chg.refl _ _).alloc _).alloc _).trans' hc).trans hc2 (fun i hi => by cases hi; exact .inr (by omega))⟩
  · have hz := hsz rfl
    clear hsz
    go_wp2_with (first
      | (go_at_call 39; refine (right_calls p _ _ hfr hf).mono ?_; rintro e w1 ⟨rfl, hc⟩; have hb8 := hc.heap (blk_new _ _) (fun e => e); rw [World.size_alloc] at hb8; have hb1 : w1.cell? ⟨w.heap.size, 1, none⟩ = some (.string p.data) := hc.cell ((cell_blk (blk_alloc (blk_new _ _) _) 1).trans rfl) (fun e => e))
      | ((fail_if_success (fail_if_success (with_reducible change wpList _ _ _ (Oper.mk _ (.store 58 _ _) _ _ _ _ :: _) _ _))); refine step_storeRow rfl rfl (w.heap.size + 1) rfl rfl hb8 (by kernel_rfl) rfl (by simp [Value.oneCell']) ?_; intro w2 hb2 hc2 hs2)
      | ((fail_if_success (fail_if_success (with_reducible change wpList _ _ _ (Oper.mk _ (.alloc 78) _ _ _ _ :: _) _ _))); refine step_allocB rfl _ rfl (zero_arr _) ?_; intro w3 hb hc3 hs3; have hb9 := hc3.heap hb8 (fun e => e); have hb11 := hc3.cell hb1 (fun e => e)))
    all_goals first
      | (refine bodyPost_ret (res_row2 Try.underlying58 rfl _ _ (w.heap.size + 1) rfl hb2 (by kernel_rfl)) rfl ?_
         have hx := hres.out
         unfold Pg.put at hx
         rw [if_neg (by rw [← hfr.out]; decide)] at hx
         first
           | (rw [if_pos (by omega)] at hx
              rw [hx]
              exact ⟨rfl, ((((Chg.refl _ _).alloc _).alloc _).trans' hc).trans hc2 (fun i hi => by cases hi; exact .inr (by omega))⟩)
           | (rw [if_neg (by omega), if_pos (by omega)] at hx
              rw [hx]
              exact ⟨rfl, ((((Chg.refl _ _).alloc _).alloc _).trans' hc).trans hc2 (fun i hi => by cases hi; exact .inr (by omega))⟩))
      | skip
    have hle : (s.size : Int) ≤ 220 := by assumption
    have hof : off ≤ 220 - s.size := by omega
    have h0 : 0 ≤ off := by omega
    obtain ⟨m, rfl⟩ := Int.eq_ofNat_of_zero_le h0
    (refine wp_region_tail 3 (by kernel_rfl) (by kernel_rfl) ?_; simp only [List.take_succ_cons, List.take_zero, List.drop_succ_cons, List.drop_zero]; (repeat still_step); refine wpStill_nil ?_; change wpList _ _ _ _ _ _)
    refine step_copyS rfl _ _ _ _ rfl 5 Try.underlying79 (by kernel_rfl) (g := w1.heap.size) (off := 0) (l := List.replicate 220 0) hb rfl p.data rfl (by omega) (by simp; omega) ?_
    intro w4 hb4 hc4
    have hsp : splice (List.replicate 220 0) 0 p.data.data.toList = p.data.data.toList := by
      have : p.data.data.toList.length = 220 := by rw [← Lib.size_eq]; exact hz
      simp [splice, this]
    rw [hsp] at hb4
    clear hsp
    have hll : p.data.data.toList.length = 220 := by rw [← Lib.size_eq]; exact hz
    have hb10 := hc4.heap (k := w.heap.size + 1) hb9 (fun e => by have := hc.size; unfold OneB at e; simp at this; omega)
    have hcc : Chg NoB w w4 := (((((Chg.refl _ _).alloc _).alloc _).trans' hc).trans' hc3).drew.trans hc4 (fun i hi => by cases hi; have := hc.size; simp at this; exact .inr (by omega))
    have hgt : w.heap.size + 1 < w1.heap.size := by have := hc.size; simp at this; omega
    have hsl : s.data.toList.length = s.size := (Lib.size_eq s).symm
    have hspl : 220 = (splice p.data.data.toList m s.data.toList).length := by rw [splice_len (by omega)]; exact hll.symm
    have HX := hid hspl
    have HS := hid hsl
    have hx := hres.out
    unfold Pg.put at hx
    rw [if_neg (by rw [← hfr.out]; decide), if_neg (by omega), if_neg (by omega)] at hx
    have HR := hid hx
    clear hx hspl hsl hres
    clear hb hb9 hb11 hc3 hs3 hc hb8 hb1
    have h220 : (m : Int) ≤ 220 := by omega
    by_cases hm : m = 220
    · subst hm
      have hs0 : s.size = 0 := by omega
      go_wp2_with (first
        | (refine step_copy0 rfl _ _ _ _ rfl 5 Try.underlying79 (by kernel_rfl) rfl s rfl hs0 ?_)
        | ((fail_if_success (fail_if_success (with_reducible change wpList _ _ _ (Oper.mk _ (.convert 79 _ _) _ _ _ _ :: _) _ _))); refine step_convS rfl _ _ _ _ rfl Try.underlying79 Try.underlying5 Try.underlying9 hb4 220 220 hll.symm rfl ?_)
        | ((fail_if_success (fail_if_success (with_reducible change wpList _ _ _ (Oper.mk _ (.store 58 _ _) _ _ _ _ :: _) _ _))); refine step_storeRow rfl rfl (w.heap.size + 1) rfl rfl hb10 (by kernel_rfl) rfl (by simp [Value.oneCell']) ?_; intro w2 hb2 hc2 hs2))
      refine bodyPost_ret (res_row2 Try.underlying58 rfl _ _ (w.heap.size + 1) rfl hb2 (by kernel_rfl)) rfl ?_
      have hnil : s.data.toList = [] := List.length_eq_zero_iff.1 (by rw [HS.out, hs0])
      rw [HR.out, hnil, splice_nil]
      exact ⟨rfl, hcc.trans hc2 (fun i hi => by cases hi; exact .inr (by omega))⟩
    · have hne : ¬ (220 = m) := fun e => hm e.symm
      go_wp2_with (first
        | (refine step_copyS rfl _ _ _ _ rfl 5 Try.underlying79 (by kernel_rfl) (g := w1.heap.size) (off := m) hb4 rfl s rfl (by omega) (by rw [hll]; omega) ?_; intro w5 hb5 hc5; have hb12 := hc5.heap (k := w.heap.size + 1) hb10 (fun e => by unfold OneB at e; omega))
        | ((fail_if_success (fail_if_success (with_reducible change wpList _ _ _ (Oper.mk _ (.convert 79 _ _) _ _ _ _ :: _) _ _))); refine step_convS rfl _ _ _ _ rfl Try.underlying79 Try.underlying5 Try.underlying9 hb5 220 220 HX.out rfl ?_)
        | ((fail_if_success (fail_if_success (with_reducible change wpList _ _ _ (Oper.mk _ (.store 58 _ _) _ _ _ _ :: _) _ _))); refine step_storeRow rfl rfl (w.heap.size + 1) rfl rfl hb12 (by kernel_rfl) rfl (by simp [Value.oneCell']) ?_; intro w2 hb2 hc2 hs2))
      refine bodyPost_ret (res_row2 Try.underlying58 rfl _ _ (w.heap.size + 1) rfl hb2 (by kernel_rfl)) rfl ?_
      rw [HR.out]
      exact ⟨rfl, (hcc.trans hc5 (fun i hi => by cases hi; exact .inr (by omega))).trans hc2 (fun i hi => by cases hi; exact .inr (by omega))⟩
end Go.Proofs.Ytobmaipjbepphaa
