import Derived.Test.YtekjchphlphecaaSb11
namespace Go.Proofs.Ytekjchphlphecaa
open Go.RowKit Go.ChangeMaps Go.MapKept
set_option linter.unusedVariables false
set_option linter.unusedSimpArgs false
set_option maxHeartbeats 8000000

theorem slByte : SlT Try.prog 60 5 (.int .u8 0) 1 1 := ⟨Try.underlying60, by kernel_rfl, rfl, by decide⟩
set_option maxRecDepth 100000 in
theorem make220 (w : World) : (Instr.makeSlice 60 (.int .i64 220) (.int .i64 220)).run Try.prog w = .ok (.slice (some ⟨w.heap.size, 0, none⟩) 220 220) (w.alloc (.cells (Lib.byteCells (List.replicate 220 0)).toArray 5)) := by
  obtain ⟨i, hi, hz0, hz1, hz2⟩ := info_parts slByte.inf
  have h := run_makeSlice (P := Try.prog) (w := w) 60 5 i _ slByte.und hi hz0 .i64 .i64 220 220 (by decide) (by decide) (by rw [hz1]; decide) (by rw [hz2]; decide) (by decide)
  rw [hz1] at h
  have e : madeCells (Value.int .u8 0).cells ((220 : Int).toNat * 1) = (Lib.byteCells (List.replicate 220 0)).toArray := by kernel_rfl
  rw [h, e]
  rfl
set_option maxRecDepth 100000 in
theorem rEmpty_calls (w : World) :
    Calls Try.prog 27 #[] w fun e w' => e = .returned Pg.empty.val ∧ Chg NoB w w' := by
  have hmk := make220
  go_enter Try.func27, Try.ntmps27
  go_wp2_with (first
    | ((fail_if_success (fail_if_success (with_reducible change wpList _ _ _ (Oper.mk _ (.convert 60 _ _) _ _ _ _ :: _) _ _))); refine step_convS rfl _ _ _ _ rfl Try.underlying60 Try.underlying5 Try.underlying9 (show BytesAt _ (w.heap.size + 1) 5 (List.replicate 220 0) by have := blk_new (w.alloc (.cells #[.int .i64 0, .string ⟨#[]⟩] 48)) (.cells (Lib.byteCells (List.replicate 220 0)).toArray 5); rw [World.size_alloc] at this; exact this) 220 220 (by simp) rfl ?_)
    | ((fail_if_success (fail_if_success (with_reducible change wpList _ _ _ (Oper.mk _ (.store 48 _ _) _ _ _ _ :: _) _ _))); refine step_storeRow rfl rfl w.heap.size rfl rfl (blk_alloc (blk_new _ _) _) (by kernel_rfl) rfl (by simp [Value.oneCell']) ?_; intro w2 hb2 hc2 hs2))
  refine bodyPost_ret (results_cell_row rfl _ _ w.heap.size _ _ _ _ rfl hb2 Try.underlying48 rfl (by kernel_rfl)) rfl ?_
  refine ⟨rfl, ?_⟩
  exact (((Chg.refl NoB w).alloc _).alloc _).new hc2 (fun i hi => by have h' : i = w.heap.size := hi; omega)
end Go.Proofs.Ytekjchphlphecaa

namespace Go.Proofs.Ytekjchphlphecaa
open Go.RowKit Go.ChangeMaps Go.MapKept
set_option linter.unusedVariables false
set_option linter.unusedSimpArgs false
set_option maxHeartbeats 8000000
set_option maxRecDepth 100000 in
theorem rRight_calls (p : Pg) (w : World) (res : Bool) (hres : Hid (res = p.right)) (hf : p.data.size ≤ 2 ^ 62) :
    Calls Try.prog 47 #[p.val] w fun e w' => e = .returned (.bool res) ∧ Chg NoB w w' := by
  unfold Pg.val
  obtain ⟨n1, h1⟩ := named p.data.size
  go_enter Try.func47, Try.ntmps47
  go_wp2
  all_goals go_ret
  all_goals exact ⟨ret_bool (by rw [hres.out]; simp only [Pg.right]; rw [Bool.eq_iff_iff]; simp; omega), (Chg.refl _ _).alloc _⟩
end Go.Proofs.Ytekjchphlphecaa

namespace Go.Proofs.Ytekjchphlphecaa
open Go.RowKit Go.ChangeMaps Go.MapKept
attribute [local go_sem] Go.Oper.rdK
set_option linter.unusedVariables false
set_option linter.unusedSimpArgs false
set_option maxHeartbeats 8000000

set_option maxRecDepth 100000 in
theorem rPut_calls (p : Pg) (off at_ : Int) (s : ByteArray) (w : World) (res : Pg × Int) (hres : Hid (res = p.put off s at_)) (hf : p.data.size ≤ 2 ^ 62) (hs : s.size ≤ 2 ^ 62)
    (ho : fits off) (hn : fits at_) :
    Calls Try.prog 43 #[p.val, .int .i64 off, .string s, .int .i64 at_] w fun e w' => e = .returned (.tuple #[res.1.val, .int .i64 res.2]) ∧ Chg NoB w w' := by
  unfold fits at ho hn
  have hv : p.val = .agg #[.int .i64 p.at_, .string p.data] := rfl
  obtain ⟨f, hfr⟩ := named p.right
  have hsz : f = true → p.data.size = 220 := fun h => by
    rw [h] at hfr
    have := hfr.out.symm
    simp [Pg.right] at this
    exact this.2.2
  rw [hv]
  go_enter Try.func43, Try.ntmps43
  cases f
  · go_wp2_with (first
      | (go_at_call 47; refine (rRight_calls p _ _ hfr hf).mono ?_; rintro e w1 ⟨rfl, hc⟩; have hb8 := hc.heap (blk_new _ _) (fun e => e); rw [World.size_alloc] at hb8)
      | ((fail_if_success (fail_if_success (with_reducible change wpList _ _ _ (Oper.mk _ (.store 48 _ _) _ _ _ _ :: _) _ _))); refine step_storeRow rfl rfl (w.heap.size + 1) rfl rfl hb8 (by kernel_rfl) rfl (by simp [Value.oneCell']) ?_; intro w2 hb2 hc2 hs2))
    refine bodyPost_ret (res_row2 Try.underlying48 rfl _ _ (w.heap.size + 1) rfl hb2 (by kernel_rfl)) rfl ?_
    have hx := hres.out
    unfold Pg.put at hx
    rw [if_pos hfr.out.symm] at hx
    rw [hx]
    exact ⟨rfl, ((((Chg.refl _ _).alloc _).alloc _).trans' hc).trans hc2 (fun i hi => by cases hi; exact .inr (by omega))⟩
  · have hz := hsz rfl
    clear hsz
    have hcs : (at_ < 0 ∨ 2147483647 < at_) ∨ (¬ (at_ < 0 ∨ 2147483647 < at_) ∧ (off < 0 ∨ 220 < s.size ∨ 220 < off + s.size)) ∨ (¬ (at_ < 0 ∨ 2147483647 < at_) ∧ ¬ (off < 0 ∨ 220 < s.size ∨ 220 < off + s.size)) := by omega
    have hx := hres.out
    unfold Pg.put at hx
    rw [if_neg (by rw [← hfr.out]; decide)] at hx
    rcases hcs with h1 | ⟨h1, h2⟩ | ⟨h1, h2⟩
    · rw [if_pos h1] at hx
      have HX := hid hx
      clear hx hres
      go_wp2_with (first
        | (go_at_call 47; refine (rRight_calls p _ _ hfr hf).mono ?_; rintro e w1 ⟨rfl, hc⟩; have hb8 := hc.heap (blk_new _ _) (fun e => e); rw [World.size_alloc] at hb8)
        | ((fail_if_success (fail_if_success (with_reducible change wpList _ _ _ (Oper.mk _ (.store 48 _ _) _ _ _ _ :: _) _ _))); refine step_storeRow rfl rfl (w.heap.size + 1) rfl rfl hb8 (by kernel_rfl) rfl (by simp [Value.oneCell']) ?_; intro w2 hb2 hc2 hs2))
      all_goals first
        | (exfalso; omega)
        | (refine bodyPost_ret (res_row2 Try.underlying48 rfl _ _ (w.heap.size + 1) rfl hb2 (by kernel_rfl)) rfl ?_
           rw [HX.out]
           exact ⟨rfl, ((((Chg.refl _ _).alloc _).alloc _).trans' hc).trans hc2 (fun i hi => by cases hi; exact .inr (by omega))⟩)
    · rw [if_neg h1, if_pos h2] at hx
      have HX := hid hx
      clear hx hres
      go_wp2_with (first
        | (go_at_call 47; refine (rRight_calls p _ _ hfr hf).mono ?_; rintro e w1 ⟨rfl, hc⟩; have hb8 := hc.heap (blk_new _ _) (fun e => e); rw [World.size_alloc] at hb8)
        | ((fail_if_success (fail_if_success (with_reducible change wpList _ _ _ (Oper.mk _ (.store 48 _ _) _ _ _ _ :: _) _ _))); refine step_storeRow rfl rfl (w.heap.size + 1) rfl rfl hb8 (by kernel_rfl) rfl (by simp [Value.oneCell']) ?_; intro w2 hb2 hc2 hs2))
      all_goals first
        | (exfalso; omega)
        | (refine bodyPost_ret (res_row2 Try.underlying48 rfl _ _ (w.heap.size + 1) rfl hb2 (by kernel_rfl)) rfl ?_
           rw [HX.out]
           exact ⟨rfl, ((((Chg.refl _ _).alloc _).alloc _).trans' hc).trans hc2 (fun i hi => by cases hi; exact .inr (by omega))⟩)
    · rw [if_neg h1, if_neg h2] at hx
      have HX := hid hx
      obtain ⟨m, rfl⟩ := Int.eq_ofNat_of_zero_le (show 0 ≤ off by omega)
      have a1 : ¬ at_ < 0 := by omega
      have a2 : ¬ 2147483647 < at_ := by omega
      have a3 : ¬ (m : Int) < 0 := by omega
      have a4 : ¬ (220 : Int) < (m : Int) := by omega
      have a5 : ¬ (220 : Int) - (m : Int) < (s.size : Int) := by omega
      clear hx hres h1 h2
      go_upto_region 7 with (first
        | (go_at_call 47; refine (rRight_calls p _ _ hfr hf).mono ?_; rintro e w1 ⟨rfl, hc⟩; have hb8 := hc.heap (blk_new _ _) (fun e => e); rw [World.size_alloc] at hb8; have hb1 : w1.cell? ⟨w.heap.size, 1, none⟩ = some (.string p.data) := hc.cell ((cell_blk (blk_alloc (blk_new _ _) _) 1).trans rfl) (fun e => e)))
      have a6 : (0 : Int) ≤ (m : Int) := by omega
      have a7 : (m : Int) ≤ (p.data.size : Int) := by omega
      have hw : IntKind.i64.wrap ((m : Int) + (s.size : Int)) = (m : Int) + (s.size : Int) := by rw [IntKind.wrap_i64]; omega
      have a8 : (m : Int) + (s.size : Int) ≤ (p.data.size : Int) := by omega
      have a9 : (0 : Int) ≤ (m : Int) + (s.size : Int) := by omega
      have a10 : (m : Int) + (s.size : Int) ≤ 220 := by omega
      have htn : ((m : Int) + (s.size : Int)).toNat = m + s.size := by omega
      have hcat2 : ¬ 9223372036854775807 < min m 220 + s.size + (220 - (m + s.size)) := by omega
      have hcat1 : ¬ 9223372036854775807 < min m 220 + s.size := by omega
      refine wp_region_ord 18 (.rd 0 (.rd 1 (.rd 2 (.rd 3 (.rd 4 (.rd 5 (.rd 6 (.rd 7 (.rd 8 (.rd 9 (.rd 10 (.rd 11 (.rd 12 (.rd 13 (.rd 14 (.rd 15 (.one 16 (.rd 17 (.done))))))))))))))))))) (fun w' => w'.cell? ⟨w.heap.size, 1, none⟩ = some (.string p.data)) (by kernel_rfl) (by kernel_rfl) (by kernel_rfl) (by kernel_rfl) (by kernel_rfl) (fun _ _ d _ _ h => by cases d <;> exact h) (hb1) (fun hS0 => ?_)
      refine wpOrd_rd rfl rfl (by first | decide | simp) (by assumption) (fun w' hw' K hK => by ((try unfold Same at hw'); (try go_split_ands); go_simp; exact hK)) ?_
      refine wpOrd_rd rfl rfl (by first | decide | simp) (by assumption) (fun w' hw' K hK => by ((try unfold Same at hw'); (try go_split_ands); go_simp; exact hK)) ?_
      refine wpOrd_rd rfl rfl (by first | decide | simp) (by assumption) (fun w' hw' K hK => by ((try unfold Same at hw'); (try go_split_ands); go_simp; exact hK)) ?_
      refine wpOrd_rd rfl rfl (by first | decide | simp) (by assumption) (fun w' hw' K hK => by ((try unfold Same at hw'); (try go_split_ands); go_simp; exact hK)) ?_
      refine wpOrd_rd rfl rfl (by first | decide | simp) (by assumption) (fun w' hw' K hK => by ((try unfold Same at hw'); (try go_split_ands); go_simp; exact hK)) ?_
      refine wpOrd_rd rfl rfl (by first | decide | simp) (by assumption) (fun w' hw' K hK => by ((try unfold Same at hw'); (try go_split_ands); go_simp; exact hK)) ?_
      refine wpOrd_rd rfl rfl (by first | decide | simp) (by assumption) (fun w' hw' K hK => by ((try unfold Same at hw'); (try go_split_ands); go_simp; exact hK)) ?_
      refine wpOrd_rd rfl rfl (by first | decide | simp) (by assumption) (fun w' hw' K hK => by ((try unfold Same at hw'); (try go_split_ands); go_simp; exact hK)) ?_
      refine wpOrd_rd rfl rfl (by first | decide | simp) (by assumption) (fun w' hw' K hK => by ((try unfold Same at hw'); (try go_split_ands); go_simp; exact hK)) ?_
      refine wpOrd_rd rfl rfl (by first | decide | simp) (by assumption) (fun w' hw' K hK => by ((try unfold Same at hw'); (try go_split_ands); go_simp; exact hK)) ?_
      refine wpOrd_rd rfl rfl (by first | decide | simp) (by assumption) (fun w' hw' K hK => by ((try unfold Same at hw'); (try go_split_ands); go_simp; exact hK)) ?_
      refine wpOrd_rd rfl rfl (by first | decide | simp) (by assumption) (fun w' hw' K hK => by ((try unfold Same at hw'); (try go_split_ands); go_simp; exact hK)) ?_
      refine wpOrd_rd rfl rfl (by first | decide | simp) (by assumption) (fun w' hw' K hK => by ((try unfold Same at hw'); (try go_split_ands); go_simp; exact hK)) ?_
      refine wpOrd_rd rfl rfl (by first | decide | simp) (by assumption) (fun w' hw' K hK => by ((try unfold Same at hw'); (try go_split_ands); go_simp; exact hK)) ?_
      refine wpOrd_rd rfl rfl (by first | decide | simp) (by assumption) (fun w' hw' K hK => by ((try unfold Same at hw'); (try go_split_ands); go_simp; exact hK)) ?_
      refine wpOrd_rd rfl rfl (by first | decide | simp) (by assumption) (fun w' hw' K hK => by ((try unfold Same at hw'); (try go_split_ands); go_simp; exact hK)) ?_
      refine wpOrd_do rfl ?_
      refine step_storeRow rfl rfl (w.heap.size + 1) rfl rfl hb8 (by kernel_rfl) rfl (by simp [Value.oneCell']) ?_; intro w2 hb2 hc2 hs2
      (try dsimp only [Act.put])
      refine wpOrd_done (hc2.cell hb1 (fun x => by have h' : w.heap.size = w.heap.size + 1 := x; omega)) (fun hS1 => ?_)
      refine wpOrd_rd rfl rfl (by first | decide | simp) (by assumption) (fun w' hw' K hK => by ((try unfold Same at hw'); (try go_split_ands); go_simp; exact hK)) ?_
      refine wpOrd_nil ?_
      go_wp2_with fail
      have hbt : p.data.extract 0 m ++ s ++ p.data.extract (m + s.size) 220 = ⟨(splice p.data.data.toList m s.data.toList).toArray⟩ := by
        apply ByteArray.ext
        apply Array.ext'
        have hl : p.data.data.toList.length = 220 := by rw [← Lib.size_eq]; exact hz
        have hss : s.data.toList.length = s.size := (Lib.size_eq s).symm
        simp [splice, ByteArray.data_append, ByteArray.data_extract, hss]
        exact List.take_of_length_le (by rw [List.length_drop, hl]; omega)
      refine bodyPost_ret (res_row2 Try.underlying48 rfl _ _ (w.heap.size + 1) rfl hb2 (by kernel_rfl)) rfl ?_
      rw [HX.out]
      exact ⟨by simp only [Pg.val, Int.toNat_natCast]; rw [← hbt]; rfl, ((((Chg.refl _ _).alloc _).alloc _).trans' hc).drew.trans hc2 (fun i hi => by cases hi; exact .inr (by omega))⟩
end Go.Proofs.Ytekjchphlphecaa
