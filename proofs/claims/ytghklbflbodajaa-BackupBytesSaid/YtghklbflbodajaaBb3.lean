import Derived.Test.YtghklbflbodajaaBb2
namespace Go.Proofs.Ytghklbflbodajaa
open Go.RowKit Go.ChangeMaps Go.MapKept
attribute [local go_sem] Go.Oper.rdK
set_option linter.unusedVariables false
set_option linter.unusedSimpArgs false
set_option linter.unnecessarySimpa false
set_option maxHeartbeats 8000000

/-- A reference's backup that the law has made: copies L in block g. -/
structure RbM (w : World) (p g : Nat) (L : List Tk) : Prop where
  hd : w.heap[p]? = some (.cells #[.slice (some ⟨g, 0, none⟩) L.length L.length] 38 (0, 0))
  row : w.heap[g]? = some (.cells (tksC L).toArray 73 (0, 0))
  ne : p ≠ g
  len : 1 ≤ L.length ∧ L.length ≤ 8
  ok : tkOk L
theorem RbM.keep {w w' : World} {p g : Nat} {L : List Tk} {S : Nat → Prop} (h : RbM w p g L) (hc : Chg S w w') (h1 : ¬ S p) (h2 : ¬ S g) : RbM w' p g L :=
  ⟨hc.heap h.hd h1, hc.heap h.row h2, h.ne, h.len, h.ok⟩
theorem RbM.mono {w w' : World} {p g : Nat} {L : List Tk} (h : RbM w p g L) (hc : Chg NoB w w') : RbM w' p g L := h.keep hc nob nob
theorem RbM.sl {w : World} {p g : Nat} {L : List Tk} (h : RbM w p g L) : w.cell? ⟨p, 0, none⟩ = some (.slice (some ⟨g, 0, none⟩) L.length L.length) := cell_blk h.hd 0
theorem RbM.rd {w : World} {p g : Nat} {L : List Tk} (h : RbM w p g L) : RbR w p (.slice (some ⟨g, 0, none⟩) L.length L.length) L :=
  ⟨h.hd, Rd.of_blk (enc := encTk) (size := 4) (fun _ => rfl) h.row (by simp [tksC]) (by have := h.len; unfold maxLen; omega)⟩
theorem slTkQ : SlT Try.prog 36 73 (.agg #[.bool false, .int .i64 0, .string ⟨#[]⟩, .int .i64 0]) 4 40 := ⟨Try.underlying36, by kernel_rfl, rfl, by decide⟩
set_option maxRecDepth 100000 in
theorem makeTkQ (n : Nat) (h8 : n ≤ 8) (h1 : 1 ≤ n) (w : World) : (Instr.makeSlice 36 (.int .i64 n) (.int .i64 n)).run Try.prog w = .ok (.slice (some ⟨w.heap.size, 0, none⟩) n n) (w.alloc (.cells (tksC (bkNew n)).toArray 73)) := by
  obtain ⟨i, hi, hz0, hz1, hz2⟩ := info_parts slTkQ.inf
  have h := run_makeSlice (P := Try.prog) (w := w) 36 73 i _ slTkQ.und hi hz0 .i64 .i64 n n (by omega) (by omega) (by rw [hz1]; omega) (by rw [hz2]; omega) (by omega)
  rw [hz1] at h
  have hc : n = 1 ∨ n = 2 ∨ n = 3 ∨ n = 4 ∨ n = 5 ∨ n = 6 ∨ n = 7 ∨ n = 8 := by omega
  have e : madeCells (Value.agg #[.bool false, .int .i64 0, .string ⟨#[]⟩, .int .i64 0]).cells ((n : Int).toNat * 4) = (tksC (bkNew n)).toArray := by
    rcases hc with rfl | rfl | rfl | rfl | rfl | rfl | rfl | rfl <;> kernel_rfl
  rw [h, e]
  simp

set_option maxRecDepth 100000 in
theorem qTake_calls (b g : Nat) (L : List Tk) (n at_ : Int) (p : Pg) (w : World) (h : RbM w b g L) (hf : p.data.size ≤ 2 ^ 62) (hn : fits n) (ha : fits at_) (res : List Tk × Int) (hres : Hid (res = bkTake L n p at_)) :
    Calls Try.prog 14 #[.pointer (some ⟨b, 0, none⟩), .int .i64 n, .agg #[.int .i64 p.at_, .string p.data], .int .i64 at_] w fun e w' => e = .returned (.int .i64 res.2) ∧ Hid (RbM w' b g res.1) ∧ Hid (Chg (OneB g) w w') := by
  unfold fits at hn ha
  have HB := hid h
  have h8 := h.len
  have hs := h.sl
  clear h
  have HA : Hid (Chg NoB w (w.alloc (.cells #[.int .i64 p.at_, .string p.data] 40))) := hid ((Chg.refl NoB w).alloc _)
  have hs1 := HA.out.cell hs nob
  have hr := hres.out
  unfold bkTake at hr
  obtain ⟨f, hfr⟩ := named p.right
  by_cases h1 : n < 0
  · rw [if_pos (Or.inl h1)] at hr
    subst hr
    go_enter Try.func14, Try.ntmps14
    go_wp2_with fail
    go_ret
    exact ⟨rfl, hid (HB.out.mono HA.out), hid (HA.out.mono fun _ e => e.elim)⟩
  by_cases h2 : (L.length : Int) ≤ n
  · rw [if_pos (Or.inr h2)] at hr
    subst hr
    have h2' : n ≥ (L.length : Int) := h2
    go_enter Try.func14, Try.ntmps14
    go_wp2_with fail
    go_ret
    exact ⟨rfl, hid (HB.out.mono HA.out), hid (HA.out.mono fun _ e => e.elim)⟩
  rw [if_neg (by omega)] at hr
  have h2' : ¬ n ≥ (L.length : Int) := h2
  cases f
  · rw [if_pos hfr.out.symm] at hr
    subst hr
    go_enter Try.func14, Try.ntmps14
    go_wp2_with (go_at_call 37; refine (qRight_calls p _ _ hfr hf).mono ?_; rintro e w' ⟨rfl, hc⟩)
    go_ret
    exact ⟨rfl, hid (HB.out.mono (HA.out.trans' hc)), hid ((HA.out.trans' hc).mono fun _ e => e.elim)⟩
  rw [if_neg (by rw [← hfr.out]; decide)] at hr
  by_cases h3 : at_ < 0
  · rw [if_pos (Or.inl h3)] at hr
    subst hr
    go_enter Try.func14, Try.ntmps14
    go_wp2_with (go_at_call 37; refine (qRight_calls p _ _ hfr hf).mono ?_; rintro e w' ⟨rfl, hc⟩)
    go_ret
    exact ⟨rfl, hid (HB.out.mono (HA.out.trans' hc)), hid ((HA.out.trans' hc).mono fun _ e => e.elim)⟩
  by_cases h4 : 2147483647 < at_
  · rw [if_pos (Or.inr h4)] at hr
    subst hr
    have h4' : at_ > 2147483647 := h4
    go_enter Try.func14, Try.ntmps14
    go_wp2_with (go_at_call 37; refine (qRight_calls p _ _ hfr hf).mono ?_; rintro e w' ⟨rfl, hc⟩)
    go_ret
    exact ⟨rfl, hid (HB.out.mono (HA.out.trans' hc)), hid ((HA.out.trans' hc).mono fun _ e => e.elim)⟩
  rw [if_neg (by omega)] at hr
  subst hr
  have h4' : ¬ at_ > 2147483647 := h4
  have hsz := right_size hfr.out.symm
  have HZ := hid hsz
  clear hsz
  obtain ⟨k, rfl⟩ := Int.eq_ofNat_of_zero_le (a := n) (by omega)
  have hk : k < L.length := by omega
  have hb0 : (w.alloc (.cells #[.int .i64 p.at_, .string p.data] 40)).heap[w.heap.size]? = some (.cells #[.int .i64 p.at_, .string p.data] 40 (0, 0)) := blk_new _ _
  have HB0 := hid hb0
  clear hb0
  have hg := HB.out.row
  have HGl : Hid (g < w.heap.size) := hid (lt_of_block hg)
  have HG := hid hg
  clear hg
  go_enter Try.func14, Try.ntmps14
  go_upto_region 7 with (go_at_call 37; refine (qRight_calls p _ _ hfr hf).mono ?_; rintro e w1 ⟨rfl, hc1⟩)
  have hb1 := hc1.heap HB0.out nob
  have hg1 := hc1.heap (HA.out.heap HG.out nob) nob
  have hs2 := hc1.cell hs1 nob
  have HC1 := hid (HA.out.trans' hc1)
  have HG1 := hid hg1
  clear hc1 hg1 hs hs1
  have hc0 := cell_blk hb1 0
  have hc1 := cell_blk hb1 1
  have hlen : Hid ((tksC L).length = L.length * 4) := hid (tksC_len L)
  refine wp_region_ord 9 (.rd 0 (.rd 1 (.rd 2 (.rd 3 (.rd 4 (.rd 5 (.rd 6 (.rd 7 (.rd 8 (.one 9 (.done))))))))))) (Same w1) (by kernel_rfl) (by kernel_rfl) (by kernel_rfl) (by kernel_rfl) (by kernel_rfl) (fun _ _ d _ _ h => by cases d <;> exact h) (Same.of (Chg.refl _ _).drew) (fun hS0 => ?_)
  refine wpOrd_rd rfl rfl (by first | decide | simp) (by assumption) (fun w' hw' K hK => by ((try unfold Same at hw'); (try go_split_ands); go_simp; exact hK)) ?_
  refine wpOrd_rd rfl rfl (by first | decide | simp) (by assumption) (fun w' hw' K hK => by ((try unfold Same at hw'); (try go_split_ands); go_simp; exact hK)) ?_
  refine wpOrd_rd rfl rfl (by first | decide | simp) (by assumption) (fun w' hw' K hK => by ((try unfold Same at hw'); (try go_split_ands); go_simp; exact hK)) ?_
  refine wpOrd_rd rfl rfl (by first | decide | simp) (by assumption) (fun w' hw' K hK => by ((try unfold Same at hw'); (try go_split_ands); go_simp; exact hK)) ?_
  refine wpOrd_rd rfl rfl (by first | decide | simp) (by assumption) (fun w' hw' K hK => by ((try unfold Same at hw'); (try go_split_ands); go_simp; exact hK)) ?_
  refine wpOrd_rd rfl rfl (by first | decide | simp) (by assumption) (fun w' hw' K hK => by ((try unfold Same at hw'); (try go_split_ands); go_simp; exact hK)) ?_
  refine wpOrd_rd rfl rfl (by first | decide | simp) (by assumption) (fun w' hw' K hK => by ((try unfold Same at hw'); (try go_split_ands); go_simp; exact hK)) ?_
  refine wpOrd_rd rfl rfl (by first | decide | simp) (by assumption) (fun w' hw' K hK => by ((try unfold Same at hw'); (try go_split_ands); go_simp; exact hK)) ?_
  refine wpOrd_rd rfl rfl (by first | decide | simp) (by assumption) (fun w' hw' K hK => by ((try unfold Same at hw'); (try go_split_ands); go_simp; exact hK)) ?_
  refine wpOrd_do rfl ?_
  refine step_storeAt rfl rfl g (k * 4) (cells := encTk ⟨true, p, at_⟩) rfl rfl (show (World.drew w1).heap[g]? = _ from HG1.out) (by kernel_rfl) (by rw [hlen.out]; simp [encTk]; omega) (by simp [encTk, Value.oneCell']) ?_; intro w3 hb3 hc3 hs3
  (try dsimp only [Act.put])
  refine wpOrd_last ?_
  refine wpOrd_nil ?_
  have hcs := tksC_set L k ⟨true, p, at_⟩ hk
  have hb3' : w3.heap[g]? = some (.cells (tksC (L.set k ⟨true, p, at_⟩)).toArray 73 (0, 0)) := by rw [hb3]; congr 2; rw [← hcs]; rfl
  clear hb3 hcs
  have HB3 := hid hb3'
  clear hb3'
  have HC3 := hid hc3
  clear hc3
  go_wp2_with fail
  go_ret
  have hCC : Chg (OneB g) w w3 := (HC1.out.mono fun _ e => e.elim).drew.trans' HC3.out
  refine ⟨rfl, hid ⟨?_, ?_, HB.out.ne, by simpa using HB.out.len, tkOk_set HB.out.ok k ⟨fun _ => ⟨hfr.out.symm, by show 0 ≤ at_; omega, by show at_ ≤ _; omega⟩, fun h => by simp at h, by show p.data.size ≤ 220; rw [HZ.out]; omega⟩⟩, hid hCC⟩
  · simpa using hCC.heap HB.out.hd HB.out.ne
  · simpa using HB3.out
end Go.Proofs.Ytghklbflbodajaa
