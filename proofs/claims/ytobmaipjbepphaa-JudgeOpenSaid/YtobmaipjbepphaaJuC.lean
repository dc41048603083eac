import Derived.Test.YtobmaipjbepphaaJuO
namespace Go.Proofs.Ytobmaipjbepphaa
open Go.RowKit Go.ChangeMaps Go.MapKept
attribute [local go_sem] Go.Oper.rdK
set_option linter.unusedVariables false
set_option maxHeartbeats 8000000

theorem set_out {g m : Nat} {PL : List Pg} {t : TypeId} {w : World} (hg : w.heap[g]? = some (.cells (pgsC PL).toArray t (0, 0))) (hm : PL.length = m) {b o : Nat} {r : Rec} {v1 v2 : Value} (hr : RcAt w b o r v1 v2) (hrk : r.okk) (hPL : ∀ q ∈ PL, q.data.size ≤ 220) (h8 : m ≤ 8) :
    Calls Try.prog 24 #[.slice (some ⟨g, 0, none⟩) m m, .pointer (some ⟨b, o, none⟩)] w fun e w' => e = .returned (.tuple #[]) ∧ w'.heap[g]? = some (.cells (pgsC (jPut PL r)).toArray t (0, 0)) ∧ Chg (OneB g) w w' := by
  subst hm
  have h := set_calls g [] [] PL b o PL.length r v1 v2 t w (by simpa using hg) hr hrk.1 hrk.2.2 hPL h8 (Nat.le_refl _)
  refine h.mono ?_
  rintro e w' ⟨rfl, h1, h2⟩
  exact ⟨rfl, by simpa using h1, h2⟩
def jPuts (PL : List Pg) (st : List Rec) : List Pg := st.foldl jPut PL
theorem jPuts_len (st : List Rec) : ∀ PL : List Pg, (jPuts PL st).length = PL.length := by
  induction st with
  | nil => intro PL; rfl
  | cons r st ih => intro PL; show (jPuts (jPut PL r) st).length = _; rw [ih, jPut_len]
theorem jPuts_size (st : List Rec) : ∀ PL : List Pg, (∀ q ∈ PL, q.data.size ≤ 220) → ∀ q ∈ jPuts PL st, q.data.size ≤ 220 := by
  induction st with
  | nil => intro PL h; exact h
  | cons r st ih => intro PL h; exact ih _ (jPut_size h r)

set_option maxRecDepth 100000 in
theorem pages1_calls (e : JE) (ob g m : Nat) (PL : List Pg) (w : World) (he : JI.ok w e) (ho : w.heap[ob]? = some (.cells #[.slice (some ⟨g, 0, none⟩) m m] 66 (0, 0))) (hg : w.heap[g]? = some (.cells (pgsC PL).toArray 58 (0, 0)))
    (hm : PL.length = m) (h8 : m ≤ 8) (hPL : ∀ q ∈ PL, q.data.size ≤ 220) (h1 : g ≠ ob) (h2 : g ≠ e.b) (h3 : ¬ OwnB e.mv g) :
    Calls Try.prog 23 #[.pointer (some ⟨e.b, 0, none⟩), .pointer (some ⟨ob, 0, none⟩)] w fun en w' => en = .returned (.tuple #[]) ∧ w'.heap[g]? = some (.cells (pgsC (jPuts PL e.s.stand)).toArray 58 (0, 0)) ∧ Chg (OneB g) w w' := by
  obtain ⟨hblk, xs, hx1, hx2, hx3, hx4⟩ := he
  obtain ⟨ao, cap, hmv, hm1, hm2, hm3⟩ := hx2.form
  have e3 : w.cell? ⟨e.b, 3, none⟩ = some (.slice ao xs.length cap) := by rw [← hmv, cell_blk hblk]; rfl
  have o0 : w.cell? ⟨ob, 0, none⟩ = some (.slice (some ⟨g, 0, none⟩) m m) := by rw [cell_blk ho]; rfl
  have HX1 := hid hx1
  have HX2 := hid hx2
  have HX3 := hid hx3
  have HMV := hid hmv
  have HG := hid hg
  have HB := hid hblk
  have HPL := hid hPL
  have HM := hid hm
  unfold maxLen at hm2
  clear hx1 hx2 hx3 hx4 hmv hg hblk hPL hm ho
  go_enter Try.func23, Try.ntmps23
  go_wp2
  go_loopw [9] (fun i wr => ∃ k : Nat, k ≤ xs.length ∧ i = .int .i64 k ∧ Hid (Chg (OneB g) w wr ∧ wr.heap[g]? = some (.cells (pgsC (jPuts PL (e.s.stand.take k))).toArray 58 (0, 0)))) (fun i _ => xs.length - (intOf i).toNat)
  case atStart => exact ⟨0, by omega, rfl, Chg.refl _ _, by simpa [jPuts] using HG.out⟩
  case round =>
    obtain ⟨k, hk, rfl, hI⟩ := hrel
    by_cases hlt : k < xs.length
    · obtain ⟨g', cap', hv', _, hcell⟩ := OwW.cell encRv_len HX2.out (List.getElem?_eq_getElem hlt)
      have hvv := HMV.out.symm.trans hv'
      simp only [Value.slice.injEq, true_and] at hvv
      obtain ⟨rfl, rfl⟩ := hvv
      have hgg : g' ≠ g := fun x => h3 (by rw [hv']; simp [OwnB, Value.ownBlock, x])
      obtain ⟨⟨r, v1, v2⟩, hy⟩ := named xs[k]
      rw [← hy.out] at hcell
      have hr : Hid (RcAt wr g' (k * 11) r v1 v2) := hid (fun j u hu => hI.out.1.cell (hcell j u hu) hgg)
      have hst : Hid (e.s.stand.take (k + 1) = e.s.stand.take k ++ [r]) := hid (by
        have h4 : k < e.s.stand.length := by rw [← HX1.out]; simpa using hlt
        rw [List.take_succ_eq_append_getElem h4]
        congr 2
        have := congrArg (·[k]?) HX1.out
        simp only [List.getElem?_map, List.getElem?_eq_getElem hlt, List.getElem?_eq_getElem h4, Option.map_some, ← hy.out, Option.some.injEq] at this
        exact this.symm)
      have hrk : r.okk := HX3.out r (by rw [← HX1.out]; exact List.mem_map.2 ⟨_, List.getElem_mem hlt, by rw [← hy.out]⟩)
      have e3' := hI.out.1.cell e3 (fun x => h2 (Eq.symm x))
      have o0' := hI.out.1.cell o0 (fun x => h1 (Eq.symm x))
      clear e3 o0 hv' hcell
      have hk0 : (0 : Int) ≤ (k : Int) := by omega
      have hk1 : (k : Int) < (xs.length : Int) := by omega
      have HG3 : Hid ((World.drew wr).heap[g]? = some (.cells (pgsC (jPuts PL (e.s.stand.take k))).toArray 58 (0, 0))) := hid hI.out.2
      have HL3 : Hid ((jPuts PL (e.s.stand.take k)).length = m) := hid (by rw [jPuts_len]; exact HM.out)
      have HR3 : Hid (RcAt (World.drew wr) g' (k * 11) r v1 v2) := hid (hr.out.keep (Chg.refl NoB wr).drew nob)
      have HS3 := hid (jPuts_size (e.s.stand.take k) PL HPL.out)
      go_upto_region 3 with fail
      refine wp_region_ord 7 (.rd 0 (.rd 1 (.rd 2 (.rd 3 (.rd 4 (.rd 5 (.rd 6 (.one 7 (.done))))))))) (Same wr) (by kernel_rfl) (by kernel_rfl) (by kernel_rfl) (by kernel_rfl) (by kernel_rfl) (fun _ _ d _ _ h => by cases d <;> exact h) (Same.of (Chg.refl _ _).drew) (fun hS0 => ?_)
      refine wpOrd_rd rfl rfl (by first | decide | simp) (by assumption) (fun w' hw' K hK => by ((try unfold Same at hw'); (try go_split_ands); go_simp; exact hK)) ?_
      refine wpOrd_rd rfl rfl (by first | decide | simp) (by assumption) (fun w' hw' K hK => by ((try unfold Same at hw'); (try go_split_ands); go_simp; exact hK)) ?_
      refine wpOrd_rd rfl rfl (by first | decide | simp) (by assumption) (fun w' hw' K hK => by ((try unfold Same at hw'); (try go_split_ands); go_simp; exact hK)) ?_
      refine wpOrd_rd rfl rfl (by first | decide | simp) (by assumption) (fun w' hw' K hK => by ((try unfold Same at hw'); (try go_split_ands); go_simp; exact hK)) ?_
      refine wpOrd_rd rfl rfl (by first | decide | simp) (by assumption) (fun w' hw' K hK => by ((try unfold Same at hw'); (try go_split_ands); go_simp; exact hK)) ?_
      refine wpOrd_rd rfl rfl (by first | decide | simp) (by assumption) (fun w' hw' K hK => by ((try unfold Same at hw'); (try go_split_ands); go_simp; exact hK)) ?_
      refine wpOrd_rd rfl rfl (by first | decide | simp) (by assumption) (fun w' hw' K hK => by ((try unfold Same at hw'); (try go_split_ands); go_simp; exact hK)) ?_
      refine wpOrd_do rfl ?_
      refine wpList_plain rfl (fun K hK => ?_)
      go_simp
      ((with_reducible refine (set_out HG3.out HL3.out HR3.out hrk HS3.out h8).mono ?_); rintro en w3 ⟨rfl, hb3, hc3⟩)
      refine hK _ _ ?_
      clear hK K
      (try dsimp only [Act.put])
      (try simp only [List.setIfInBounds_toArray, List.set_cons_zero, List.set_cons_succ])
      refine wpOrd_last ?_
      refine wpOrd_nil ?_
      have hI3 : Hid (Chg (OneB g) w w3 ∧ w3.heap[g]? = some (.cells (pgsC (jPuts PL (e.s.stand.take (k + 1)))).toArray 58 (0, 0))) := hid ⟨(hI.out.1.drew).trans' hc3, by rw [hst.out]; simpa [jPuts] using hb3⟩
      clear hb3 hc3 hS0 e3' o0'
      go_wp2_with fail
      go_roundw
      case rel => exact ⟨k + 1, by omega, by go_num, hI3⟩
      case measure => simp [intOf]; omega
    · obtain rfl : k = xs.length := by omega
      go_wp2_with fail
      go_end0
      have hl : xs.length = e.s.stand.length := by rw [← HX1.out]; simp
      exact ⟨rfl, by have := hI.out.2; rw [hl, List.take_length] at this; exact this, hI.out.1⟩
end Go.Proofs.Ytobmaipjbepphaa
