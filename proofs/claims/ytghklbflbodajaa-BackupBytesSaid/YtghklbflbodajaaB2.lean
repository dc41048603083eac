import Derived.Test.YtghklbflbodajaaAnTab
import Derived.Test.YtghklbflbodajaaWk
import Derived.Test.YtghklbflbodajaaA7
import Derived.Test.YtghklbflbodajaaA3
import Derived.Test.YtghklbflbodajaaOrd2
namespace Go.Proofs.Ytghklbflbodajaa
open Go.RowKit Go.ChangeMaps Go.MapKept
attribute [local go_sem] Go.Oper.rdK
set_option linter.unusedVariables false
set_option linter.unusedSimpArgs false
set_option linter.unnecessarySimpa false
set_option maxHeartbeats 8000000

/-! ### the rows of transactions, by their last records, the greatest first -/
def rwC (l : List Row3) : List Value := l.flatMap encTx
theorem rwC_len (l : List Row3) : (rwC l).length = l.length * 3 := by
  induction l with
  | nil => rfl
  | cons x l ih => simp only [rwC, encTx, List.flatMap_cons, List.length_append, List.length_cons, List.length_nil] at *; omega
theorem rwC_app (a b : List Row3) : rwC (a ++ b) = rwC a ++ rwC b := by simp [rwC]
theorem rwC_one {l : List Row3} : ∀ v ∈ rwC l, v.oneCell' = true := by
  intro v hv
  unfold rwC at hv
  obtain ⟨q, _, hq⟩ := List.mem_flatMap.1 hv
  simp only [encTx, List.mem_cons, List.not_mem_nil, or_false] at hq
  rcases hq with rfl | rfl | rfl <;> rfl
theorem rwC_set (l : List Row3) (k : Nat) (p : Row3) (hk : k < l.length) (post : List Value) : (rwC l ++ post).take (k * 3) ++ encTx p ++ (rwC l ++ post).drop (k * 3 + 3) = rwC (l.set k p) ++ post := by
  have hl := rwC_len l
  rw [List.take_append_of_le_length (by omega), List.drop_append_of_le_length (by omega)]
  have h1 : (rwC l).take (k * 3) = rwC (l.take k) := by
    conv => lhs; rw [← List.take_append_drop k l, rwC_app]
    rw [List.take_left' (by rw [rwC_len, List.length_take]; omega)]
  have h2 : (rwC l).drop (k * 3 + 3) = rwC (l.drop (k + 1)) := by
    conv => lhs; rw [← List.take_append_drop (k + 1) l, rwC_app]
    rw [List.drop_left' (by rw [rwC_len, List.length_take]; omega)]
  rw [h1, h2, List.set_eq_take_append_cons_drop, if_pos hk]
  simp [rwC]
theorem rwC_get {w : World} {g : Nat} {l : List Row3} {post : List Value} {t : TypeId} {f : Nat × Nat} (h : w.heap[g]? = some (.cells (rwC l ++ post).toArray t f)) (k : Nat) (x : Row3) (hx : l[k]? = some x) :
    w.cell? ⟨g, k * 3, none⟩ = some (.int .i64 x.1) ∧ w.cell? ⟨g, k * 3 + 1, none⟩ = some (.int .i64 x.2.1) ∧ w.cell? ⟨g, k * 3 + 2, none⟩ = some (.int .i64 x.2.2) := by
  have hk : k < l.length := (List.getElem?_eq_some_iff.1 hx).1
  have hl := rwC_len l
  have hg : ∀ j u, (encTx x)[j]? = some u → w.cell? ⟨g, k * 3 + j, none⟩ = some u := fun j u hu => by
    have hj : j < 3 := by have := (List.getElem?_eq_some_iff.1 hu).1; simpa [encTx] using this
    rw [cell_blk h, List.getElem?_toArray, List.getElem?_append_left (by omega)]
    exact flatMap_get (size := 3) (enc := encTx) (fun _ => rfl) hx hu
  exact ⟨hg 0 _ rfl, hg 1 _ rfl, hg 2 _ rfl⟩
def insPos (acc : List Row3) (x : Row3) : Nat → Nat
  | 0 => 0
  | j + 1 => if (acc.getD j (0, 0, 0)).2.2 < x.2.2 then insPos acc x j else j + 1
def insD (acc : List Row3) (x : Row3) : List Row3 := acc.take (insPos acc x acc.length) ++ x :: acc.drop (insPos acc x acc.length)
def sortD (l : List Row3) : List Row3 := l.foldl insD []
theorem insPos_le (acc : List Row3) (x : Row3) (j : Nat) : insPos acc x j ≤ j := by
  induction j with
  | zero => exact Nat.le_refl _
  | succ j ih => unfold insPos; split <;> omega
theorem insD_perm (acc : List Row3) (x : Row3) : (insD acc x).Perm (acc ++ [x]) := by
  unfold insD
  refine (List.perm_middle).trans ?_
  rw [List.take_append_drop]
  exact (List.perm_append_singleton x acc).symm
theorem insD_len (acc : List Row3) (x : Row3) : (insD acc x).length = acc.length + 1 := by rw [(insD_perm acc x).length_eq]; simp
theorem sortD_snoc (l : List Row3) (x : Row3) : sortD (l ++ [x]) = insD (sortD l) x := by simp [sortD]
theorem sortD_len (l : List Row3) : (sortD l).length = l.length := by
  suffices ∀ (m : List Row3), (m.foldl insD []).length = m.length from this l
  intro m
  have : ∀ (m acc : List Row3), (m.foldl insD acc).length = acc.length + m.length := by
    intro m
    induction m with
    | nil => intro acc; simp
    | cons x m ih => intro acc; rw [List.foldl_cons, ih, insD_len, List.length_cons]; omega
  simpa using this m []

theorem swap_aux (a : List Row3) (x y : Row3) (d : List Row3) : ((a ++ y :: x :: d).set (a.length + 1) y).set a.length x = a ++ x :: y :: d := by
  induction a with
  | nil => rfl
  | cons z a ih => simp only [List.cons_append, List.length_cons, List.set_cons_succ, ih]
theorem swap_at {acc rest : List Row3} {x y : Row3} (m : Nat) (hm : m < acc.length) (hy : acc[m] = y) : ((acc.take (m + 1) ++ x :: acc.drop (m + 1) ++ rest).set (m + 1) y).set m x = acc.take m ++ x :: acc.drop m ++ rest := by
  have h1 : acc.drop m = y :: acc.drop (m + 1) := by rw [← hy, List.getElem_cons_drop]
  have h2 : (acc.take m).length = m := by rw [List.length_take]; omega
  have := swap_aux (acc.take m) x y (acc.drop (m + 1) ++ rest)
  rw [h2] at this
  rw [take_snoc' hm, hy, h1]
  simpa using this
set_option maxRecDepth 100000 in
theorem undoCmp_calls (x y : Row3) (w : World) (r : Int) (hr : Hid (r = cmpI y.2.2 x.2.2)) :
    Calls Try.prog 44 #[.agg #[.int .i64 x.1, .int .i64 x.2.1, .int .i64 x.2.2], .agg #[.int .i64 y.1, .int .i64 y.2.1, .int .i64 y.2.2]] w fun e w' => e = .returned (.int .i64 r) ∧ Chg NoB w w' := by
  have h1 : (w.alloc (.cells #[.int .i64 x.1, .int .i64 x.2.1, .int .i64 x.2.2] 104)).cell? ⟨w.heap.size, 2, none⟩ = some (.int .i64 x.2.2) := by rw [cell_blk (blk_new _ _)]; rfl
  go_enter Try.func44, Try.ntmps44
  go_wp2_with (go_at_call 40; refine (cmp_calls _ _ _ _ hr).mono ?_; rintro e w' ⟨rfl, rfl⟩)
  go_ret
  exact ⟨rfl, ((Chg.refl _ _).alloc _).alloc _⟩

set_option maxRecDepth 100000 in
theorem ins_calls (g c : Nat) (D : List Row3) (post : List Value) (t : TypeId) (w : World) (hg : w.heap[g]? = some (.cells (rwC D ++ post).toArray t (0, 0))) (hl : D.length ≤ 1000000) (n : Nat) (hn : n = D.length) :
    Calls Try.prog 72 #[.slice (some ⟨g, 0, none⟩) n c, .int .i64 0, .int .i64 n, .func (.func 44) #[] #[]] w fun e w' => e = .returned (.tuple #[]) ∧ Hid (w'.heap[g]? = some (.cells (rwC (sortD D) ++ post).toArray t (0, 0))) ∧ Hid (Chg (OneB g) w w') := by
  have HG := hid hg
  have HN := hid hn
  have hn1 : n ≤ D.length := by omega
  have hn2 : D.length ≤ n := by omega
  clear hg hn
  go_enter Try.func72, Try.ntmps72
  go_upto_region 1 with fail
  go_loopw [8] (fun i wr => ∃ k : Nat, k ≤ n + 1 ∧ i = .int .i64 k ∧ 1 ≤ k ∧ Hid (wr.heap[g]? = some (.cells (rwC (sortD (D.take k) ++ D.drop k) ++ post).toArray t (0, 0)) ∧ Chg (OneB g) w wr)) (fun i _ => n + 1 - (intOf i).toNat)
  case atStart =>
    refine ⟨1, by omega, rfl, by omega, hid ⟨?_, Chg.refl _ _⟩⟩
    rw [HG.out]
    cases D with
    | nil => rfl
    | cons x D => rfl
  case round =>
    obtain ⟨k, hk, rfl, hk1, hI⟩ := hrel
    by_cases hlt : k < n
    · obtain ⟨x, hx⟩ := named (D[k]'(by omega))
      obtain ⟨acc, hacc⟩ := named (sortD (D.take k))
      have hal : acc.length = k := by rw [hacc.out, sortD_len, List.length_take]; omega
      have HAL := hid hal
      have hst : sortD (D.take (k + 1)) = insD acc x := by rw [take_snoc' (show k < D.length by omega), sortD_snoc, ← hacc.out, ← hx.out]
      have hdr : D.drop k = x :: D.drop (k + 1) := by rw [hx.out, List.getElem_cons_drop]
      obtain ⟨rest, hrest⟩ := named (D.drop (k + 1))
      have hrl : rest.length = n - (k + 1) := by rw [hrest.out, List.length_drop, HN.out]
      have hb := hI.out.1
      rw [← hacc.out, hdr, ← hrest.out] at hb
      have HB := hid hb
      have HST := hid hst
      have HRL := hid hrl
      have hC := hid hI.out.2
      clear hb hst hdr hI hal hrl
      rename World => wq
      go_upto_region 4 with fail
      go_loopw [9] (fun j wr => ∃ m : Nat, m ≤ k ∧ j = .int .i64 m ∧ Hid (insPos acc x k = insPos acc x m ∧ wr.heap[g]? = some (.cells (rwC (acc.take m ++ x :: acc.drop m ++ rest) ++ post).toArray t (0, 0)) ∧ Chg (OneB g) wq wr)) (fun j _ => (intOf j).toNat)
      case atStart =>
        refine ⟨k, by omega, rfl, hid ⟨rfl, ?_, Chg.refl _ _⟩⟩
        rw [HB.out, List.take_of_length_le (by rw [HAL.out]; omega), List.drop_eq_nil_of_le (by rw [HAL.out]; omega)]
        simp
      case round =>
        obtain ⟨m, hm, rfl, hJ⟩ := hrel
        have hOut : ∀ m, insPos acc x k = m → acc.take m ++ x :: acc.drop m ++ rest = sortD (D.take (k + 1)) ++ D.drop (k + 1) := by
          intro m hm
          rw [HST.out, ← hrest.out]
          unfold insD
          rw [HAL.out, hm]
        have HOUT := hid hOut
        clear hOut
        cases m with
        | zero =>
          have hO := HOUT.out 0 hJ.out.1
          go_wp2_with fail
          go_quiet (fail)
          go_wp2_with fail
          go_roundw
          case rel => exact ⟨k + 1, by omega, by go_num, by omega, hid ⟨by rw [← hO]; exact hJ.out.2.1, hC.out.trans' (hJ.out.2.2.drewN _)⟩⟩
          case measure => simp [intOf] <;> omega
        | succ m =>
          have hml : m < acc.length := by rw [HAL.out]; omega
          obtain ⟨y, hy⟩ := named acc[m]
          have hL : Hid (∃ LL, LL = acc.take (m + 1) ++ x :: acc.drop (m + 1) ++ rest ∧ LL[m + 1]? = some x ∧ LL[m]? = some y ∧ (LL.set (m + 1) y).set m x = acc.take m ++ x :: acc.drop m ++ rest) := by
            refine hid ⟨_, rfl, ?_, ?_, ?_⟩
            · rw [List.append_assoc, List.getElem?_append_right (by simp; omega)]
              simp [Nat.min_eq_left (show m + 1 ≤ acc.length by omega)]
            · rw [List.append_assoc, List.getElem?_append_left (by simp; omega), List.getElem?_take_of_lt (by omega), List.getElem?_eq_getElem hml, hy.out]
            · exact swap_at m hml hy.out.symm
          obtain ⟨LL, hLL, h1, h2, h3⟩ := hL.out
          have hbj := hJ.out.2.1
          rw [← hLL] at hbj
          obtain ⟨r, hr⟩ := named (cmpI y.2.2 x.2.2)
          obtain ⟨x0, x1, x2⟩ := rwC_get hbj (m + 1) x h1
          obtain ⟨y0, y1, y2⟩ := rwC_get hbj m y h2
          have hmn : (m : Int) + 1 < (n : Int) := by omega
          have hmn0 : (m : Int) < (n : Int) := by omega
          have hm0 : (0 : Int) ≤ (m : Int) + 1 := by omega
          have hm1 : (m : Int) + 1 - 1 = (m : Int) := by omega
          have hwm : IntKind.i64.wrap (m : Int) = (m : Int) := wrap_small (by omega) (by omega)
          clear hL
          have hg1 : (m : Int) + 1 > 0 := by omega
          by_cases hc : y.2.2 < x.2.2
          · have hr1 : r = -1 := by rw [hr.out]; unfold cmpI; rw [if_pos hc]
            subst hr1
            go_upto_region 4 with fail
            refine wp_region_ord 17 (.rd 0 (.rd 1 (.rd 2 (.rd 3 (.rd 4 (.rd 5 (.rd 6 (.rd 7 (.rd 8 (.rd 9 (.rd 10 (.rd 11 (.rd 12 (.rd 13 (.one 14 (.rd 15 (.rd 16 (.done)))))))))))))))))) (Same wr) (by kernel_rfl) (by kernel_rfl) (by kernel_rfl) (by kernel_rfl) (by kernel_rfl) (fun _ _ d _ _ h => by cases d <;> exact h) (Same.of (Chg.refl _ _).drew) (fun hS0 => ?_)
            refine wpOrd_rd rfl rfl (by first | decide | simp) (by assumption) (fun w' hw' K hK => by ((try unfold Same at hw'); (try go_split_ands); go_simp; exact hK)) ?_
            refine wpOrd_rd rfl rfl (by first | decide | simp) (by assumption) (fun w' hw' K hK => by ((try unfold Same at hw'); (try go_split_ands); go_simp; exact hK)) ?_
            refine wpOrd_rd rfl rfl (by first | decide | simp) (by assumption) (fun w' hw' K hK => by ((try unfold Same at hw'); (try go_split_ands); go_simp; exact hK)) ?_
            refine wpOrd_rd rfl rfl (by first | decide | simp) (by assumption) (fun w' hw' K hK => by ((try unfold Same at hw'); (try go_split_ands); go_simp; exact hK)) ?_
            refine wpOrd_rd rfl rfl (by first | decide | simp) (by assumption) (fun w' hw' K hK => by ((try unfold Same at hw'); (try go_split_ands); go_simp; exact hK)) ?_
            refine wpOrd_rd rfl rfl (by first | decide | simp) (by assumption) (fun w' hw' K hK => by ((try unfold Same at hw'); (try go_split_ands); go_simp; exact hK)) ?_
            refine wpOrd_rd rfl rfl (by first | decide | simp) (by assumption) (fun w' hw' K hK => by ((try unfold Same at hw'); (try go_split_ands); go_simp; exact hK)) ?_
            refine wpOrd_rd rfl rfl (by first | decide | simp) (by assumption) (fun w' hw' K hK => by ((try unfold Same at hw'); (try go_split_ands); go_simp; exact hK)) ?_
            refine wpOrd_rd rfl rfl (by first | decide | simp) (by assumption) (fun w' hw' K hK => by ((try unfold Same at hw'); (try go_split_ands); go_simp; exact hK)) ?_
            refine wpOrd_rd rfl rfl (by first | decide | simp) (by assumption) (fun w' hw' K hK => by ((try unfold Same at hw'); (try go_split_ands); go_simp; exact hK)) ?_
            refine wpOrd_rd rfl rfl (by first | decide | simp) (by assumption) (fun w' hw' K hK => by ((try unfold Same at hw'); (try go_split_ands); go_simp; exact hK)) ?_
            refine wpOrd_rd rfl rfl (by first | decide | simp) (by assumption) (fun w' hw' K hK => by ((try unfold Same at hw'); (try go_split_ands); go_simp; exact hK)) ?_
            refine wpOrd_rd rfl rfl (by first | decide | simp) (by assumption) (fun w' hw' K hK => by ((try unfold Same at hw'); (try go_split_ands); go_simp; exact hK)) ?_
            refine wpOrd_rd rfl rfl (by first | decide | simp) (by assumption) (fun w' hw' K hK => by ((try unfold Same at hw'); (try go_split_ands); go_simp; exact hK)) ?_
            refine wpOrd_do rfl ?_
            (first | refine wpList_plain rfl (fun K hK => ?_) | refine wpList_step (fun K hK => ?_))
            go_simp
            ((with_reducible refine (undoCmp_calls x y _ (-1) hr).mono ?_); rintro e w2 ⟨rfl, hc2⟩)
            refine hK _ _ ?_
            clear hK K
            (try dsimp only [Act.put])
            refine wpOrd_done (Same.of ((Chg.refl NoB wr).drew.trans' hc2)) (fun hS1 => ?_)
            refine wpOrd_rd rfl rfl (by first | decide | simp) (by assumption) (fun w' hw' K hK => by ((try unfold Same at hw'); (try go_split_ands); go_simp; exact hK)) ?_
            refine wpOrd_rd rfl rfl (by first | decide | simp) (by assumption) (fun w' hw' K hK => by ((try unfold Same at hw'); (try go_split_ands); go_simp; exact hK)) ?_
            refine wpOrd_nil ?_
            have hb2 : w2.heap[g]? = some (.cells (rwC LL ++ post).toArray t (0, 0)) := ((Chg.refl NoB wr).drew.trans' hc2).heap hbj nob
            have HC2 := hid (hJ.out.2.2.trans' (((Chg.refl NoB wr).drew.trans' hc2).mono fun _ e => e.elim))
            clear x0 x1 x2 y0 y1 y2 hc2 hbj
            obtain ⟨x0, x1, x2⟩ := rwC_get hb2 (m + 1) x h1
            obtain ⟨y0, y1, y2⟩ := rwC_get hb2 m y h2
            have HB2 := hid hb2
            clear hb2
            go_upto_region 6 with fail
            have hst1 : Hid ((rwC LL ++ post).length = LL.length * 3 + post.length) := hid (by rw [List.length_append, rwC_len])
            have hst2 : Hid ((rwC (LL.set (m + 1) y) ++ post).length = LL.length * 3 + post.length) := hid (by rw [List.length_append, rwC_len, List.length_set])
            have hm2 : m + 1 < LL.length := (List.getElem?_eq_some_iff.1 h1).1
            refine wp_region_ord2 17 15 (.rd 0 (.rd 1 (.rf 2 (.rf 3 (.rf 4 (.rd 5 (.rd 6 (.rd 7 (.rd 8 (.rd 9 (.rd 10 (.rd 11 (.rd 12 (.rd 13 (.rd 14 (.one false 15 (.rf 16 (.one false 17 (.done))))))))))))))))))) (Same w2) (by kernel_rfl) (by kernel_rfl) (by kernel_rfl) (by kernel_rfl) (by kernel_rfl) (fun _ _ d _ _ h => by cases d <;> exact h) (Same.of (Chg.refl _ _).drew) (fun hS0 => ?_)
            refine wpOrd2_rd rfl rfl (by first | decide | simp) (by assumption) (fun w' hw' K hK => by ((try unfold Same at hw'); (try go_split_ands); go_simp; exact hK)) ?_
            refine wpOrd2_rd rfl rfl (by first | decide | simp) (by assumption) (fun w' hw' K hK => by ((try unfold Same at hw'); (try go_split_ands); go_simp; exact hK)) ?_
            refine wpOrd2_rf rfl rfl (by first | decide | simp) (fun w' hw' K hK => by (go_simp; exact hK)) ?_
            refine wpOrd2_rf rfl rfl (by first | decide | simp) (fun w' hw' K hK => by (go_simp; exact hK)) ?_
            refine wpOrd2_rf rfl rfl (by first | decide | simp) (fun w' hw' K hK => by (go_simp; exact hK)) ?_
            refine wpOrd2_rd rfl rfl (by first | decide | simp) (by assumption) (fun w' hw' K hK => by ((try unfold Same at hw'); (try go_split_ands); go_simp; exact hK)) ?_
            refine wpOrd2_rd rfl rfl (by first | decide | simp) (by assumption) (fun w' hw' K hK => by ((try unfold Same at hw'); (try go_split_ands); go_simp; exact hK)) ?_
            refine wpOrd2_rd rfl rfl (by first | decide | simp) (by assumption) (fun w' hw' K hK => by ((try unfold Same at hw'); (try go_split_ands); go_simp; exact hK)) ?_
            refine wpOrd2_rd rfl rfl (by first | decide | simp) (by assumption) (fun w' hw' K hK => by ((try unfold Same at hw'); (try go_split_ands); go_simp; exact hK)) ?_
            refine wpOrd2_rd rfl rfl (by first | decide | simp) (by assumption) (fun w' hw' K hK => by ((try unfold Same at hw'); (try go_split_ands); go_simp; exact hK)) ?_
            refine wpOrd2_rd rfl rfl (by first | decide | simp) (by assumption) (fun w' hw' K hK => by ((try unfold Same at hw'); (try go_split_ands); go_simp; exact hK)) ?_
            refine wpOrd2_rd rfl rfl (by first | decide | simp) (by assumption) (fun w' hw' K hK => by ((try unfold Same at hw'); (try go_split_ands); go_simp; exact hK)) ?_
            refine wpOrd2_rd rfl rfl (by first | decide | simp) (by assumption) (fun w' hw' K hK => by ((try unfold Same at hw'); (try go_split_ands); go_simp; exact hK)) ?_
            refine wpOrd2_rd rfl rfl (by first | decide | simp) (by assumption) (fun w' hw' K hK => by ((try unfold Same at hw'); (try go_split_ands); go_simp; exact hK)) ?_
            refine wpOrd2_rd rfl rfl (by first | decide | simp) (by assumption) (fun w' hw' K hK => by ((try unfold Same at hw'); (try go_split_ands); go_simp; exact hK)) ?_
            refine wpOrd2_do rfl ?_
            refine step_storeAt rfl rfl g ((m + 1) * 3) (cells := encTx y) rfl rfl (show (World.drew w2).heap[g]? = _ from HB2.out) (by kernel_rfl) (by rw [hst1.out]; simp [encTx]; omega) (by simp [encTx, Value.oneCell']) ?_; intro w3 hb3 hc3 hs3; have hb3' : w3.heap[g]? = some (.cells (rwC (LL.set (m + 1) y) ++ post).toArray t (0, 0)) := (by rw [hb3]; congr 2; exact congrArg _ (rwC_set LL (m + 1) y hm2 post))
            (try dsimp only [Act.put])
            refine wpOrd2_go ?_
            refine wpOrd2_rf rfl rfl (by first | decide | simp) (fun w' hw' K hK => by (go_simp; exact hK)) ?_
            refine wpOrd2_do rfl ?_
            refine step_storeAt rfl rfl g (m * 3) (cells := encTx x) rfl rfl hb3' (by kernel_rfl) (by rw [hst2.out]; simp [encTx]; omega) (by simp [encTx, Value.oneCell']) ?_; intro w4 hb4 hc4 hs4
            (try dsimp only [Act.put])
            refine wpOrd2_go ?_
            refine wpOrd2_nil ?_
            have hb4' : w4.heap[g]? = some (.cells (rwC ((LL.set (m + 1) y).set m x) ++ post).toArray t (0, 0)) := by rw [hb4]; congr 2; exact congrArg _ (rwC_set (LL.set (m + 1) y) m x (by rw [List.length_set]; omega) post)
            rw [h3] at hb4'
            have HB4 := hid hb4'
            have HC4 := hid ((HC2.out.drew.trans' hc3).trans' hc4)
            clear hb4 hb4' hc3 hc4 hb3 hb3' hs3 hs4
            go_wp2_with fail
            go_roundw
            case rel =>
              refine ⟨m, by omega, by go_num, hid ⟨?_, HB4.out, HC4.out⟩⟩
              rw [hJ.out.1]
              unfold insPos
              rw [List.getD_eq_getElem?_getD, List.getElem?_eq_getElem hml, Option.getD_some, ← hy.out, if_pos hc]
              cases m <;> rfl
            case measure => simp [intOf] <;> omega
          · have hr1 : ¬ r < 0 := by rw [hr.out]; unfold cmpI; rw [if_neg hc]; split <;> omega
            have hO := HOUT.out (m + 1) (by
              rw [hJ.out.1]
              unfold insPos
              rw [List.getD_eq_getElem?_getD, List.getElem?_eq_getElem hml, Option.getD_some, ← hy.out, if_neg hc])
            go_upto_region 4 with fail
            refine wp_region_ord 17 (.rd 0 (.rd 1 (.rd 2 (.rd 3 (.rd 4 (.rd 5 (.rd 6 (.rd 7 (.rd 8 (.rd 9 (.rd 10 (.rd 11 (.rd 12 (.rd 13 (.one 14 (.rd 15 (.rd 16 (.done)))))))))))))))))) (Same wr) (by kernel_rfl) (by kernel_rfl) (by kernel_rfl) (by kernel_rfl) (by kernel_rfl) (fun _ _ d _ _ h => by cases d <;> exact h) (Same.of (Chg.refl _ _).drew) (fun hS0 => ?_)
            refine wpOrd_rd rfl rfl (by first | decide | simp) (by assumption) (fun w' hw' K hK => by ((try unfold Same at hw'); (try go_split_ands); go_simp; exact hK)) ?_
            refine wpOrd_rd rfl rfl (by first | decide | simp) (by assumption) (fun w' hw' K hK => by ((try unfold Same at hw'); (try go_split_ands); go_simp; exact hK)) ?_
            refine wpOrd_rd rfl rfl (by first | decide | simp) (by assumption) (fun w' hw' K hK => by ((try unfold Same at hw'); (try go_split_ands); go_simp; exact hK)) ?_
            refine wpOrd_rd rfl rfl (by first | decide | simp) (by assumption) (fun w' hw' K hK => by ((try unfold Same at hw'); (try go_split_ands); go_simp; exact hK)) ?_
            refine wpOrd_rd rfl rfl (by first | decide | simp) (by assumption) (fun w' hw' K hK => by ((try unfold Same at hw'); (try go_split_ands); go_simp; exact hK)) ?_
            refine wpOrd_rd rfl rfl (by first | decide | simp) (by assumption) (fun w' hw' K hK => by ((try unfold Same at hw'); (try go_split_ands); go_simp; exact hK)) ?_
            refine wpOrd_rd rfl rfl (by first | decide | simp) (by assumption) (fun w' hw' K hK => by ((try unfold Same at hw'); (try go_split_ands); go_simp; exact hK)) ?_
            refine wpOrd_rd rfl rfl (by first | decide | simp) (by assumption) (fun w' hw' K hK => by ((try unfold Same at hw'); (try go_split_ands); go_simp; exact hK)) ?_
            refine wpOrd_rd rfl rfl (by first | decide | simp) (by assumption) (fun w' hw' K hK => by ((try unfold Same at hw'); (try go_split_ands); go_simp; exact hK)) ?_
            refine wpOrd_rd rfl rfl (by first | decide | simp) (by assumption) (fun w' hw' K hK => by ((try unfold Same at hw'); (try go_split_ands); go_simp; exact hK)) ?_
            refine wpOrd_rd rfl rfl (by first | decide | simp) (by assumption) (fun w' hw' K hK => by ((try unfold Same at hw'); (try go_split_ands); go_simp; exact hK)) ?_
            refine wpOrd_rd rfl rfl (by first | decide | simp) (by assumption) (fun w' hw' K hK => by ((try unfold Same at hw'); (try go_split_ands); go_simp; exact hK)) ?_
            refine wpOrd_rd rfl rfl (by first | decide | simp) (by assumption) (fun w' hw' K hK => by ((try unfold Same at hw'); (try go_split_ands); go_simp; exact hK)) ?_
            refine wpOrd_rd rfl rfl (by first | decide | simp) (by assumption) (fun w' hw' K hK => by ((try unfold Same at hw'); (try go_split_ands); go_simp; exact hK)) ?_
            refine wpOrd_do rfl ?_
            (first | refine wpList_plain rfl (fun K hK => ?_) | refine wpList_step (fun K hK => ?_))
            go_simp
            ((with_reducible refine (undoCmp_calls x y _ r hr).mono ?_); rintro e w2 ⟨rfl, hc2⟩)
            refine hK _ _ ?_
            clear hK K
            (try dsimp only [Act.put])
            refine wpOrd_done (Same.of ((Chg.refl NoB wr).drew.trans' hc2)) (fun hS1 => ?_)
            refine wpOrd_rd rfl rfl (by first | decide | simp) (by assumption) (fun w' hw' K hK => by ((try unfold Same at hw'); (try go_split_ands); go_simp; exact hK)) ?_
            refine wpOrd_rd rfl rfl (by first | decide | simp) (by assumption) (fun w' hw' K hK => by ((try unfold Same at hw'); (try go_split_ands); go_simp; exact hK)) ?_
            refine wpOrd_nil ?_
            have HC2 := hid (hJ.out.2.2.trans' (((Chg.refl NoB wr).drew.trans' hc2).mono fun _ e => e.elim))
            have hb2 : w2.heap[g]? = some (.cells (rwC LL ++ post).toArray t (0, 0)) := ((Chg.refl NoB wr).drew.trans' hc2).heap hbj nob
            rw [hLL, hO] at hb2
            have HB2 := hid hb2
            clear hb2 hbj hc2 x0 x1 x2 y0 y1 y2
            go_wp2_with fail
            go_roundw
            case rel => exact ⟨k + 1, by omega, by go_num, by omega, hid ⟨HB2.out, hC.out.trans' HC2.out⟩⟩
            case measure => simp [intOf] <;> omega
    · have hO : D.length ≤ k := by rw [← HN.out]; omega
      go_wp2_with fail
      go_end0
      refine ⟨rfl, hid ?_, hid hI.out.2⟩
      have := hI.out.1
      rwa [List.take_of_length_le hO, List.drop_eq_nil_of_le hO, List.append_nil] at this
end Go.Proofs.Ytghklbflbodajaa

namespace Go.Proofs.Ytghklbflbodajaa
open Go.RowKit Go.ChangeMaps Go.MapKept
set_option linter.unusedVariables false
set_option linter.unusedSimpArgs false
set_option linter.unnecessarySimpa false
set_option maxHeartbeats 8000000

set_option maxRecDepth 100000 in
theorem stable_small (g c : Nat) (D : List Row3) (post : List Value) (t : TypeId) (w : World) (hg : w.heap[g]? = some (.cells (rwC D ++ post).toArray t (0, 0))) (n : Nat) (hn : n = D.length) (h20 : n < 20) :
    Calls Try.prog 59 #[.slice (some ⟨g, 0, none⟩) n c, .int .i64 n, .func (.func 44) #[] #[]] w fun e w' => e = .returned (.tuple #[]) ∧ Hid (w'.heap[g]? = some (.cells (rwC (sortD D) ++ post).toArray t (0, 0))) ∧ Hid (Chg (OneB g) w w') := by
  have hl : D.length ≤ 1000000 := by omega
  have HN := hid hn
  have HG := hid hg
  clear hg hn
  have hn1 : ¬ (20 : Int) ≤ (n : Int) := by omega
  have hn2 : ¬ (20 : Int) < (n : Int) := by omega
  go_enter Try.func59, Try.ntmps59
  go_upto_region 2 with fail
  go_loopw [7, 8] (fun a b wr => a = .int .i64 0 ∧ b = .int .i64 20 ∧ wr = w) (fun _ _ _ => 0)
  case atStart => exact ⟨rfl, rfl, rfl⟩
  case round =>
    obtain ⟨rfl, rfl, rfl⟩ := hrel
    go_upto_region 7 with (go_at_call 72; refine (ins_calls g c D post t _ HG.out hl n HN.out).mono ?_; rintro e w2 ⟨rfl, hb2, hc2⟩)
    go_loopw [6] (fun a wr => a = .int .i64 20 ∧ wr = w2) (fun _ _ => 0)
    case atStart => exact ⟨rfl, rfl⟩
    case round =>
      obtain ⟨rfl, rfl⟩ := hrel
      go_wp2_with fail
      go_end0
      exact ⟨rfl, hb2, hc2⟩
set_option maxRecDepth 100000 in
theorem sortS_small (g c : Nat) (D : List Row3) (post : List Value) (t : TypeId) (w : World) (hg : w.heap[g]? = some (.cells (rwC D ++ post).toArray t (0, 0))) (n : Nat) (hn : n = D.length) (h20 : n < 20) :
    Calls Try.prog 43 #[.slice (some ⟨g, 0, none⟩) n c, .func (.func 44) #[] #[]] w fun e w' => e = .returned (.tuple #[]) ∧ Hid (w'.heap[g]? = some (.cells (rwC (sortD D) ++ post).toArray t (0, 0))) ∧ Hid (Chg (OneB g) w w') := by
  have hc := stable_small g c D post t w hg n hn h20
  clear hg hn
  go_enter Try.func43, Try.ntmps43
  go_wp2_with (go_at_call 59; refine hc.mono ?_; rintro e w2 ⟨rfl, hb2, hc2⟩)
  go_end0
  exact ⟨rfl, hb2, hc2⟩

set_option maxRecDepth 100000 in
theorem ins_empty (ao : Option Addr) (c : Nat) (w : World) :
    Calls Try.prog 72 #[.slice ao 0 c, .int .i64 0, .int .i64 0, .func (.func 44) #[] #[]] w fun e w' => e = .returned (.tuple #[]) ∧ Hid (Chg NoB w w') := by
  go_enter Try.func72, Try.ntmps72
  go_upto_region 1 with fail
  go_loopw [8] (fun i wr => i = .int .i64 1 ∧ wr = w) (fun i _ => 0)
  case atStart => exact ⟨rfl, rfl⟩
  case round =>
    obtain ⟨rfl, rfl⟩ := hrel
    go_wp2_with fail
    go_end0
    exact ⟨rfl, hid (Chg.refl _ _)⟩
set_option maxRecDepth 100000 in
theorem sortS_empty (ao : Option Addr) (c : Nat) (w : World) :
    Calls Try.prog 43 #[.slice ao 0 c, .func (.func 44) #[] #[]] w fun e w' => e = .returned (.tuple #[]) ∧ Hid (Chg NoB w w') := by
  have h1 : Calls Try.prog 59 #[.slice ao 0 c, .int .i64 0, .func (.func 44) #[] #[]] w fun e w' => e = .returned (.tuple #[]) ∧ Hid (Chg NoB w w') := by
    go_enter Try.func59, Try.ntmps59
    go_upto_region 2 with fail
    go_loopw [7, 8] (fun a b wr => a = .int .i64 0 ∧ b = .int .i64 20 ∧ wr = w) (fun _ _ _ => 0)
    case atStart => exact ⟨rfl, rfl, rfl⟩
    case round =>
      obtain ⟨rfl, rfl, rfl⟩ := hrel
      go_upto_region 7 with (go_at_call 72; refine (ins_empty ao c _).mono ?_; rintro e w2 ⟨rfl, hc2⟩)
      go_loopw [6] (fun a wr => a = .int .i64 20 ∧ wr = w2) (fun _ _ => 0)
      case atStart => exact ⟨rfl, rfl⟩
      case round =>
        obtain ⟨rfl, rfl⟩ := hrel
        go_wp2_with fail
        go_end0
        exact ⟨rfl, hc2⟩
  go_enter Try.func43, Try.ntmps43
  go_wp2_with (go_at_call 59; refine h1.mono ?_; rintro e w2 ⟨rfl, hc2⟩)
  go_end0
  exact ⟨rfl, hc2⟩
theorem own_post3 {w : World} {B n size : Nat} {e : TypeId} {v : Value} {xs : List Value} (h : w.ownsRow B e size v n xs) (hn : 0 < n) :
    ∃ g cap post, v = .slice (some ⟨g, 0, none⟩) n cap ∧ B ≤ g ∧ w.heap[g]? = some (.cells (xs ++ post).toArray e (0, 0)) ∧ n ≤ cap ∧ ∀ (w' : World) (ys : List Value), ys.length = xs.length → w'.heap[g]? = some (.cells (ys ++ post).toArray e (0, 0)) → w'.ownsRow B e size v n ys := by
  obtain ⟨hl, h2⟩ := h
  rcases h2 with ⟨rfl, h0⟩ | ⟨g, cap, cur, rfl, hb, hg, hn1, hm, hs, ht⟩
  · omega
  · refine ⟨g, cap, cur.toList.drop (n * size), rfl, hb, ?_, hn1, fun w' ys hy hg' => ⟨by omega, .inr ⟨g, cap, _, rfl, hb, hg', hn1, hm, ?_, ?_⟩⟩⟩
    · rw [hg, ← ht, List.take_append_drop]
    · have h3 := congrArg List.length ht
      rw [List.length_take] at h3
      simp only [List.size_toArray, List.length_append, List.length_drop]
      simp at h3 ⊢
      omega
    · rw [List.toList_toArray, List.take_left' (by omega)]
theorem sortS_own {base : Nat} {v : Value} {D : List Row3} {w : World} (h : w.ownsRow base 104 3 v D.length (rwC D)) (h20 : D.length < 20) :
    Calls Try.prog 43 #[v, .func (.func 44) #[] #[]] w fun e w' => e = .returned (.tuple #[]) ∧ Hid (w'.ownsRow base 104 3 v D.length (rwC (sortD D))) ∧ Hid (Chg (OwnB v) w w') := by
  by_cases hn : 0 < D.length
  · obtain ⟨g, cap, post, rfl, hb, hg, hc, hback⟩ := own_post3 h hn
    refine (sortS_small g cap D post _ w hg D.length rfl h20).mono fun e w' ⟨h1, h2, h3⟩ => ⟨h1, hid (hback w' _ (by rw [rwC_len, rwC_len, sortD_len]) h2.out), hid (h3.out.mono fun i hi => .inl (by have h' : i = g := hi; rw [h']; simp [OwnB, Value.ownBlock]))⟩
  · have h0 : D = [] := List.eq_nil_of_length_eq_zero (by omega)
    subst h0
    obtain ⟨ao, c, rfl⟩ := ownsForm h
    exact (sortS_empty ao c w).mono fun e w' ⟨h1, h2⟩ => ⟨h1, hid (ownsRow.chg h h2.out fun _ _ => nob), hid (h2.out.mono fun _ e => e.elim)⟩
end Go.Proofs.Ytghklbflbodajaa
