import Derived.Test.YtmikbjlgcndmeaaTr3
namespace Go.Proofs.Ytmikbjlgcndmeaa
open Go.RowKit Go.ChangeMaps Go.MapKept
attribute [local go_sem] Go.Oper.rdK
set_option linter.unusedVariables false
set_option linter.unusedSimpArgs false
set_option linter.unnecessarySimpa false
set_option maxHeartbeats 8000000

set_option maxRecDepth 100000 in
theorem rRow_calls (w0 : Rsv) (w : World) (p : Nat) (L : TTab) (n : Int) (h : RT w0 w p L) (x y z left er : Int) (hres : Hid (((x, y, z), left, er) = tRow L n)) :
    Calls Try.prog 23 #[.pointer (some ⟨p, 0, none⟩), .int .i64 n] w fun e w' => e = .returned (.tuple #[.agg #[.int .i64 x, .int .i64 y, .int .i64 z], .int .i64 left, .int .i64 er]) ∧ Hid (RT w0 w' p L) ∧ Hid (Chg NoB w w') := by
  obtain ⟨lv, xs, rfl, h⟩ := h
  obtain ⟨ix, hix⟩ := named (rIdx (xs.map (·.1)) n)
  have HH := hid h
  have HA := hid (h.keep ((Chg.refl NoB w).alloc (.cells #[.int .i64 0, .int .i64 0, .int .i64 0] 49)))
  have hr := hres.out
  unfold tRow at hr
  rcases rIdx_cases (xs.map (·.1)) n with ⟨h1, h2⟩ | ⟨i, s, h1, h2, h3, h4⟩
  · rw [h2] at hr
    cases hr
    have hix2 : ix = -1 := by rw [hix.out, h1]
    clear h h1 h2 hres
    subst hix2
    go_enter Try.func23, Try.ntmps23
    go_wp2_with (first
      | (go_at_call 30; refine (rFind_calls w0 _ p lv xs n HA.out _ hix).mono ?_; rintro e w1 ⟨rfl, hc1⟩)
      | ((fail_if_success (fail_if_success (with_reducible change wpList _ _ _ (Oper.mk _ (.store 49 _ _) _ _ _ _ :: _) _ _))); refine step_storeRow rfl rfl w.heap.size rfl rfl (hc1.heap (blk_new _ _) nob) (by kernel_rfl) rfl (by simp [Value.oneCell']) ?_; intro w2 hb2 hc2 hs2))
    refine bodyPost_ret (res_row3 Try.underlying49 rfl _ _ w.heap.size rfl hb2 (by kernel_rfl)) rfl ?_
    have HC : Chg NoB w w2 := (((Chg.refl NoB w).alloc _).trans' hc1).new hc2 (fun k hk => by have h' : k = w.heap.size := hk; omega)
    exact ⟨rfl, hid ⟨lv, xs, rfl, HH.out.keep HC⟩, hid HC⟩
  · rw [h4] at hr
    rw [h1] at hix
    have hixe := hix.out
    subst hixe
    rw [List.getElem?_map] at h2
    obtain ⟨⟨s', mv⟩, hx, rfl⟩ := Option.map_eq_some_iff.1 h2
    obtain ⟨g, cap, rfl, hcap, c0, c1, c2, c3, c4⟩ := HA.out.cells hx
    have hil := (List.getElem?_eq_some_iff.1 hx).1
    have HP := hid HA.out.cell
    have hi0 : (0 : Int) ≤ (i : Int) := by omega
    have hi1 : (i : Int) < (xs.length : Int) := by omega
    have hin : ¬ (i : Int) < 0 := by omega
    have HIX : Hid ((i : Int) = rIdx (xs.map (·.1)) n) := hid h1.symm
    simp only at hr
    cases hr
    clear c4 h h1 h2 h3 h4 hx hres hix
    go_enter Try.func23, Try.ntmps23
    go_upto_region 4 with (go_at_call 30; refine (rFind_calls w0 _ p _ xs n HA.out _ HIX).mono ?_; rintro e w1 ⟨rfl, hc1⟩; have c0 := hc1.cell c0 nob; have c1 := hc1.cell c1 nob; have c2 := hc1.cell c2 nob; have c3 := hc1.cell c3 nob; have hp1 := hc1.cell HP.out nob)
    have hpn : p ≠ w.heap.size := by have := lt_of_block HH.out.blk; omega
    have hgn : g ≠ w.heap.size := by have := HH.out.row.lt (k := g) (by simp [OwnB, Value.ownBlock]); omega
    refine wp_region_ord 19 (.rd 0 (.rd 1 (.rd 2 (.rd 3 (.rd 4 (.rd 5 (.rd 6 (.rd 7 (.rd 8 (.rd 9 (.rd 10 (.rd 11 (.rd 12 (.rd 13 (.rd 14 (.rd 15 (.one 16 (.rd 17 (.rd 18 (.done)))))))))))))))))))) (fun w' => w'.cell? ⟨p, 0, none⟩ = some (.slice (some ⟨g, 0, none⟩) xs.length cap) ∧ w'.cell? ⟨g, i * 5, none⟩ = some (.int .i64 s'.txn) ∧ w'.cell? ⟨g, i * 5 + 1, none⟩ = some (.int .i64 s'.first) ∧ w'.cell? ⟨g, i * 5 + 2, none⟩ = some (.int .i64 s'.last) ∧ w'.cell? ⟨g, i * 5 + 3, none⟩ = some (.int .i64 s'.left)) (by kernel_rfl) (by kernel_rfl) (by kernel_rfl) (by kernel_rfl) (by kernel_rfl) (fun _ _ d _ _ h => by cases d <;> exact h) (⟨hp1, c0, c1, c2, c3⟩) (fun hS0 => ?_)
    refine wpOrd_rd rfl rfl (by first | decide | simp) (by assumption) (fun w' hw' K hK => by ((try unfold Same at hw'); (try go_split_ands); go_simp; exact hK)) ?_
    refine wpOrd_rd rfl rfl (by first | decide | simp) (by assumption) (fun w' hw' K hK => by ((try unfold Same at hw'); (try go_split_ands); go_simp; exact hK)) ?_
    refine wpOrd_rd rfl rfl (by first | decide | simp) (by assumption) (fun w' hw' K hK => by ((try unfold Same at hw'); (try go_split_ands); go_simp; exact hK)) ?_
    refine wpOrd_rd rfl rfl (by first | decide | simp) (by assumption) (fun w' hw' K hK => by ((try unfold Same at hw'); (try go_split_ands); go_simp; exact hK)) ?_
    refine wpOrd_rd rfl rfl (by first | decide | simp) (by assumption) (fun w' hw' K hK => by ((try unfold Same at hw'); (try go_split_ands); go_simp; exact hK)) ?_
    refine wpOrd_rd rfl rfl (by first | decide | simp) (by assumption) (fun w' hw' K hK => by ((try unfold Same at hw'); (try go_split_ands); go_simp; exact hK)) ?_
    refine wpOrd_rd rfl rfl (by first | decide | simp) (by assumption) (fun w' hw' K hK => by ((try unfold Same at hw'); (try go_split_ands); go_simp; exact hK)) ?_
    refine wpOrd_rd rfl rfl (by first | decide | simp) (by assumption) (fun w' hw' K hK => by ((try unfold Same at hw'); (try go_split_ands); go_simp; exact hK)) ?_
    refine wpOrd_rd rfl rfl (by first | decide | simp) (by assumption) (fun w' hw' K hK => by ((try unfold Same at hw'); (try go_split_ands); go_simp; exact hK)) ?_
    refine wpOrd_rd rfl rfl (by first | decide | simp) (by assumption) (fun w' hw' K hK => by ((try unfold Same at hw'); (try go_split_ands); go_simp; exact hK)) ?_
    refine wpOrd_rd rfl rfl (by first | decide | simp) (by assumption) (fun w' hw' K hK => by ((try unfold Same at hw'); (try go_split_ands); go_simp; exact hK)) ?_
    refine wpOrd_rd rfl rfl (by first | decide | simp) (by assumption) (fun w' hw' K hK => by ((try unfold Same at hw'); (try go_split_ands); go_simp; exact hK)) ?_
    refine wpOrd_rd rfl rfl (by first | decide | simp) (by assumption) (fun w' hw' K hK => by ((try unfold Same at hw'); (try go_split_ands); go_simp; exact hK)) ?_
    refine wpOrd_rd rfl rfl (by first | decide | simp) (by assumption) (fun w' hw' K hK => by ((try unfold Same at hw'); (try go_split_ands); go_simp; exact hK)) ?_
    refine wpOrd_rd rfl rfl (by first | decide | simp) (by assumption) (fun w' hw' K hK => by ((try unfold Same at hw'); (try go_split_ands); go_simp; exact hK)) ?_
    refine wpOrd_rd rfl rfl (by first | decide | simp) (by assumption) (fun w' hw' K hK => by ((try unfold Same at hw'); (try go_split_ands); go_simp; exact hK)) ?_
    refine wpOrd_do rfl ?_
    refine step_storeRow rfl rfl w.heap.size rfl rfl (hc1.heap (blk_new _ _) nob) (by kernel_rfl) rfl (by simp [Value.oneCell']) ?_; intro w2 hb2 hc2 hs2
    (try dsimp only [Act.put])
    refine wpOrd_done (⟨hc2.cell hp1 (fun e => hpn e), hc2.cell c0 (fun e => hgn e), hc2.cell c1 (fun e => hgn e), hc2.cell c2 (fun e => hgn e), hc2.cell c3 (fun e => hgn e)⟩) (fun hS1 => ?_)
    refine wpOrd_rd rfl rfl (by first | decide | simp) (by assumption) (fun w' hw' K hK => by ((try unfold Same at hw'); (try go_split_ands); go_simp; exact hK)) ?_
    refine wpOrd_rd rfl rfl (by first | decide | simp) (by assumption) (fun w' hw' K hK => by ((try unfold Same at hw'); (try go_split_ands); go_simp; exact hK)) ?_
    refine wpOrd_nil ?_
    go_wp2_with fail
    refine bodyPost_ret (res_row3 Try.underlying49 rfl _ _ w.heap.size rfl hb2 (by kernel_rfl)) rfl ?_
    have HC : Chg NoB w w2 := (((Chg.refl NoB w).alloc (.cells #[.int .i64 0, .int .i64 0, .int .i64 0] 49)).trans' hc1).drew.new hc2 (fun k hk => by have h' : k = w.heap.size := hk; omega)
    exact ⟨rfl, hid ⟨_, xs, rfl, HH.out.keep HC⟩, hid HC⟩

/-- The rows that have a record. -/
def rRows (L : TTab) : List (Int × Int × Int) := (L.filter (fun s => decide (0 < s.last))).map (fun s => (s.txn, s.first, s.last))
theorem rRows_snoc (L : TTab) (s : TxS) : rRows (L ++ [s]) = rRows L ++ (if decide (0 < s.last) then [(s.txn, s.first, s.last)] else []) := by
  unfold rRows
  rw [List.filter_append, List.map_append]
  cases h : decide (0 < s.last) <;> simp [List.filter_cons, h]
theorem rRows_len (L : TTab) : (rRows L).length ≤ L.length := by
  unfold rRows
  rw [List.length_map]
  exact List.length_filter_le _ _
set_option maxRecDepth 100000 in
theorem rTRows_calls (w0 : Rsv) (w : World) (p : Nat) (L : TTab) (h : RT w0 w p L) (R : List (Int × Int × Int)) (hR : Hid (R = rRows L)) :
    Calls Try.prog 26 #[.pointer (some ⟨p, 0, none⟩)] w fun e w' => ∃ a c, e = .returned (.slice a R.length c) ∧ Hid (Rd w' 3 encRow (.slice a R.length c) R) ∧ Hid (RT w0 w' p L) ∧ Hid (Chg NoB w w') := by
  obtain ⟨lv, xs, rfl, h⟩ := h
  have HH := hid h
  have hp := h.cell
  obtain ⟨ao, co, rfl, h1, h2, h3⟩ := h.row.form
  have h4 := h.few
  have HP := hid hp
  clear h hp
  go_enter Try.func26, Try.ntmps26
  go_wp2
  go_loopw [3, 4] (fun o i wr => ∃ k : Nat, k ≤ xs.length ∧ i = .int .i64 k ∧ Hid (Chg NoB w wr) ∧ Hid (wr.ownsRow w.heap.size 49 3 o (rRows ((xs.take k).map (fun x : TxS × Value => x.1))).length ((rRows ((xs.take k).map (fun x : TxS × Value => x.1))).flatMap encRow))) (fun _ i _ => xs.length - (intOf i).toNat)
  case atStart => exact ⟨0, by omega, rfl, Chg.refl _ _, World.ownsRow_nil _ _ _ _⟩
  case round =>
    obtain ⟨k, hk, rfl, hc, hO⟩ := hrel
    obtain ⟨a1, n1, rfl⟩ := ownsForm' hO.out
    have hp := hc.out.cell HP.out nob
    by_cases hlt : k < xs.length
    · obtain ⟨g, cap, e, hcap, c0, c1, c2, c3, c4⟩ := (HH.out.keep hc.out).cells (List.getElem?_eq_getElem hlt)
      cases e
      obtain ⟨x, hx⟩ := named xs[k]
      rw [← hx.out] at c0 c1 c2 c3 c4
      have hk0 : (0 : Int) ≤ (k : Int) := by omega
      have hk1 : (k : Int) < (xs.length : Int) := by omega
      have hsn : Hid (rRows ((xs.take (k + 1)).map (fun x : TxS × Value => x.1)) = rRows ((xs.take k).map (fun x : TxS × Value => x.1)) ++ (if decide (0 < x.1.last) then [(x.1.txn, x.1.first, x.1.last)] else [])) := hid (by
        rw [take_snoc' hlt, List.map_append, List.map_singleton, rRows_snoc, ← hx.out])
      have hl5 : (rRows ((xs.take k).map (fun x : TxS × Value => x.1))).length ≤ 4 := by
        have := rRows_len ((xs.take k).map (fun x : TxS × Value => x.1))
        rw [List.length_map, List.length_take] at this
        omega
      obtain ⟨R', hR'⟩ := named (rRows ((xs.take k).map (fun x : TxS × Value => x.1)))
      rw [← hR'.out] at hO hsn hl5 ⊢
      clear c3 c4
      by_cases hz : 0 < x.1.last
      · have hsn2 : Hid (rRows ((xs.take (k + 1)).map (fun x : TxS × Value => x.1)) = R' ++ [(x.1.txn, x.1.first, x.1.last)]) := hid (by rw [hsn.out]; simp [hz])
        go_wp2_with (at_builtin; refine step_app1 slRow rfl _ _ rfl (World.ownsRow.alloc hO.out _) rfl wr.heap.size (encRow (x.1.txn, x.1.first, x.1.last)) rfl (blk_new _ _) rfl rfl (by simp [encRow, Value.oneCell']) (by omega) (by unfold maxLen; omega) (by have := hc.out.size; simp; omega) ?_; intro v5 w5 hv5 hc5 hvo hnil)
        obtain ⟨a5, n5, rfl⟩ := ownsForm' hv5
        have HV := hid hv5
        have HC := hid ((hc.out.alloc (.cells (encRow (x.1.txn, x.1.first, x.1.last)).toArray 49)).trans hc5 (fun i hi => .inr (OwnB.ge hO.out i hi).1))
        clear hv5 hc5 hvo hnil
        go_wp2_with fail
        go_roundw
        case rel => exact ⟨k + 1, by omega, by go_num, HC, hid (by rw [hsn2.out]; simpa using HV.out)⟩
        case measure => simp [intOf]; omega
      · have hsn2 : Hid (rRows ((xs.take (k + 1)).map (fun x : TxS × Value => x.1)) = R') := hid (by rw [hsn.out]; simp [hz])
        go_wp2_with fail
        go_roundw
        case rel => exact ⟨k + 1, by omega, by go_num, hc, hid (by rw [hsn2.out]; exact hO.out)⟩
        case measure => simp [intOf]; omega
    · obtain rfl : k = xs.length := by omega
      rw [List.take_length, ← hR.out] at hO
      rw [List.take_length, ← hR.out]
      go_wp2_with fail
      go_ret
      exact ⟨a1, n1, rfl, hid (Rd.of_own (enc := encRow) (size := 3) (fun _ => rfl) hO.out), hid ⟨_, xs, rfl, HH.out.keep hc.out⟩, hc⟩

theorem lsum_snoc (l : List Int) (x : Int) : lsum (l ++ [x]) = lsum l + x := by
  induction l with
  | nil => simp [lsum]
  | cons y l ih => simp [lsum, ih]; omega
set_option maxRecDepth 100000 in
theorem rNeed_calls (w0 : Rsv) (w : World) (p : Nat) (L : TTab) (h : RT w0 w p L) (res : Int) (hres : Hid (res = tNeed' L)) :
    Calls Try.prog 28 #[.pointer (some ⟨p, 0, none⟩)] w fun e w' => e = .returned (.int .i64 res) ∧ Hid (RT w0 w' p L) ∧ Hid (Chg NoB w w') := by
  obtain ⟨lv, xs, rfl, h⟩ := h
  have HH := hid h
  have hp := h.cell
  obtain ⟨ao, co, rfl, h1, h2, h3⟩ := h.row.form
  have h4 := h.few
  clear h
  go_enter Try.func28, Try.ntmps28
  go_wp2
  go_loopw [3, 4] (fun o i wr => ∃ (k : Nat) (c : Int), k ≤ xs.length ∧ i = .int .i64 k ∧ o = .int .i64 c ∧ 0 ≤ c ∧ c ≤ 1048577 * k ∧ wr = w ∧ Hid (c = tNeed' ((xs.take k).map (fun x : TxS × Value => x.1)))) (fun _ i _ => xs.length - (intOf i).toNat)
  case atStart => exact ⟨0, 0, by omega, rfl, rfl, by omega, by omega, rfl, rfl⟩
  case round =>
    obtain ⟨k, c, hk, rfl, rfl, hc0, hc1, rfl, HE⟩ := hrel
    by_cases hlt : k < xs.length
    · obtain ⟨g, cap, e, hcap, _, _, _, c3, _⟩ := HH.out.cells (List.getElem?_eq_getElem hlt)
      cases e
      have hft := HH.out.fit _ (List.getElem_mem hlt)
      obtain ⟨lf, hlf⟩ := named xs[k].1.left
      rw [← hlf.out] at c3 hft
      have hsn : Hid (tNeed' ((xs.take (k + 1)).map (fun x : TxS × Value => x.1)) = c + (1 + lf)) := hid (by
        rw [take_snoc' hlt, List.map_append, List.map_singleton]
        unfold tNeed'
        rw [List.map_append, List.map_singleton, lsum_snoc, ← hlf.out]
        congr 1
        exact HE.out.symm)
      have hk0 : (0 : Int) ≤ (k : Int) := by omega
      have hk1 : (k : Int) < (xs.length : Int) := by omega
      have hw1 : IntKind.i64.wrap (1 + lf) = 1 + lf := by rw [IntKind.wrap_i64]; omega
      have hw2 : IntKind.i64.wrap (c + (1 + lf)) = c + (1 + lf) := by rw [IntKind.wrap_i64]; omega
      have hbd : 0 ≤ c + (1 + lf) ∧ c + (1 + lf) ≤ 1048577 * ((k + 1 : Nat) : Int) := by push_cast; omega
      clear hft
      go_wp2
      go_roundw
      case rel => exact ⟨k + 1, c + (1 + lf), by omega, by go_num, by simp, hbd.1, hbd.2, by simp, hid hsn.out.symm⟩
      case measure => simp [intOf]; omega
    · obtain rfl : k = xs.length := by omega
      have hr : res = c := by rw [hres.out, HE.out, List.take_length]
      subst hr
      go_wp2
      go_ret
      exact ⟨rfl, hid ⟨_, xs, rfl, HH.out⟩, Chg.refl _ _⟩
end Go.Proofs.Ytmikbjlgcndmeaa
