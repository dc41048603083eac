import Derived.Test.YtobmaipjbepphaaJuM
import Derived.Test.YtobmaipjbepphaaJuU
import Derived.Test.YtobmaipjbepphaaJuH
namespace Go.Proofs.Ytobmaipjbepphaa
open Go.RowKit Go.ChangeMaps Go.MapKept
attribute [local go_sem] Go.Oper.rdK
set_option linter.unusedVariables false
set_option maxHeartbeats 8000000

theorem zero_ptr (w : World) : (zeroValue 56).run Try.prog w = .ok (.pointer none) w := by kernel_rfl
/-- What stands on the way through own. -/
structure OwnI (w W : World) (p ro rb : Nat) (E0 E : List JE) (s : JS) (af : Value) (n : Nat) : Prop where
  at_ : JAt W p ro rb E s af n
  chg : Chg (juFp p ro rb E0) w W
  fp : ∀ k, juFp p ro rb E k → juFp p ro rb E0 k ∨ w.heap.size ≤ k
theorem OwnI.keep {w W W' : World} {p ro rb : Nat} {E0 E : List JE} {s : JS} {af : Value} {n : Nat} (h : OwnI w W p ro rb E0 E s af n) (hc : Chg NoB W W') : OwnI w W' p ro rb E0 E s af n :=
  ⟨h.at_.keep0 hc, h.chg.trans hc (fun _ x => x.elim), h.fp⟩
theorem OwnI.step {w W W' : World} {p ro rb : Nat} {E0 E E' : List JE} {s s' : JS} {af : Value} {n n' : Nat} (h : OwnI w W p ro rb E0 E s af n) (hJ : JAt W' p ro rb E' s' af n') (hc : Chg (juFp p ro rb E) W W') (hf : ∀ k, juFp p ro rb E' k → juFp p ro rb E k ∨ W.heap.size ≤ k) : OwnI w W' p ro rb E0 E' s' af n' :=
  ⟨hJ, h.chg.trans hc h.fp, fun k hk => by
    rcases hf k hk with h1 | h1
    · exact h.fp k h1
    · have := h.chg.size; exact .inr (by omega)⟩
theorem OwnI.rc {w W : World} {p ro rb : Nat} {E0 E : List JE} {s : JS} {af : Value} {n : Nat} (h : OwnI w W p ro rb E0 E s af n) {b o : Nat} {r : Rec} {v1 v2 : Value} (hr : RcAt w b o r v1 v2) (hb : ¬ juFp p ro rb E0 b) : RcAt W b o r v1 v2 := hr.keep h.chg hb
theorem OwnI.nb {w W : World} {p ro rb : Nat} {E0 E : List JE} {s : JS} {af : Value} {n : Nat} (h : OwnI w W p ro rb E0 E s af n) {b : Nat} (hb : ¬ juFp p ro rb E0 b) (hlt : b < w.heap.size) : ¬ juFp p ro rb E b := fun x => by
  rcases h.fp b x with h1 | h1
  · exact hb h1
  · omega

theorem RcAt.lt {w : World} {b o : Nat} {r : Rec} {v1 v2 : Value} (h : RcAt w b o r v1 v2) : b < w.heap.size := World.block_lt_of_cell? w _ (h 0 _ rfl)

theorem RcAt.cells11 {w : World} {b o : Nat} {r : Rec} {v1 v2 : Value} (h : RcAt w b o r v1 v2) :
    w.cell? ⟨b, o, none⟩ = some (.int .i64 r.kind) ∧ w.cell? ⟨b, o + 1, none⟩ = some (.int .i64 r.txn) ∧ w.cell? ⟨b, o + 2, none⟩ = some (.int .i64 r.page) ∧ w.cell? ⟨b, o + 3, none⟩ = some (.int .i64 r.off) ∧ w.cell? ⟨b, o + 4, none⟩ = some (.int .i64 r.prev) ∧
    w.cell? ⟨b, o + 5, none⟩ = some (.int .i64 r.next) ∧ w.cell? ⟨b, o + 6, none⟩ = some (.int .i64 r.beg) ∧ w.cell? ⟨b, o + 7, none⟩ = some (.string r.before) ∧ w.cell? ⟨b, o + 8, none⟩ = some (.string r.after) ∧ w.cell? ⟨b, o + 9, none⟩ = some v1 ∧ w.cell? ⟨b, o + 10, none⟩ = some v2 :=
  ⟨h 0 _ rfl, h 1 _ rfl, h 2 _ rfl, h 3 _ rfl, h 4 _ rfl, h 5 _ rfl, h 6 _ rfl, h 7 _ rfl, h 8 _ rfl, h 9 _ rfl, h 10 _ rfl⟩
theorem news_blk {w : World} {b : Nat} {cs : List Value} {t : TypeId} {f : Nat × Nat} (h : w.heap[b]? = some (.cells cs.toArray t f)) : ∀ j u, cs[j]? = some u → w.cell? ((⟨b, 0, none⟩ : Addr).add j) = some u := fun j u hu => by
  have e1 : (⟨b, 0, none⟩ : Addr).add j = ⟨b, j, none⟩ := by unfold Addr.add; split <;> simp_all
  rw [e1, cell_blk h]; simpa using hu
theorem slRec : SlT Try.prog 63 30 (.agg #[.int .i64 0, .int .i64 0, .int .i64 0, .int .i64 0, .int .i64 0, .int .i64 0, .int .i64 0, .string ⟨#[]⟩, .string ⟨#[]⟩, .slice none 0 0, .slice none 0 0]) 11 136 := ⟨Try.underlying63, by kernel_rfl, rfl, by decide⟩
theorem noop_calls (q : Value) (w : World) : Calls Try.prog 25 #[q] w fun e w' => e = .returned (.tuple #[]) ∧ Chg NoB w w' := by
  go_enter Try.func25, Try.ntmps25
  go_wp2
  go_end0
  exact ⟨rfl, Chg.refl _ _⟩
theorem set_judge {p ro rb : Nat} {E : List JE} {s : JS} {af : Value} {n : Nat} {w : World} (hJ : JAt w p ro rb E s af n) {b o : Nat} {r : Rec} {v1 v2 : Value} (hr : RcAt w b o r v1 v2) (hrk : r.okk) :
    Calls Try.prog 24 #[.slice (some ⟨p, 2, none⟩) 8 8, .pointer (some ⟨b, o, none⟩)] w fun e w' => e = .returned (.tuple #[]) ∧ JAt w' p ro rb E { s with pg := jPut s.pg r } af n ∧ Chg (OneB p) w w' := by
  have h := set_calls p [.int .i64 s.last, .map (some ro)] [.map (some rb), af] s.pg b o 8 r v1 v2 62 w (by simpa [juC] using hJ.blk) hr hrk.1 hrk.2.2 hJ.pr (by rw [hJ.pl]; decide) (by rw [hJ.pl]; decide)
  rw [hJ.pl] at h
  refine h.mono ?_
  rintro e w' ⟨rfl, h1, h2⟩
  exact ⟨rfl, hJ.own (l := s.last) (pg := jPut s.pg r) h2 (by simpa [juC] using h1) (by rw [jPut_len, hJ.pl]) (jPut_size hJ.pr r), h2⟩

set_option maxRecDepth 100000 in
theorem own_calls (p ro rb : Nat) (E : List JE) (s : JS) (af : Value) (n : Nat) (a : Int) (b o : Nat) (r : Rec) (v1 v2 : Value) (w : World) (hJ : JAt w p ro rb E s af n) (hr : RcAt w b o r v1 v2) (hbo : ¬ juFp p ro rb E b)
    (hrk : r.okk) (hv : v1.oneCell' = true ∧ v2.oneCell' = true) (hn : n ≤ 100000000) (hk : r.kind = 1 ∨ r.kind = 2 ∨ r.kind = 3 ∨ r.kind = 4)
    (haf : r.kind = 3 → af = .func (.func 25) #[] #[]) (res : Bool) (s' : JS) (hres : Hid ((res, s') = jOwn s a r)) :
    Calls Try.prog 26 #[.pointer (some ⟨p, 0, none⟩), .int .i64 a, .pointer (some ⟨b, o, none⟩)] w fun e w' => e = .returned (.bool res) ∧ ∃ E', OwnI w w' p ro rb E E' s' af (n + 1) := by
  obtain ⟨c0, c1, c2, c3, c4, c5, c6, c7, c8⟩ := hr.cells
  obtain ⟨p0, p1, p2, p3⟩ := hJ.cells
  clear c2 c3 c5 c6 c7 c8 p0 p2 p3
  have HI : Hid (OwnI w w p ro rb E E s af n) := hid ⟨hJ, Chg.refl _ _, fun k hk => .inl hk⟩
  obtain ⟨t, ht⟩ := named (jGet s.op a r.txn)
  obtain ⟨T, hT⟩ := named (jOld s.op a r.txn)
  have HJ := hid hJ
  have HR := hid hr
  have hbl := hr.lt
  have HK := hid hk
  have HBO := hid hbo
  have HAF := hid haf
  clear hk hJ hr hbo haf
  go_enter Try.func26, Try.ntmps26
  obtain ⟨om, hom⟩ := named (mget (E.map JI.row) r.txn)
  obtain ⟨tv, htv⟩ := named ((om.map ptrV).getD (.pointer none))
  obtain ⟨ob, hob⟩ := named om.isSome
  have HL := look_any (P := Try.prog) (V := ptrV) Try.underlying55 Try.underlying3 HJ.out.pt.map zero_ptr r.txn true (res := .tuple #[tv, .bool ob]) (by rw [htv.out, hob.out, hom.out]; rfl)
  go_upto_region 1 with fail
  go_cut [7, 8] (fun s7 s8 wx => tv = s7 ∧ .bool ob = s8 ∧ Hid (OwnI w wx p ro rb E E s af n))
  case first =>
    refine wp_region_ord 14 (.rd 0 (.rd 1 (.rd 2 (.rd 3 (.rd 4 (.rd 5 (.rd 6 (.rd 7 (.rd 8 (.rd 9 (.rd 10 (.rd 11 (.rd 12 (.rd 13 (.done))))))))))))))) (fun w' => Same w w' ∧ (Instr.lookup 55 (.map (some ro)) (.int .i64 r.txn) true).run Try.prog w' = .ok (.tuple #[tv, .bool ob]) w') (by kernel_rfl) (by kernel_rfl) (by kernel_rfl) (by kernel_rfl) (by kernel_rfl) (fun _ _ d _ _ h => by cases d <;> exact h) (⟨Same.of (Chg.refl _ _).drew, HL.out _ (Chg.refl NoB w).drew⟩) (fun hS0 => ?_)
    refine wpOrd_rd rfl rfl (by first | decide | simp) (by assumption) (fun w' hw' K hK => by ((try unfold Same at hw'); (try go_split_ands); go_simp; exact hK)) ?_
    refine wpOrd_rd rfl rfl (by first | decide | simp) (by assumption) (fun w' hw' K hK => by ((try unfold Same at hw'); (try go_split_ands); go_simp; exact hK)) ?_
    refine wpOrd_rd rfl rfl (by first | decide | simp) (by assumption) (fun w' hw' K hK => by ((try unfold Same at hw'); (try go_split_ands); go_simp; exact hK)) ?_
    refine wpOrd_rd rfl rfl (by first | decide | simp) (by assumption) (fun w' hw' K hK => by ((try unfold Same at hw'); (try go_split_ands); go_simp; exact hK)) ?_
    refine wpOrd_rd rfl rfl (by first | decide | simp) (by assumption) (fun w' hw' K hK => by ((try unfold Same at hw'); (try go_split_ands); go_simp; exact hK)) ?_
    refine wpOrd_rd rfl rfl (by first | decide | simp) (by assumption) (fun w' hw' K hK => by ((try unfold Same at hw'); (try go_split_ands); go_simp; exact hK)) ?_
    refine wpOrd_rd rfl rfl (by first | decide | simp) (by assumption) (fun w' hw' K hK => by ((try unfold Same at hw'); (try go_split_ands); go_simp; exact hK)) ?_
    refine wpOrd_rd rfl rfl (by first | decide | simp) (by assumption) (fun w' hw' K hK => by ((try unfold Same at hw'); (try go_split_ands); go_simp; exact hK)) ?_
    refine wpOrd_rd rfl rfl (by first | decide | simp) (by assumption) (fun w' hw' K hK => by ((try unfold Same at hw'); (try go_split_ands); go_simp; exact hK)) ?_
    refine wpOrd_rd rfl rfl (by first | decide | simp) (by assumption) (fun w' hw' K hK => by ((try unfold Same at hw'); (try go_split_ands); go_simp; exact hK)) ?_
    refine wpOrd_rd rfl rfl (by first | decide | simp) (by assumption) (fun w' hw' K hK => by ((try unfold Same at hw'); (try go_split_ands); go_simp; exact hK)) ?_
    refine wpOrd_rd rfl rfl (by first | decide | simp) (by assumption) (fun w' hw' K hK => by ((try unfold Same at hw'); (try go_split_ands); go_simp; exact hK)) ?_
    refine wpOrd_rd rfl rfl (by first | decide | simp) (by assumption) (fun w' hw' K hK => by ((try unfold Same at hw'); (try go_split_ands); go_simp; exact hK)) ?_
    refine wpOrd_rd rfl rfl (by first | decide | simp) (by assumption) (fun w' hw' K hK => by ((try unfold Same at hw'); (try go_split_ands); go_simp; exact hK)) ?_
    refine wpOrd_nil ?_
    go_wp2_with fail
    go_meet
    exact ⟨rfl, rfl, HI.out.keep (Chg.refl NoB w).drew⟩
  case rest =>
    obtain ⟨rfl, rfl, hI⟩ := hcut
    clear HI HL c0 c1 c4 p1
    go_upto_if 23 with fail
    go_cut [7] (fun s7 wx => ∃ (i : Nat) (e : JE) (E1 : List JE), s7 = .pointer (some ⟨e.b, 0, none⟩) ∧ Hid (OwnI w wx p ro rb E E1 { s with op := T } af n ∧ E1[i]? = some e ∧ e.s = t))
    case first =>
      have HRc := hI.out.rc HR.out HBO.out
      obtain ⟨c0, c1, c2, c3, c4, c5, c6, c7, c8⟩ := HRc.cells
      obtain ⟨p0, p1, p2, p3⟩ := hI.out.at_.cells
      clear c0 c2 c3 c4 c5 c6 c7 c8 p0 p2 p3
      rcases HJ.out.find r.txn with ⟨h1, h2⟩ | ⟨i, e, h0, h1, h2, h3⟩
      · have hn1 : om = none := by rw [hom.out, h1]
        subst hn1
        have e1 : ob = false := by rw [hob.out]; rfl
        have e2 : tv = .pointer none := by rw [htv.out]; rfl
        subst e1 e2
        have HT := hid (show T = s.op ++ [⟨r.txn, a, 0, []⟩] by rw [hT.out]; unfold jOld; rw [h2]; rfl)
        have Ht := hid (show t = ⟨r.txn, a, 0, []⟩ by rw [ht.out]; unfold jGet; rw [h2]; rfl)
        have HN := hid h1
        clear h1 h2 hom htv hob
        go_upto_region 4 with fail
        refine wp_region_ord 9 (.rd 0 (.rd 1 (.rd 2 (.rd 3 (.rd 4 (.rd 5 (.rd 6 (.rd 7 (.rd 8 (.one 9 (.done))))))))))) (Same wc) (by kernel_rfl) (by kernel_rfl) (by kernel_rfl) (by kernel_rfl) (by kernel_rfl) (fun _ _ d _ _ h => by cases d <;> exact h) (Same.of ((Chg.refl NoB wc).alloc _).drew) (fun hS0 => ?_)
        refine wpOrd_rd rfl rfl (by first | decide | simp) (by assumption) (fun w' hw' K hK => by ((try unfold Same at hw'); (try go_split_ands); go_simp; exact hK)) ?_
        refine wpOrd_rd rfl rfl (by first | decide | simp) (by assumption) (fun w' hw' K hK => by ((try unfold Same at hw'); (try go_split_ands); go_simp; exact hK)) ?_
        refine wpOrd_rd rfl rfl (by first | decide | simp) (by assumption) (fun w' hw' K hK => by ((try unfold Same at hw'); (try go_split_ands); go_simp; exact hK)) ?_
        refine wpOrd_rd rfl rfl (by first | decide | simp) (by assumption) (fun w' hw' K hK => by ((try unfold Same at hw'); (try go_split_ands); go_simp; exact hK)) ?_
        refine wpOrd_rd rfl rfl (by first | decide | simp) (by assumption) (fun w' hw' K hK => by ((try unfold Same at hw'); (try go_split_ands); go_simp; exact hK)) ?_
        refine wpOrd_rd rfl rfl (by first | decide | simp) (by assumption) (fun w' hw' K hK => by ((try unfold Same at hw'); (try go_split_ands); go_simp; exact hK)) ?_
        refine wpOrd_rd rfl rfl (by first | decide | simp) (by assumption) (fun w' hw' K hK => by ((try unfold Same at hw'); (try go_split_ands); go_simp; exact hK)) ?_
        refine wpOrd_rd rfl rfl (by first | decide | simp) (by assumption) (fun w' hw' K hK => by ((try unfold Same at hw'); (try go_split_ands); go_simp; exact hK)) ?_
        refine wpOrd_rd rfl rfl (by first | decide | simp) (by assumption) (fun w' hw' K hK => by ((try unfold Same at hw'); (try go_split_ands); go_simp; exact hK)) ?_
        refine wpOrd_do rfl ?_
        refine step_mapUpdate (hI.out.at_.pt.map.chg ((Chg.refl NoB wc).alloc _) nob).drew rfl _ _ _ 55 3 56 rfl Try.underlying55 Try.underlying3 r.txn wc.heap.size rfl rfl rfl ?_; intro w2 hm2 hc2 hs2
        (try dsimp only [Act.put])
        (try simp only [List.setIfInBounds_toArray, List.set_cons_zero, List.set_cons_succ])
        refine wpOrd_last ?_
        refine wpOrd_nil ?_
        go_wp2_with fail
        go_meet
        have hcc : Chg (OneB ro) wc w2 := ((Chg.refl (OneB ro) wc).alloc _).drew.trans' hc2
        have hbk := hc2.heap (show ((wc.alloc (.cells #[.int .i64 r.txn, .int .i64 a, .int .i64 0, .slice none 0 0] 65)).drew).heap[wc.heap.size]? = _ from blk_new _ _) (fun x => by have := hI.out.at_.pt.map.lt; have h' : wc.heap.size = ro := x; omega)
        have hme : JI.ok w2 ⟨⟨r.txn, a, 0, []⟩, wc.heap.size, .slice none 0 0⟩ := ⟨hbk, StandAt.nil⟩
        have hpu := hI.out.at_.push (w' := w2) (e := ⟨⟨r.txn, a, 0, []⟩, wc.heap.size, .slice none 0 0⟩) (by rw [mput_new HN.out] at hm2; exact hm2) hcc (Nat.le_refl _) rfl rfl hme
        refine ⟨E.length, ⟨⟨r.txn, a, 0, []⟩, wc.heap.size, .slice none 0 0⟩, E ++ [⟨⟨r.txn, a, 0, []⟩, wc.heap.size, .slice none 0 0⟩], rfl, hI.out.step (by rw [HT.out]; exact hpu) (hcc.mono fun i x => .inl (.inr (.inr (.inl x)))) (juFp_push (Nat.le_refl _) rfl), by simp, Ht.out.symm⟩
      · have hn1 : om = some e.b := by rw [hom.out, h2]
        subst hn1
        have e1 : ob = true := by rw [hob.out]; rfl
        have e2 : tv = .pointer (some ⟨e.b, 0, none⟩) := by rw [htv.out]; rfl
        subst e1 e2
        have HT := hid (show T = s.op by rw [hT.out]; unfold jOld; rw [h3]; rfl)
        have Ht := hid (show t = e.s by rw [ht.out]; unfold jGet; rw [h3]; rfl)
        have HE := hid h0
        clear h0 h1 h2 h3 hom htv hob
        go_wp2_with fail
        go_meet
        exact ⟨i, e, E, rfl, by rw [HT.out]; exact hI.out, HE.out, Ht.out.symm⟩
    case rest =>
      obtain ⟨i, e, E1, rfl, hE⟩ := hcut
      clear hI hom htv hob
      have HRc := hE.out.1.rc HR.out HBO.out
      obtain ⟨c0, c1, c2, c3, c4, c5, c6, c7, c8⟩ := HRc.cells
      have hem := List.mem_of_getElem? hE.out.2.1
      have hek := hE.out.1.at_.pt.ok e hem
      have e2 : wc.cell? ⟨e.b, 2, none⟩ = some (.int .i64 e.s.last) := by rw [cell_blk hek.1]; rfl
      have f2 : wc.frozen? ⟨e.b, 2, none⟩ = false := frozen_blk hek.1 2
      obtain ⟨okb, hokb⟩ := named (r.prev == e.s.last)
      have hok' := hokb.out.symm
      have hen := hid hem
      have hekH := hid hek
      clear c0 c1 c2 c3 c5 c6 c7 c8 hem hek HRc
      go_upto_region 5 with fail
      refine wp_region_ord 11 (.rd 0 (.rd 1 (.rd 2 (.rd 3 (.rd 4 (.rd 5 (.rd 6 (.rd 7 (.rd 8 (.rd 9 (.rd 10 (.done)))))))))))) (Same wc) (by kernel_rfl) (by kernel_rfl) (by kernel_rfl) (by kernel_rfl) (by kernel_rfl) (fun _ _ d _ _ h => by cases d <;> exact h) (Same.of (Chg.refl _ _).drew) (fun hS0 => ?_)
      refine wpOrd_rd rfl rfl (by first | decide | simp) (by assumption) (fun w' hw' K hK => by ((try unfold Same at hw'); (try go_split_ands); go_simp; exact hK)) ?_
      refine wpOrd_rd rfl rfl (by first | decide | simp) (by assumption) (fun w' hw' K hK => by ((try unfold Same at hw'); (try go_split_ands); go_simp; exact hK)) ?_
      refine wpOrd_rd rfl rfl (by first | decide | simp) (by assumption) (fun w' hw' K hK => by ((try unfold Same at hw'); (try go_split_ands); go_simp; exact hK)) ?_
      refine wpOrd_rd rfl rfl (by first | decide | simp) (by assumption) (fun w' hw' K hK => by ((try unfold Same at hw'); (try go_split_ands); go_simp; exact hK)) ?_
      refine wpOrd_rd rfl rfl (by first | decide | simp) (by assumption) (fun w' hw' K hK => by ((try unfold Same at hw'); (try go_split_ands); go_simp; exact hK)) ?_
      refine wpOrd_rd rfl rfl (by first | decide | simp) (by assumption) (fun w' hw' K hK => by ((try unfold Same at hw'); (try go_split_ands); go_simp; exact hK)) ?_
      refine wpOrd_rd rfl rfl (by first | decide | simp) (by assumption) (fun w' hw' K hK => by ((try unfold Same at hw'); (try go_split_ands); go_simp; exact hK)) ?_
      refine wpOrd_rd rfl rfl (by first | decide | simp) (by assumption) (fun w' hw' K hK => by ((try unfold Same at hw'); (try go_split_ands); go_simp; exact hK)) ?_
      refine wpOrd_rd rfl rfl (by first | decide | simp) (by assumption) (fun w' hw' K hK => by ((try unfold Same at hw'); (try go_split_ands); go_simp; exact hK)) ?_
      refine wpOrd_rd rfl rfl (by first | decide | simp) (by assumption) (fun w' hw' K hK => by ((try unfold Same at hw'); (try go_split_ands); go_simp; exact hK)) ?_
      refine wpOrd_rd rfl rfl (by first | decide | simp) (by assumption) (fun w' hw' K hK => by ((try unfold Same at hw'); (try go_split_ands); go_simp; exact hK)) ?_
      refine wpOrd_nil ?_
      have e2' : (World.drew wc).cell? ⟨e.b, 2, none⟩ = some (.int .i64 e.s.last) := e2
      have f2' : (World.drew wc).frozen? ⟨e.b, 2, none⟩ = false := f2
      clear e2 f2 c4 hok'
      go_upto_region 7 with fail
      have hcc : Chg (OneB e.b) wc ((World.drew wc).setCell ⟨e.b, 2, none⟩ (.int .i64 a)) := (Chg.refl (OneB e.b) wc).drew.setCell (p := ⟨e.b, 2, none⟩) (.inl (OneB.self _)) _
      have hown := hE.out.1.at_.pt.own e hen.out
      have hek2 : JI.ok ((World.drew wc).setCell ⟨e.b, 2, none⟩ (.int .i64 a)) { e with s := { e.s with last := a } } := ⟨by have := blk_setCell (w := World.drew wc) hekH.out.1 2 (.int .i64 a); simpa [JE.cs] using this, hekH.out.2.keep hcc (fun k hk x => by have h' : k = e.b := x; subst h'; exact hown.1 hk)⟩
      have hJ2 := hE.out.1.at_.set (e' := { e with s := { e.s with last := a } }) hE.out.2.1 rfl rfl (hcc.mono fun k x => .inl (.inl x)) hek2 (fun k hk => .inl hk) (hE.out.1.at_.ct.1 e.s (by rw [← hE.out.1.at_.es]; exact List.mem_map.2 ⟨e, hen.out, rfl⟩))
      obtain ⟨E2, hE2⟩ := named (E1.set i { e with s := { e.s with last := a } })
      obtain ⟨s2, hs2⟩ := named ({ s with op := jUpd T { t with last := a } } : JS)
      have hi2 : Hid (E2[i]? = some { e with s := { e.s with last := a } }) := hid (by rw [hE2.out]; have := (List.getElem?_eq_some_iff.1 hE.out.2.1).1; simp [this])
      refine wp_gen (fun W => Hid (OwnI w W p ro rb E E2 s2 af n)) (hid (by rw [hE2.out, hs2.out]; exact hE.out.1.step (by rw [← hE.out.2.2]; exact hJ2) (hcc.mono fun k x => by have h' : k = e.b := x; subst h'; exact .inl (.inr (.inr (.inr ⟨e, hen.out, .inl rfl⟩)))) (juFp_set hE.out.2.1 rfl (fun k hk => .inl hk)))) ?_
      intro W hW
      have hte := hid hE.out.2.2
      have hsp : Hid (s2.pg = s.pg) := hid (by rw [hs2.out])
      have hse : Hid (e.s.stand.length ≤ n) := hid (hE.out.1.at_.ct.1 e.s (by rw [← hE.out.1.at_.es]; exact List.mem_map.2 ⟨e, hen.out, rfl⟩))
      clear hcc hown hek2 hJ2 hE e2' f2' hen hekH hE2
      have hRc := hW.out.rc HR.out HBO.out
      have c0 := hRc.cells.1
      rcases HK.out with hk | hk | hk | hk
      · rw [hk] at c0
        have hJ1 : Hid ((res, s') = (jHas s.pg r && okb, { s with op := jUpd T { t with last := a, stand := t.stand ++ [r] }, pg := jPut s.pg r })) := hid (by rw [hres.out, hokb.out, hte.out]; unfold jOwn; rw [if_pos hk, ht.out, hT.out])
        obtain ⟨hb, hhb⟩ := named (jHas s.pg r)
        have hhb2 : Hid (hb = jHas s2.pg r) := hid (by rw [hhb.out, hsp.out])
        go_upto_region 9 with fail
        go_cut [9] (fun s9 wx => .bool (hb && okb) = s9 ∧ Hid (OwnI w wx p ro rb E E2 s2 af n))
        case first =>
          clear hk
          cases hb
          all_goals
            go_wp2_with (go_at_call 32; refine (stands_calls p ro rb E2 s2 af n b o r v1 v2 W hW.out.at_ hRc hrk.1 hrk.2.1 _ hhb2).mono ?_; rintro en w3 ⟨rfl, hc3⟩)
            go_meet
            exact ⟨by simp, hW.out.keep hc3⟩
        case rest =>
          obtain ⟨rfl, hW2⟩ := hcut
          clear hW c0 hRc hhb2
          have hRc := hW2.out.rc HR.out HBO.out
          have hc11 := hRc.cells11
          have hem := List.mem_of_getElem? hi2.out
          have hek := hW2.out.at_.pt.ok _ hem
          have hown := hW2.out.at_.pt.own _ hem
          obtain ⟨xs, hx1, hx2, hx3, hx4⟩ := id hek.2
          obtain ⟨ao, cap, hmv, hm1, hm2, hm3⟩ := hx2.form
          have hxl : xs.length = e.s.stand.length := by rw [← (show xs.map (·.1) = e.s.stand from hx1)]; simp
          have e3 : wc.cell? ⟨e.b, 3, none⟩ = some (.slice ao xs.length cap) := by rw [← (show e.mv = _ from hmv), cell_blk hek.1]; rfl
          have hone : Hid (∀ u ∈ r.cs v1 v2, u.oneCell' = true) := hid (by
            obtain ⟨o1, o2⟩ := hv
            intro u hu
            simp only [Rec.cs, List.mem_cons, List.not_mem_nil, or_false] at hu
            rcases hu with h | h | h | h | h | h | h | h | h | h | h <;> subst h <;> first | rfl | exact o1 | exact o2)
          have hnb := hW2.out.nb HBO.out hbl
          have hbX : Hid (b ≠ e.b ∧ ¬ OwnB e.mv b ∧ ¬ OwnB e.mv e.b) := hid ⟨fun x => hnb (.inr (.inr (.inr ⟨_, hem, .inl x⟩))), fun x => hnb (.inr (.inr (.inr ⟨_, hem, .inr x⟩))), hown.1⟩
          have HEK := hid hek
          have HX := hid hx2
          have HMV := hid hmv
          have HXS : Hid (xs.map (·.1) = e.s.stand ∧ (∀ r ∈ e.s.stand, r.okk) ∧ (∀ x ∈ xs, x.2.1.oneCell' = true ∧ x.2.2.oneCell' = true) ∧ xs.length ≤ n) := hid ⟨hx1, hx3, hx4, by rw [hxl]; exact hse.out⟩
          have hnn : xs.length ≤ 100000000 := by have := hse.out; omega
          have HS : Hid (∀ w', Chg (fun k => OwnB e.mv k) wc w' → w'.cell? ⟨e.b, 3, none⟩ = some (.slice ao xs.length cap) ∧ RcAt w' b o r v1 v2) := hid (fun w' hc => ⟨hc.cell e3 hbX.out.2.2, hRc.keep hc hbX.out.2.1⟩)
          clear hk hem hek hown hx1 hx2 hx3 hx4 hmv hxl hm1 hm2 hm3 e3 hRc hc11 hnb
          go_upto_region 10 with fail
          refine wp_region_ord 12 (.rd 0 (.rd 1 (.rd 2 (.rd 3 (.rd 4 (.rd 5 (.rd 6 (.rd 7 (.one 8 (.one 9 (.rd 10 (.rd 11 (.one 12 (.done)))))))))))))) (fun w' => w'.cell? ⟨e.b, 3, none⟩ = some (.slice ao xs.length cap) ∧ w'.cell? ⟨b, o, none⟩ = some (.int .i64 r.kind) ∧ w'.cell? ⟨b, o + 1, none⟩ = some (.int .i64 r.txn) ∧ w'.cell? ⟨b, o + 2, none⟩ = some (.int .i64 r.page) ∧ w'.cell? ⟨b, o + 3, none⟩ = some (.int .i64 r.off) ∧ w'.cell? ⟨b, o + 4, none⟩ = some (.int .i64 r.prev) ∧ w'.cell? ⟨b, o + 5, none⟩ = some (.int .i64 r.next) ∧ w'.cell? ⟨b, o + 6, none⟩ = some (.int .i64 r.beg) ∧ w'.cell? ⟨b, o + 7, none⟩ = some (.string r.before) ∧ w'.cell? ⟨b, o + 8, none⟩ = some (.string r.after) ∧ w'.cell? ⟨b, o + 9, none⟩ = some v1 ∧ w'.cell? ⟨b, o + 10, none⟩ = some v2) (by kernel_rfl) (by kernel_rfl) (by kernel_rfl) (by kernel_rfl) (by kernel_rfl) (fun _ _ d _ _ h => by cases d <;> exact h) ((fun h : _ ∧ _ => ⟨h.1, h.2.cells11⟩) (HS.out _ (Chg.refl _ wc).drew)) (fun hS0 => ?_)
          refine wpOrd_rd rfl rfl (by first | decide | simp) (by assumption) (fun w' hw' K hK => by ((try unfold Same at hw'); (try go_split_ands); go_simp; exact hK)) ?_
          refine wpOrd_rd rfl rfl (by first | decide | simp) (by assumption) (fun w' hw' K hK => by ((try unfold Same at hw'); (try go_split_ands); go_simp; exact hK)) ?_
          refine wpOrd_rd rfl rfl (by first | decide | simp) (by assumption) (fun w' hw' K hK => by ((try unfold Same at hw'); (try go_split_ands); go_simp; exact hK)) ?_
          refine wpOrd_rd rfl rfl (by first | decide | simp) (by assumption) (fun w' hw' K hK => by ((try unfold Same at hw'); (try go_split_ands); go_simp; exact hK)) ?_
          refine wpOrd_rd rfl rfl (by first | decide | simp) (by assumption) (fun w' hw' K hK => by ((try unfold Same at hw'); (try go_split_ands); go_simp; exact hK)) ?_
          refine wpOrd_rd rfl rfl (by first | decide | simp) (by assumption) (fun w' hw' K hK => by ((try unfold Same at hw'); (try go_split_ands); go_simp; exact hK)) ?_
          refine wpOrd_rd rfl rfl (by first | decide | simp) (by assumption) (fun w' hw' K hK => by ((try unfold Same at hw'); (try go_split_ands); go_simp; exact hK)) ?_
          refine wpOrd_rd rfl rfl (by first | decide | simp) (by assumption) (fun w' hw' K hK => by ((try unfold Same at hw'); (try go_split_ands); go_simp; exact hK)) ?_
          refine wpOrd_do rfl ?_
          refine wpList_plain rfl (fun K hK => ?_)
          go_simp
          refine hK _ _ ?_
          clear hK K
          (try dsimp only [Act.put])
          (try simp only [List.setIfInBounds_toArray, List.set_cons_zero, List.set_cons_succ])
          refine wpOrd_done ((fun h : _ ∧ _ => ⟨h.1, h.2.cells11⟩) (HS.out _ ((Chg.refl _ wc).drew.alloc _))) (fun hS1 => ?_)
          refine wpOrd_do rfl ?_
          refine step_appW slRec rfl _ _ rfl (HX.out.keep ((Chg.refl NoB wc).drew.alloc _) (fun _ _ => nob)) HMV.out.symm ⟨wc.heap.size, 0, none⟩ 1 1 (r.cs v1 v2) rfl rfl (news_blk (blk_new _ _)) hone.out (by omega) (by unfold maxLen; omega) ?_; intro v' w4 hw4 hc4 hn4
          obtain ⟨ao2, cap2, rfl, _, _, _⟩ := hw4.form
          have hb4 := hc4.heap (((Chg.refl NoB wc).drew.alloc (.cells (r.cs v1 v2).toArray 30)).heap HEK.out.1 nob) hbX.out.2.2
          (try dsimp only [Act.put])
          (try simp only [List.setIfInBounds_toArray, List.set_cons_zero, List.set_cons_succ])
          refine wpOrd_done ((fun h : _ ∧ _ => ⟨h.1, h.2.cells11⟩) (HS.out _ (((Chg.refl _ wc).drew.alloc _).trans' hc4))) (fun hS2 => ?_)
          refine wpOrd_rd rfl rfl (by first | decide | simp) (by assumption) (fun w' hw' K hK => by ((try unfold Same at hw'); (try go_split_ands); go_simp; exact hK)) ?_
          refine wpOrd_rd rfl rfl (by first | decide | simp) (by assumption) (fun w' hw' K hK => by ((try unfold Same at hw'); (try go_split_ands); go_simp; exact hK)) ?_
          refine wpOrd_do rfl ?_
          refine step_store1 rfl rfl e.b 3 rfl rfl rfl rfl (cs := [.int .i64 e.s.txn, .int .i64 e.s.first, .int .i64 a, e.mv]) hb4 (by simp) (by kernel_rfl) ?_; intro w5 hb5 hc5 hs5
          (try dsimp only [Act.put])
          (try simp only [List.setIfInBounds_toArray, List.set_cons_zero, List.set_cons_succ])
          refine wpOrd_last ?_
          refine wpOrd_nil ?_
          have hcA : Chg (JI.fp { e with s := { e.s with last := a } }) wc w5 := (((Chg.refl _ wc).drew.alloc _).trans' (hc4.mono (T := JI.fp { e with s := { e.s with last := a } }) (fun k hk => .inl (.inr hk)))).trans' (hc5.mono fun k hk => .inl (.inl hk))
          have hbl2 := lt_of_block HEK.out.1
          have hnew : ∀ k, OwnB (.slice ao2 (xs.length + 1) cap2) k → OwnB e.mv k ∨ wc.heap.size ≤ k := fun k hk => (hn4 k hk).imp id (fun h => by simp at h; omega)
          have hok4 : JI.ok w5 ⟨{ e.s with last := a, stand := e.s.stand ++ [r] }, e.b, .slice ao2 (xs.length + 1) cap2⟩ := ⟨hb5, xs ++ [(r, v1, v2)], by rw [List.map_append, HXS.out.1]; rfl, by
            have h1 := hw4.keep hc5 (fun k hk x => by
              have h' : k = e.b := x
              subst h'
              rcases hnew _ hk with h2 | h2
              · exact hbX.out.2.2 h2
              · have h3 : e.b < wc.heap.size := hbl2
                omega)
            simpa [encRv] using h1, fun x hx => by
              rcases List.mem_append.1 hx with hx | hx
              · exact HXS.out.2.1 x hx
              · obtain rfl := List.mem_singleton.1 hx; exact hrk, fun x hx => by
              rcases List.mem_append.1 hx with hx | hx
              · exact HXS.out.2.2.1 x hx
              · obtain rfl := List.mem_singleton.1 hx; exact hv⟩
          have hJ3 := (hW2.out.at_.mono (Nat.le_succ n)).set (e' := ⟨{ e.s with last := a, stand := e.s.stand ++ [r] }, e.b, .slice ao2 (xs.length + 1) cap2⟩) hi2.out rfl rfl hcA hok4 hnew (by have := hse.out; simp; omega)
          have hI3 := hid (hW2.out.step hJ3 (hcA.mono fun k hk => .inl (.inr (.inr (.inr ⟨_, List.mem_of_getElem? hi2.out, hk⟩)))) (juFp_set hi2.out rfl hnew))
          have hRc5 := hI3.out.rc HR.out HBO.out
          have HSS : Hid (({ ({ s2 with op := jUpd s2.op { e.s with last := a, stand := e.s.stand ++ [r] } } : JS) with pg := jPut s2.pg r } : JS) = s') := hid (by
            have := hJ1.out
            simp only [Prod.mk.injEq] at this
            rw [this.2, hs2.out]
            simp only []
            rw [jUpd_upd _ _ _ (by rw [← hte.out]), hte.out])
          have hres2 : Hid (res = (hb && okb)) := hid (by have := hJ1.out; simp only [Prod.mk.injEq] at this; rw [this.1, hhb.out])
          clear hcA hnew hok4 hJ3 hb5 hc5 hs5 hw4 hc4 hn4 hb4
          go_wp2_with (go_at_call 24; refine (set_judge hI3.out.at_ hRc5 hrk).mono ?_; rintro en w6 ⟨rfl, hJ6, hc6⟩)
          go_ret
          refine ⟨ret_bool hres2.out.symm, E2.set i ⟨{ e.s with last := a, stand := e.s.stand ++ [r] }, e.b, .slice ao2 (xs.length + 1) cap2⟩, ?_⟩
          rw [← HSS.out]
          exact hI3.out.step hJ6 (hc6.mono fun k x => .inl (.inl x)) (fun k hk => .inl hk)
      · rw [hk] at c0
        have hJ1 : Hid ((res, s') = ((jUndo t.stand r).1 && okb, { s with op := jUpd T { t with last := a, stand := (jUndo t.stand r).2 }, pg := jPut s.pg r })) := hid (by rw [hres.out, hokb.out, hte.out]; unfold jOwn; rw [if_neg (by omega), if_pos hk, ht.out, hT.out])
        obtain ⟨⟨ub, st⟩, hu⟩ := named (jUndo e.s.stand r)
        go_upto_region 13 with fail
        go_cut [9] (fun s9 wx => .bool (ub && okb) = s9 ∧ ∃ E3, Hid (OwnI w wx p ro rb E E3 { s2 with op := jUpd s2.op { e.s with last := a, stand := st } } af n))
        case first =>
          clear hk
          have hem := List.mem_of_getElem? hi2.out
          have hek := hW.out.at_.pt.ok _ hem
          have hown := hW.out.at_.pt.own _ hem
          have hnb := hW.out.nb HBO.out hbl
          have hbX : b ≠ e.b := fun x => hnb (.inr (.inr (.inr ⟨_, hem, .inl x⟩)))
          have HO := hid hown.1
          have HM := hid hem
          clear hnb hown hem
          cases ub
          all_goals
            go_wp2_with (go_at_call 33; refine (undone_calls { e with s := { e.s with last := a } } b o r v1 v2 W hek hRc hbX HO.out _ st hu).mono ?_; rintro en w3 ⟨rfl, mv, hok3, hmv3, hc3⟩)
            go_meet
            refine ⟨by simp, E2.set i { e with s := { e.s with last := a, stand := st }, mv := mv }, hid (hW.out.step (hW.out.at_.set (e' := { e with s := { e.s with last := a, stand := st }, mv := mv }) hi2.out rfl rfl (hc3.mono fun k hk => .inl (.inl hk)) hok3 (fun k hk => .inl (hmv3 k hk)) ?_) (hc3.mono fun k hk => .inl (.inr (.inr (.inr ⟨_, HM.out, .inl hk⟩)))) (juFp_set hi2.out rfl (fun k hk => .inl (hmv3 k hk))))⟩
            have := jUndo_len e.s.stand r
            rw [← hu.out] at this
            exact Nat.le_trans this hse.out
        case rest =>
          obtain ⟨rfl, E3, hI3⟩ := hcut
          clear hW c0 hRc
          have hRc5 := hI3.out.rc HR.out HBO.out
          have HSS : Hid (({ ({ s2 with op := jUpd s2.op { e.s with last := a, stand := st } } : JS) with pg := jPut s2.pg r } : JS) = s') := hid (by
            have := hJ1.out
            simp only [Prod.mk.injEq] at this
            rw [this.2, hs2.out]
            simp only []
            rw [jUpd_upd _ _ _ (by rw [← hte.out]), ← hte.out, ← hu.out])
          have hres2 : Hid (res = (ub && okb)) := hid (by have := hJ1.out; simp only [Prod.mk.injEq] at this; rw [this.1, ← hte.out, ← hu.out])
          go_wp2_with (go_at_call 24; refine (set_judge hI3.out.at_ hRc5 hrk).mono ?_; rintro en w6 ⟨rfl, hJ6, hc6⟩)
          go_ret
          refine ⟨ret_bool hres2.out.symm, E3, ?_⟩
          rw [← HSS.out]
          exact hI3.out.step (hJ6.mono (Nat.le_succ n)) (hc6.mono fun k x => .inl (.inl x)) (fun k hk => .inl hk)
      · rw [hk] at c0
        have hJ1 : Hid ((res, s') = (okb, { s with op := jDel T r.txn })) := hid (by rw [hres.out, hokb.out, hte.out]; unfold jOwn; rw [if_neg (by omega), if_neg (by omega), if_neg (by omega), ht.out, hT.out])
        obtain ⟨p0, p1, p2, p3⟩ := hW.out.at_.cells
        rw [HAF.out hk] at p3
        clear hk p0 p2
        go_upto_region 20 with (go_at_call 25; refine (noop_calls _ _).mono ?_; rintro en w3 ⟨rfl, hc3⟩)
        have hW3 := hid (hW.out.keep hc3)
        have hRc3 := hW3.out.rc HR.out HBO.out
        have c1 := hRc3.cells.2.1
        obtain ⟨q0, q1, q2, q3⟩ := hW3.out.at_.cells
        clear hRc c0 p1 p3 q0 q2 q3 hRc3
        refine wp_region_ord 8 (.rd 0 (.rd 1 (.rd 2 (.rd 3 (.rd 4 (.rd 5 (.rd 6 (.rd 7 (.one 8 (.done)))))))))) (Same w3) (by kernel_rfl) (by kernel_rfl) (by kernel_rfl) (by kernel_rfl) (by kernel_rfl) (fun _ _ d _ _ h => by cases d <;> exact h) (Same.of (Chg.refl _ _).drew) (fun hS0 => ?_)
        refine wpOrd_rd rfl rfl (by first | decide | simp) (by assumption) (fun w' hw' K hK => by ((try unfold Same at hw'); (try go_split_ands); go_simp; exact hK)) ?_
        refine wpOrd_rd rfl rfl (by first | decide | simp) (by assumption) (fun w' hw' K hK => by ((try unfold Same at hw'); (try go_split_ands); go_simp; exact hK)) ?_
        refine wpOrd_rd rfl rfl (by first | decide | simp) (by assumption) (fun w' hw' K hK => by ((try unfold Same at hw'); (try go_split_ands); go_simp; exact hK)) ?_
        refine wpOrd_rd rfl rfl (by first | decide | simp) (by assumption) (fun w' hw' K hK => by ((try unfold Same at hw'); (try go_split_ands); go_simp; exact hK)) ?_
        refine wpOrd_rd rfl rfl (by first | decide | simp) (by assumption) (fun w' hw' K hK => by ((try unfold Same at hw'); (try go_split_ands); go_simp; exact hK)) ?_
        refine wpOrd_rd rfl rfl (by first | decide | simp) (by assumption) (fun w' hw' K hK => by ((try unfold Same at hw'); (try go_split_ands); go_simp; exact hK)) ?_
        refine wpOrd_rd rfl rfl (by first | decide | simp) (by assumption) (fun w' hw' K hK => by ((try unfold Same at hw'); (try go_split_ands); go_simp; exact hK)) ?_
        refine wpOrd_rd rfl rfl (by first | decide | simp) (by assumption) (fun w' hw' K hK => by ((try unfold Same at hw'); (try go_split_ands); go_simp; exact hK)) ?_
        refine wpOrd_do rfl ?_
        refine step_delete hW3.out.at_.pt.map.drew rfl _ _ 55 3 56 rfl Try.underlying55 Try.underlying3 r.txn rfl rfl ?_; intro w4 hm4 hc4 hs4
        (try dsimp only [Act.put])
        (try simp only [List.setIfInBounds_toArray, List.set_cons_zero, List.set_cons_succ])
        refine wpOrd_last ?_
        refine wpOrd_nil ?_
        have hc5 : Chg (OneB ro) w3 w4 := (Chg.refl (OneB ro) w3).drew.trans' hc4
        have hJ4 := hW3.out.at_.del r.txn hm4 hc5
        have HSS : Hid (({ s2 with op := jDel s2.op r.txn } : JS) = s') := hid (by
          have := hJ1.out
          simp only [Prod.mk.injEq] at this
          rw [this.2, hs2.out]
          simp only []
          have h9 : r.txn = ({ t with last := a } : JT).txn := by rw [ht.out]; exact (jGet_txn _ _ _).symm
          rw [h9, jDel_upd])
        have hres2 : Hid (res = okb) := hid (by have := hJ1.out; simp only [Prod.mk.injEq] at this; exact this.1)
        clear q1 c1 hm4 hc4 hs4 hS0
        go_wp2_with fail
        go_ret
        refine ⟨ret_bool hres2.out.symm, E2.filter (fun e => !(JI.key e == r.txn)), ?_⟩
        rw [← HSS.out]
        exact hW3.out.step (hJ4.mono (Nat.le_succ n)) (hc5.mono fun k x => .inl (.inr (.inr (.inl x)))) (fun k hk => .inl (juFp_del k hk))
      · rw [hk] at c0
        have hJ1 : Hid ((res, s') = (okb && (t.stand.length == 0), { s with op := jDel T r.txn })) := hid (by rw [hres.out, hokb.out, hte.out]; unfold jOwn; rw [if_neg (by omega), if_neg (by omega), if_pos hk, ht.out, hT.out])
        have hem := List.mem_of_getElem? hi2.out
        have hek := hW.out.at_.pt.ok _ hem
        obtain ⟨xs, hx1, hx2, hx3, hx4⟩ := id hek.2
        obtain ⟨ao, cap, hmv, hm1, hm2, hm3⟩ := hx2.form
        have hxl : xs.length = e.s.stand.length := by rw [← (show xs.map (·.1) = e.s.stand from hx1)]; simp
        have e3 : W.cell? ⟨e.b, 3, none⟩ = some (.slice ao xs.length cap) := by rw [← (show e.mv = _ from hmv), cell_blk hek.1]; rfl
        obtain ⟨zb, hzb⟩ := named ((xs.length : Int) == 0)
        have hz := hzb.out.symm
        have HZ : Hid (zb = (t.stand.length == 0)) := hid (by rw [hzb.out, ← hte.out, hxl, Bool.eq_iff_iff]; simp)
        clear hk hem hek hx1 hx2 hx3 hx4 hmv hm1 hm3 hzb hxl
        unfold maxLen at hm2
        go_upto_region 16 with fail
        go_cut [9] (fun s9 wx => .bool (okb && zb) = s9 ∧ Hid (OwnI w wx p ro rb E E2 s2 af n))
        case first =>
          cases okb
          all_goals
            go_wp2_with fail
            go_meet
            exact ⟨by simp, hW⟩
        case rest =>
          obtain ⟨rfl, hW3⟩ := hcut
          clear hW hRc c0 e3 hz
          have hRc3 := hW3.out.rc HR.out HBO.out
          have c1 := hRc3.cells.2.1
          obtain ⟨q0, q1, q2, q3⟩ := hW3.out.at_.cells
          clear q0 q2 q3 hRc3
          go_upto_region 17 with fail
          refine wp_region_ord 8 (.rd 0 (.rd 1 (.rd 2 (.rd 3 (.rd 4 (.rd 5 (.rd 6 (.rd 7 (.one 8 (.done)))))))))) (Same wc) (by kernel_rfl) (by kernel_rfl) (by kernel_rfl) (by kernel_rfl) (by kernel_rfl) (fun _ _ d _ _ h => by cases d <;> exact h) (Same.of (Chg.refl _ _).drew) (fun hS0 => ?_)
          refine wpOrd_rd rfl rfl (by first | decide | simp) (by assumption) (fun w' hw' K hK => by ((try unfold Same at hw'); (try go_split_ands); go_simp; exact hK)) ?_
          refine wpOrd_rd rfl rfl (by first | decide | simp) (by assumption) (fun w' hw' K hK => by ((try unfold Same at hw'); (try go_split_ands); go_simp; exact hK)) ?_
          refine wpOrd_rd rfl rfl (by first | decide | simp) (by assumption) (fun w' hw' K hK => by ((try unfold Same at hw'); (try go_split_ands); go_simp; exact hK)) ?_
          refine wpOrd_rd rfl rfl (by first | decide | simp) (by assumption) (fun w' hw' K hK => by ((try unfold Same at hw'); (try go_split_ands); go_simp; exact hK)) ?_
          refine wpOrd_rd rfl rfl (by first | decide | simp) (by assumption) (fun w' hw' K hK => by ((try unfold Same at hw'); (try go_split_ands); go_simp; exact hK)) ?_
          refine wpOrd_rd rfl rfl (by first | decide | simp) (by assumption) (fun w' hw' K hK => by ((try unfold Same at hw'); (try go_split_ands); go_simp; exact hK)) ?_
          refine wpOrd_rd rfl rfl (by first | decide | simp) (by assumption) (fun w' hw' K hK => by ((try unfold Same at hw'); (try go_split_ands); go_simp; exact hK)) ?_
          refine wpOrd_rd rfl rfl (by first | decide | simp) (by assumption) (fun w' hw' K hK => by ((try unfold Same at hw'); (try go_split_ands); go_simp; exact hK)) ?_
          refine wpOrd_do rfl ?_
          refine step_delete hW3.out.at_.pt.map.drew rfl _ _ 55 3 56 rfl Try.underlying55 Try.underlying3 r.txn rfl rfl ?_; intro w4 hm4 hc4 hs4
          (try dsimp only [Act.put])
          (try simp only [List.setIfInBounds_toArray, List.set_cons_zero, List.set_cons_succ])
          refine wpOrd_last ?_
          refine wpOrd_nil ?_
          have hc5 : Chg (OneB ro) wc w4 := (Chg.refl (OneB ro) wc).drew.trans' hc4
          have hJ4 := hW3.out.at_.del r.txn hm4 hc5
          have HSS : Hid (({ s2 with op := jDel s2.op r.txn } : JS) = s') := hid (by
            have := hJ1.out
            simp only [Prod.mk.injEq] at this
            rw [this.2, hs2.out]
            simp only []
            have h9 : r.txn = ({ t with last := a } : JT).txn := by rw [ht.out]; exact (jGet_txn _ _ _).symm
            rw [h9, jDel_upd])
          have hres2 : Hid (res = (okb && zb)) := hid (by have := hJ1.out; simp only [Prod.mk.injEq] at this; rw [this.1, HZ.out])
          clear q1 c1 hm4 hc4 hs4 hS0
          go_wp2_with fail
          go_ret
          refine ⟨ret_bool hres2.out.symm, E2.filter (fun e => !(JI.key e == r.txn)), ?_⟩
          rw [← HSS.out]
          exact hW3.out.step (hJ4.mono (Nat.le_succ n)) (hc5.mono fun k x => .inl (.inr (.inr (.inl x)))) (fun k hk => .inl (juFp_del k hk))
end Go.Proofs.Ytobmaipjbepphaa
