import Derived.Test.YtobmaipjbepphaaJuC
import Derived.Test.YtobmaipjbepphaaJuE
namespace Go.Proofs.Ytobmaipjbepphaa
open Go.RowKit Go.ChangeMaps Go.MapKept
attribute [local go_sem] Go.Oper.rdK
set_option linter.unusedVariables false
set_option maxHeartbeats 8000000

set_option maxRecDepth 100000 in
theorem own_commit (p ro rb : Nat) (E : List JE) (s : JS) (af : Value) (n : Nat) (a : Int) (b o : Nat) (r : Rec) (v1 v2 : Value) (oq g m : Nat) (PL : List Pg) (w : World) (hJ : JAt w p ro rb E s af n) (hr : RcAt w b o r v1 v2) (hbo : ¬ juFp p ro rb E b)
    (hrk : r.okk) (hv : v1.oneCell' = true ∧ v2.oneCell' = true) (hn : n ≤ 100000000) (hk : r.kind = 3) (haf : af = .func (.func 23) #[] #[.pointer (some ⟨oq, 0, none⟩)])
    (ho : w.heap[oq]? = some (.cells #[.slice (some ⟨g, 0, none⟩) m m] 66 (0, 0))) (hg : w.heap[g]? = some (.cells (pgsC PL).toArray 58 (0, 0))) (hm : PL.length = m) (h8 : m ≤ 8) (hPL : ∀ q ∈ PL, q.data.size ≤ 220)
    (hX : g ≠ oq ∧ g ≠ b ∧ ¬ juFp p ro rb E g ∧ ¬ juFp p ro rb E oq) (res : Bool) (hres : Hid (res = (r.prev == (jGet s.op a r.txn).last))) :
    Calls Try.prog 26 #[.pointer (some ⟨p, 0, none⟩), .int .i64 a, .pointer (some ⟨b, o, none⟩)] w fun e w' => e = .returned (.bool res) ∧ w'.heap[g]? = some (.cells (pgsC (jPuts PL (jGet s.op a r.txn).stand)).toArray 58 (0, 0)) ∧ Chg (fun k => juFp p ro rb E k ∨ k = g) w w' := by
  obtain ⟨c0, c1, c2, c3, c4, c5, c6, c7, c8⟩ := hr.cells
  obtain ⟨p0, p1, p2, p3⟩ := hJ.cells
  clear c2 c3 c5 c6 c7 c8 p0 p2 p3
  have HI : Hid (OwnI w w p ro rb E E s af n) := hid ⟨hJ, Chg.refl _ _, fun k hk => .inl hk⟩
  obtain ⟨t, ht⟩ := named (jGet s.op a r.txn)
  obtain ⟨T, hT⟩ := named (jOld s.op a r.txn)
  have HJ := hid hJ
  have HR := hid hr
  have hbl := hr.lt
  have HBO := hid hbo
  have HAF := hid haf
  have HK := hid hk
  have HO := hid ho
  have HG := hid hg
  have HPL := hid hPL
  have HM := hid hm
  have HXX := hid hX
  clear hk hJ hr hbo haf ho hg hPL hm hX
  go_enter Try.func26, Try.ntmps26
  obtain ⟨om, hom⟩ := named (mget (E.map JI.row) r.txn)
  obtain ⟨tv, htv⟩ := named ((om.map ptrV).getD (.pointer none))
  obtain ⟨ob, hob⟩ := named om.isSome
  have HL := look_any (P := Try.prog) (V := ptrV) Try.underlying55 Try.underlying3 HJ.out.pt.map zero_ptr r.txn true (res := .tuple #[tv, .bool ob]) (by rw [htv.out, hob.out, hom.out]; rfl)
  go_upto_region 1 with fail
  go_cut [7, 8] (fun s7 s8 wx => tv = s7 ∧ .bool ob = s8 ∧ Hid (OwnI w wx p ro rb E E s af n))
  case first =>
    refine wp_region_ord 14 (.rd 0 (.rd 1 (.rd 2 (.rd 3 (.rd 4 (.rd 5 (.rd 6 (.rd 7 (.rd 8 (.rd 9 (.rd 10 (.rd 11 (.rd 12 (.rd 13 (.done))))))))))))))) (fun w' => Same w w' ∧ (Instr.lookup 55 (.map (some ro)) (.int .i64 r.txn) true).run Try.prog w' = .ok (.tuple #[tv, .bool ob]) w') (by kernel_rfl) (by kernel_rfl) (by kernel_rfl) (by kernel_rfl) (by kernel_rfl) (fun _ _ d _ _ h => by cases d <;> exact h) (⟨Same.of (Chg.refl _ _).drew, HL.out _ (Chg.refl NoB w).drew⟩) (fun hS0 => ?_)
    refine wpOrd_rd rfl rfl (by first | decide | simp) (by assumption) (fun w' hw' K hK => by ((try unfold Same at hw'); (try go_split_ands); go_simp; exact hK)) ?_
    refine wpOrd_rd rfl rfl (by first | decide | simp) (by assumption) (fun w' hw' K hK => by ((try unfold Same at hw'); (try go_split_ands); go_simp; exact hK)) ?_
    refine wpOrd_rd rfl rfl (by first | decide | simp) (by assumption) (fun w' hw' K hK => by ((try unfold Same at hw'); (try go_split_ands); go_simp; exact hK)) ?_
    refine wpOrd_rd rfl rfl (by first | decide | simp) (by assumption) (fun w' hw' K hK => by ((try unfold Same at hw'); (try go_split_ands); go_simp; exact hK)) ?_
    refine wpOrd_rd rfl rfl (by first | decide | simp) (by assumption) (fun w' hw' K hK => by ((try unfold Same at hw'); (try go_split_ands); go_simp; exact hK)) ?_
    refine wpOrd_rd rfl rfl (by first | decide | simp) (by assumption) (fun w' hw' K hK => by ((try unfold Same at hw'); (try go_split_ands); go_simp; exact hK)) ?_
    refine wpOrd_rd rfl rfl (by first | decide | simp) (by assumption) (fun w' hw' K hK => by ((try unfold Same at hw'); (try go_split_ands); go_simp; exact hK)) ?_
    refine wpOrd_rd rfl rfl (by first | decide | simp) (by assumption) (fun w' hw' K hK => by ((try unfold Same at hw'); (try go_split_ands); go_simp; exact hK)) ?_
    refine wpOrd_rd rfl rfl (by first | decide | simp) (by assumption) (fun w' hw' K hK => by ((try unfold Same at hw'); (try go_split_ands); go_simp; exact hK)) ?_
    refine wpOrd_rd rfl rfl (by first | decide | simp) (by assumption) (fun w' hw' K hK => by ((try unfold Same at hw'); (try go_split_ands); go_simp; exact hK)) ?_
    refine wpOrd_rd rfl rfl (by first | decide | simp) (by assumption) (fun w' hw' K hK => by ((try unfold Same at hw'); (try go_split_ands); go_simp; exact hK)) ?_
    refine wpOrd_rd rfl rfl (by first | decide | simp) (by assumption) (fun w' hw' K hK => by ((try unfold Same at hw'); (try go_split_ands); go_simp; exact hK)) ?_
    refine wpOrd_rd rfl rfl (by first | decide | simp) (by assumption) (fun w' hw' K hK => by ((try unfold Same at hw'); (try go_split_ands); go_simp; exact hK)) ?_
    refine wpOrd_rd rfl rfl (by first | decide | simp) (by assumption) (fun w' hw' K hK => by ((try unfold Same at hw'); (try go_split_ands); go_simp; exact hK)) ?_
    refine wpOrd_nil ?_
    go_wp2_with fail
    go_meet
    exact ⟨rfl, rfl, HI.out.keep (Chg.refl NoB w).drew⟩
  case rest =>
    obtain ⟨rfl, rfl, hI⟩ := hcut
    clear HI HL c0 c1 c4 p1
    go_upto_if 23 with fail
    go_cut [7] (fun s7 wx => ∃ (i : Nat) (e : JE) (E1 : List JE), s7 = .pointer (some ⟨e.b, 0, none⟩) ∧ Hid (OwnI w wx p ro rb E E1 { s with op := T } af n ∧ E1[i]? = some e ∧ e.s = t))
    case first =>
      have HRc := hI.out.rc HR.out HBO.out
      obtain ⟨c0, c1, c2, c3, c4, c5, c6, c7, c8⟩ := HRc.cells
      obtain ⟨p0, p1, p2, p3⟩ := hI.out.at_.cells
      clear c0 c2 c3 c4 c5 c6 c7 c8 p0 p2 p3
      rcases HJ.out.find r.txn with ⟨h1, h2⟩ | ⟨i, e, h0, h1, h2, h3⟩
      · have hn1 : om = none := by rw [hom.out, h1]
        subst hn1
        have e1 : ob = false := by rw [hob.out]; rfl
        have e2 : tv = .pointer none := by rw [htv.out]; rfl
        subst e1 e2
        have HT := hid (show T = s.op ++ [⟨r.txn, a, 0, []⟩] by rw [hT.out]; unfold jOld; rw [h2]; rfl)
        have Ht := hid (show t = ⟨r.txn, a, 0, []⟩ by rw [ht.out]; unfold jGet; rw [h2]; rfl)
        have HN := hid h1
        clear h1 h2 hom htv hob
        go_upto_region 4 with fail
        refine wp_region_ord 9 (.rd 0 (.rd 1 (.rd 2 (.rd 3 (.rd 4 (.rd 5 (.rd 6 (.rd 7 (.rd 8 (.one 9 (.done))))))))))) (Same wc) (by kernel_rfl) (by kernel_rfl) (by kernel_rfl) (by kernel_rfl) (by kernel_rfl) (fun _ _ d _ _ h => by cases d <;> exact h) (Same.of ((Chg.refl NoB wc).alloc _).drew) (fun hS0 => ?_)
        refine wpOrd_rd rfl rfl (by first | decide | simp) (by assumption) (fun w' hw' K hK => by ((try unfold Same at hw'); (try go_split_ands); go_simp; exact hK)) ?_
        refine wpOrd_rd rfl rfl (by first | decide | simp) (by assumption) (fun w' hw' K hK => by ((try unfold Same at hw'); (try go_split_ands); go_simp; exact hK)) ?_
        refine wpOrd_rd rfl rfl (by first | decide | simp) (by assumption) (fun w' hw' K hK => by ((try unfold Same at hw'); (try go_split_ands); go_simp; exact hK)) ?_
        refine wpOrd_rd rfl rfl (by first | decide | simp) (by assumption) (fun w' hw' K hK => by ((try unfold Same at hw'); (try go_split_ands); go_simp; exact hK)) ?_
        refine wpOrd_rd rfl rfl (by first | decide | simp) (by assumption) (fun w' hw' K hK => by ((try unfold Same at hw'); (try go_split_ands); go_simp; exact hK)) ?_
        refine wpOrd_rd rfl rfl (by first | decide | simp) (by assumption) (fun w' hw' K hK => by ((try unfold Same at hw'); (try go_split_ands); go_simp; exact hK)) ?_
        refine wpOrd_rd rfl rfl (by first | decide | simp) (by assumption) (fun w' hw' K hK => by ((try unfold Same at hw'); (try go_split_ands); go_simp; exact hK)) ?_
        refine wpOrd_rd rfl rfl (by first | decide | simp) (by assumption) (fun w' hw' K hK => by ((try unfold Same at hw'); (try go_split_ands); go_simp; exact hK)) ?_
        refine wpOrd_rd rfl rfl (by first | decide | simp) (by assumption) (fun w' hw' K hK => by ((try unfold Same at hw'); (try go_split_ands); go_simp; exact hK)) ?_
        refine wpOrd_do rfl ?_
        refine step_mapUpdate (hI.out.at_.pt.map.chg ((Chg.refl NoB wc).alloc _) nob).drew rfl _ _ _ 55 3 56 rfl Try.underlying55 Try.underlying3 r.txn wc.heap.size rfl rfl rfl ?_; intro w2 hm2 hc2 hs2
        (try dsimp only [Act.put])
        (try simp only [List.setIfInBounds_toArray, List.set_cons_zero, List.set_cons_succ])
        refine wpOrd_last ?_
        refine wpOrd_nil ?_
        go_wp2_with fail
        go_meet
        have hcc : Chg (OneB ro) wc w2 := ((Chg.refl (OneB ro) wc).alloc _).drew.trans' hc2
        have hbk := hc2.heap (show ((wc.alloc (.cells #[.int .i64 r.txn, .int .i64 a, .int .i64 0, .slice none 0 0] 65)).drew).heap[wc.heap.size]? = _ from blk_new _ _) (fun x => by have := hI.out.at_.pt.map.lt; have h' : wc.heap.size = ro := x; omega)
        have hme : JI.ok w2 ⟨⟨r.txn, a, 0, []⟩, wc.heap.size, .slice none 0 0⟩ := ⟨hbk, StandAt.nil⟩
        have hpu := hI.out.at_.push (w' := w2) (e := ⟨⟨r.txn, a, 0, []⟩, wc.heap.size, .slice none 0 0⟩) (by rw [mput_new HN.out] at hm2; exact hm2) hcc (Nat.le_refl _) rfl rfl hme
        refine ⟨E.length, ⟨⟨r.txn, a, 0, []⟩, wc.heap.size, .slice none 0 0⟩, E ++ [⟨⟨r.txn, a, 0, []⟩, wc.heap.size, .slice none 0 0⟩], rfl, hI.out.step (by rw [HT.out]; exact hpu) (hcc.mono fun i x => .inl (.inr (.inr (.inl x)))) (juFp_push (Nat.le_refl _) rfl), by simp, Ht.out.symm⟩
      · have hn1 : om = some e.b := by rw [hom.out, h2]
        subst hn1
        have e1 : ob = true := by rw [hob.out]; rfl
        have e2 : tv = .pointer (some ⟨e.b, 0, none⟩) := by rw [htv.out]; rfl
        subst e1 e2
        have HT := hid (show T = s.op by rw [hT.out]; unfold jOld; rw [h3]; rfl)
        have Ht := hid (show t = e.s by rw [ht.out]; unfold jGet; rw [h3]; rfl)
        have HE := hid h0
        clear h0 h1 h2 h3 hom htv hob
        go_wp2_with fail
        go_meet
        exact ⟨i, e, E, rfl, by rw [HT.out]; exact hI.out, HE.out, Ht.out.symm⟩
    case rest =>
      obtain ⟨i, e, E1, rfl, hE⟩ := hcut
      clear hI hom htv hob
      have HRc := hE.out.1.rc HR.out HBO.out
      obtain ⟨c0, c1, c2, c3, c4, c5, c6, c7, c8⟩ := HRc.cells
      have hem := List.mem_of_getElem? hE.out.2.1
      have hek := hE.out.1.at_.pt.ok e hem
      have e2 : wc.cell? ⟨e.b, 2, none⟩ = some (.int .i64 e.s.last) := by rw [cell_blk hek.1]; rfl
      have f2 : wc.frozen? ⟨e.b, 2, none⟩ = false := frozen_blk hek.1 2
      obtain ⟨okb, hokb⟩ := named (r.prev == e.s.last)
      have hok' := hokb.out.symm
      have hen := hid hem
      have hekH := hid hek
      clear c0 c1 c2 c3 c5 c6 c7 c8 hem hek HRc
      go_upto_region 5 with fail
      refine wp_region_ord 11 (.rd 0 (.rd 1 (.rd 2 (.rd 3 (.rd 4 (.rd 5 (.rd 6 (.rd 7 (.rd 8 (.rd 9 (.rd 10 (.done)))))))))))) (Same wc) (by kernel_rfl) (by kernel_rfl) (by kernel_rfl) (by kernel_rfl) (by kernel_rfl) (fun _ _ d _ _ h => by cases d <;> exact h) (Same.of (Chg.refl _ _).drew) (fun hS0 => ?_)
      refine wpOrd_rd rfl rfl (by first | decide | simp) (by assumption) (fun w' hw' K hK => by ((try unfold Same at hw'); (try go_split_ands); go_simp; exact hK)) ?_
      refine wpOrd_rd rfl rfl (by first | decide | simp) (by assumption) (fun w' hw' K hK => by ((try unfold Same at hw'); (try go_split_ands); go_simp; exact hK)) ?_
      refine wpOrd_rd rfl rfl (by first | decide | simp) (by assumption) (fun w' hw' K hK => by ((try unfold Same at hw'); (try go_split_ands); go_simp; exact hK)) ?_
      refine wpOrd_rd rfl rfl (by first | decide | simp) (by assumption) (fun w' hw' K hK => by ((try unfold Same at hw'); (try go_split_ands); go_simp; exact hK)) ?_
      refine wpOrd_rd rfl rfl (by first | decide | simp) (by assumption) (fun w' hw' K hK => by ((try unfold Same at hw'); (try go_split_ands); go_simp; exact hK)) ?_
      refine wpOrd_rd rfl rfl (by first | decide | simp) (by assumption) (fun w' hw' K hK => by ((try unfold Same at hw'); (try go_split_ands); go_simp; exact hK)) ?_
      refine wpOrd_rd rfl rfl (by first | decide | simp) (by assumption) (fun w' hw' K hK => by ((try unfold Same at hw'); (try go_split_ands); go_simp; exact hK)) ?_
      refine wpOrd_rd rfl rfl (by first | decide | simp) (by assumption) (fun w' hw' K hK => by ((try unfold Same at hw'); (try go_split_ands); go_simp; exact hK)) ?_
      refine wpOrd_rd rfl rfl (by first | decide | simp) (by assumption) (fun w' hw' K hK => by ((try unfold Same at hw'); (try go_split_ands); go_simp; exact hK)) ?_
      refine wpOrd_rd rfl rfl (by first | decide | simp) (by assumption) (fun w' hw' K hK => by ((try unfold Same at hw'); (try go_split_ands); go_simp; exact hK)) ?_
      refine wpOrd_rd rfl rfl (by first | decide | simp) (by assumption) (fun w' hw' K hK => by ((try unfold Same at hw'); (try go_split_ands); go_simp; exact hK)) ?_
      refine wpOrd_nil ?_
      have e2' : (World.drew wc).cell? ⟨e.b, 2, none⟩ = some (.int .i64 e.s.last) := e2
      have f2' : (World.drew wc).frozen? ⟨e.b, 2, none⟩ = false := f2
      clear e2 f2 c4 hok'
      go_upto_region 7 with fail
      have hcc : Chg (OneB e.b) wc ((World.drew wc).setCell ⟨e.b, 2, none⟩ (.int .i64 a)) := (Chg.refl (OneB e.b) wc).drew.setCell (p := ⟨e.b, 2, none⟩) (.inl (OneB.self _)) _
      have hown := hE.out.1.at_.pt.own e hen.out
      have hek2 : JI.ok ((World.drew wc).setCell ⟨e.b, 2, none⟩ (.int .i64 a)) { e with s := { e.s with last := a } } := ⟨by have := blk_setCell (w := World.drew wc) hekH.out.1 2 (.int .i64 a); simpa [JE.cs] using this, hekH.out.2.keep hcc (fun k hk x => by have h' : k = e.b := x; subst h'; exact hown.1 hk)⟩
      have hJ2 := hE.out.1.at_.set (e' := { e with s := { e.s with last := a } }) hE.out.2.1 rfl rfl (hcc.mono fun k x => .inl (.inl x)) hek2 (fun k hk => .inl hk) (hE.out.1.at_.ct.1 e.s (by rw [← hE.out.1.at_.es]; exact List.mem_map.2 ⟨e, hen.out, rfl⟩))
      obtain ⟨E2, hE2⟩ := named (E1.set i { e with s := { e.s with last := a } })
      obtain ⟨s2, hs2⟩ := named ({ s with op := jUpd T { t with last := a } } : JS)
      have hi2 : Hid (E2[i]? = some { e with s := { e.s with last := a } }) := hid (by rw [hE2.out]; have := (List.getElem?_eq_some_iff.1 hE.out.2.1).1; simp [this])
      refine wp_gen (fun W => Hid (OwnI w W p ro rb E E2 s2 af n)) (hid (by rw [hE2.out, hs2.out]; exact hE.out.1.step (by rw [← hE.out.2.2]; exact hJ2) (hcc.mono fun k x => by have h' : k = e.b := x; subst h'; exact .inl (.inr (.inr (.inr ⟨e, hen.out, .inl rfl⟩)))) (juFp_set hE.out.2.1 rfl (fun k hk => .inl hk)))) ?_
      intro W hW
      have hte := hid hE.out.2.2
      have hsp : Hid (s2.pg = s.pg) := hid (by rw [hs2.out])
      have hse : Hid (e.s.stand.length ≤ n) := hid (hE.out.1.at_.ct.1 e.s (by rw [← hE.out.1.at_.es]; exact List.mem_map.2 ⟨e, hen.out, rfl⟩))
      clear hcc hown hek2 hJ2 hE e2' f2' hen hekH hE2
      have hRc := hW.out.rc HR.out HBO.out
      have c0 := hRc.cells.1
      have hres2 : Hid (res = okb) := hid (by rw [hres.out, hokb.out, hte.out, ht.out])
      rw [HK.out] at c0
      obtain ⟨p0, p1, p2, p3⟩ := hW.out.at_.cells
      rw [HAF.out] at p3
      have hem := List.mem_of_getElem? hi2.out
      have hek := hW.out.at_.pt.ok _ hem
      have hgl := lt_of_block HG.out
      have hol := lt_of_block HO.out
      have hgE := hW.out.nb HXX.out.2.2.1 hgl
      have hoE := hW.out.nb HXX.out.2.2.2 hol
      have HOW := hid (hW.out.chg.heap HO.out HXX.out.2.2.2)
      have HGW := hid (hW.out.chg.heap HG.out HXX.out.2.2.1)
      have hg1 : g ≠ e.b := fun x => hgE (.inr (.inr (.inr ⟨_, hem, .inl x⟩)))
      have hg2 : Hid (¬ OwnB e.mv g) := hid (fun x => hgE (.inr (.inr (.inr ⟨_, hem, .inr x⟩))))
      have hg3 : g ≠ ro := fun x => hgE (.inr (.inr (.inl x)))
      have HX0 := hid HXX.out.1
      clear p0 p2 hem
      go_upto_region 20 with (go_at_call 23; refine (pages1_calls ⟨⟨e.s.txn, e.s.first, a, e.s.stand⟩, e.b, e.mv⟩ oq g m PL W hek HOW.out HGW.out HM.out h8 HPL.out HX0.out hg1 hg2.out).mono ?_; rintro en w3 ⟨rfl, hb3, hc3⟩)
      have hJ3 := hid (hW.out.at_.keep hc3 (fun k hk x => hgE (by have h' : k = g := hk; rw [h'] at x; exact x)))
      have hRc3 := hRc.keep hc3 (fun x => HXX.out.2.1 (Eq.symm x))
      have c1 := hRc3.cells.2.1
      obtain ⟨q0, q1, q2, q3⟩ := hJ3.out.cells
      have HB3 := hid hb3
      have HC3 := hid hc3
      clear hRc c0 p1 p3 q0 q2 q3 hRc3 hb3 hc3 hek
      refine wp_region_ord 8 (.rd 0 (.rd 1 (.rd 2 (.rd 3 (.rd 4 (.rd 5 (.rd 6 (.rd 7 (.one 8 (.done)))))))))) (Same w3) (by kernel_rfl) (by kernel_rfl) (by kernel_rfl) (by kernel_rfl) (by kernel_rfl) (fun _ _ d _ _ h => by cases d <;> exact h) (Same.of (Chg.refl _ _).drew) (fun hS0 => ?_)
      refine wpOrd_rd rfl rfl (by first | decide | simp) (by assumption) (fun w' hw' K hK => by ((try unfold Same at hw'); (try go_split_ands); go_simp; exact hK)) ?_
      refine wpOrd_rd rfl rfl (by first | decide | simp) (by assumption) (fun w' hw' K hK => by ((try unfold Same at hw'); (try go_split_ands); go_simp; exact hK)) ?_
      refine wpOrd_rd rfl rfl (by first | decide | simp) (by assumption) (fun w' hw' K hK => by ((try unfold Same at hw'); (try go_split_ands); go_simp; exact hK)) ?_
      refine wpOrd_rd rfl rfl (by first | decide | simp) (by assumption) (fun w' hw' K hK => by ((try unfold Same at hw'); (try go_split_ands); go_simp; exact hK)) ?_
      refine wpOrd_rd rfl rfl (by first | decide | simp) (by assumption) (fun w' hw' K hK => by ((try unfold Same at hw'); (try go_split_ands); go_simp; exact hK)) ?_
      refine wpOrd_rd rfl rfl (by first | decide | simp) (by assumption) (fun w' hw' K hK => by ((try unfold Same at hw'); (try go_split_ands); go_simp; exact hK)) ?_
      refine wpOrd_rd rfl rfl (by first | decide | simp) (by assumption) (fun w' hw' K hK => by ((try unfold Same at hw'); (try go_split_ands); go_simp; exact hK)) ?_
      refine wpOrd_rd rfl rfl (by first | decide | simp) (by assumption) (fun w' hw' K hK => by ((try unfold Same at hw'); (try go_split_ands); go_simp; exact hK)) ?_
      refine wpOrd_do rfl ?_
      refine step_delete hJ3.out.pt.map.drew rfl _ _ 55 3 56 rfl Try.underlying55 Try.underlying3 r.txn rfl rfl ?_; intro w4 hm4 hc4 hs4
      (try dsimp only [Act.put])
      (try simp only [List.setIfInBounds_toArray, List.set_cons_zero, List.set_cons_succ])
      refine wpOrd_last ?_
      refine wpOrd_nil ?_
      have hc5 : Hid (Chg (OneB ro) w3 w4) := hid ((Chg.refl (OneB ro) w3).drew.trans' hc4)
      clear q1 c1 hm4 hc4 hs4 hS0
      go_wp2_with fail
      go_ret
      refine ⟨ret_bool hres2.out.symm, ?_, ?_⟩
      · have := hc5.out.heap HB3.out hg3
        rw [hte.out, ht.out] at this
        exact this
      · exact ((hW.out.chg.mono (T := fun k => juFp p ro rb E k ∨ k = g) fun k hk => .inl (.inl hk)).trans' (HC3.out.mono fun k hk => .inl (.inr hk))).trans' (hc5.out.mono fun k hk => .inl (.inl (.inr (.inr (.inl hk)))))

set_option maxRecDepth 100000 in
theorem entry_commit (p ro rb : Nat) (E : List JE) (s : JS) (af : Value) (n : Nat) (b o : Nat) (x : Ent) (v1 v2 : Value) (oq g m : Nat) (PL : List Pg) (w : World) (hJ : JAt w p ro rb E s af n) (hr : EtAt w b o x v1 v2) (hbo : ¬ juFp p ro rb E b)
    (hrk : x.r.okk) (hv : v1.oneCell' = true ∧ v2.oneCell' = true) (hn : n ≤ 100000000) (hk : x.r.kind = 3) (haf : af = .func (.func 23) #[] #[.pointer (some ⟨oq, 0, none⟩)])
    (ho : w.heap[oq]? = some (.cells #[.slice (some ⟨g, 0, none⟩) m m] 66 (0, 0))) (hg : w.heap[g]? = some (.cells (pgsC PL).toArray 58 (0, 0))) (hm : PL.length = m) (h8 : m ≤ 8) (hPL : ∀ q ∈ PL, q.data.size ≤ 220)
    (hX : g ≠ oq ∧ g ≠ b ∧ ¬ juFp p ro rb E g ∧ ¬ juFp p ro rb E oq) (res : Bool) (hres : Hid (res = ((x.r.prev == (jGet s.op x.at_ x.r.txn).last) && decide (s.last < x.at_)))) :
    Calls Try.prog 17 #[.pointer (some ⟨p, 0, none⟩), .pointer (some ⟨b, o, none⟩)] w fun e w' => e = .returned (.bool res) ∧ Hid (w'.heap[g]? = some (.cells (pgsC (jPuts PL (jGet s.op x.at_ x.r.txn).stand)).toArray 58 (0, 0)) ∧ Chg (fun k => juFp p ro rb E k ∨ k = g) w w') := by
  have HI : Hid (OwnI w w p ro rb E E s af n) := hid ⟨hJ, Chg.refl _ _, fun k hk => .inl hk⟩
  obtain ⟨p0, p1, p2, p3⟩ := hJ.cells
  have c0 := hr.1
  have f0 : w.frozen? ⟨p, 0, none⟩ = false := frozen_blk hJ.blk 0
  have hJb := hid hJ.blk
  obtain ⟨okb, hokb⟩ := named (decide (s.last < x.at_))
  have hok' := hokb.out.symm
  have HR := hid hr
  have HBO := hid hbo
  have HAF := hid haf
  have hbl := hr.2.lt
  have HO := hid ho
  have HG := hid hg
  have HXX := hid hX
  have HK := hid hk
  clear hJ hr hbo p1 p2 p3 haf ho hg hX hk
  go_enter Try.func17, Try.ntmps17
  go_upto_region 1 with fail
  refine wp_region_ord 10 (.rd 0 (.rd 1 (.rd 2 (.rd 3 (.rd 4 (.rd 5 (.rd 6 (.rd 7 (.rd 8 (.rd 9 (.done))))))))))) (Same w) (by kernel_rfl) (by kernel_rfl) (by kernel_rfl) (by kernel_rfl) (by kernel_rfl) (fun _ _ d _ _ h => by cases d <;> exact h) (Same.of (Chg.refl _ _).drew) (fun hS0 => ?_)
  refine wpOrd_rd rfl rfl (by first | decide | simp) (by assumption) (fun w' hw' K hK => by ((try unfold Same at hw'); (try go_split_ands); go_simp; exact hK)) ?_
  refine wpOrd_rd rfl rfl (by first | decide | simp) (by assumption) (fun w' hw' K hK => by ((try unfold Same at hw'); (try go_split_ands); go_simp; exact hK)) ?_
  refine wpOrd_rd rfl rfl (by first | decide | simp) (by assumption) (fun w' hw' K hK => by ((try unfold Same at hw'); (try go_split_ands); go_simp; exact hK)) ?_
  refine wpOrd_rd rfl rfl (by first | decide | simp) (by assumption) (fun w' hw' K hK => by ((try unfold Same at hw'); (try go_split_ands); go_simp; exact hK)) ?_
  refine wpOrd_rd rfl rfl (by first | decide | simp) (by assumption) (fun w' hw' K hK => by ((try unfold Same at hw'); (try go_split_ands); go_simp; exact hK)) ?_
  refine wpOrd_rd rfl rfl (by first | decide | simp) (by assumption) (fun w' hw' K hK => by ((try unfold Same at hw'); (try go_split_ands); go_simp; exact hK)) ?_
  refine wpOrd_rd rfl rfl (by first | decide | simp) (by assumption) (fun w' hw' K hK => by ((try unfold Same at hw'); (try go_split_ands); go_simp; exact hK)) ?_
  refine wpOrd_rd rfl rfl (by first | decide | simp) (by assumption) (fun w' hw' K hK => by ((try unfold Same at hw'); (try go_split_ands); go_simp; exact hK)) ?_
  refine wpOrd_rd rfl rfl (by first | decide | simp) (by assumption) (fun w' hw' K hK => by ((try unfold Same at hw'); (try go_split_ands); go_simp; exact hK)) ?_
  refine wpOrd_rd rfl rfl (by first | decide | simp) (by assumption) (fun w' hw' K hK => by ((try unfold Same at hw'); (try go_split_ands); go_simp; exact hK)) ?_
  refine wpOrd_nil ?_
  have p0' : (World.drew w).cell? ⟨p, 0, none⟩ = some (.int .i64 s.last) := p0
  have c0' : (World.drew w).cell? ⟨b, o, none⟩ = some (.int .i64 x.at_) := c0
  have f0' : (World.drew w).frozen? ⟨p, 0, none⟩ = false := f0
  clear p0 c0 f0 hok'
  obtain ⟨mx, hmx⟩ := named (max s.last x.at_)
  have hmx' : (if s.last < x.at_ then x.at_ else s.last) = mx := by rw [hmx.out]; split <;> omega
  go_upto_region 2 with fail
  refine wp_region_ord 12 (.rd 0 (.rd 1 (.rd 2 (.rd 3 (.rd 4 (.rd 5 (.rd 6 (.rd 7 (.rd 8 (.rd 9 (.rd 10 (.rd 11 (.one 12 (.done)))))))))))))) (Same (World.drew w)) (by kernel_rfl) (by kernel_rfl) (by kernel_rfl) (by kernel_rfl) (by kernel_rfl) (fun _ _ d _ _ h => by cases d <;> exact h) (Same.of (Chg.refl _ _).drew) (fun hS0 => ?_)
  refine wpOrd_rd rfl rfl (by first | decide | simp) (by assumption) (fun w' hw' K hK => by ((try unfold Same at hw'); (try go_split_ands); go_simp; exact hK)) ?_
  refine wpOrd_rd rfl rfl (by first | decide | simp) (by assumption) (fun w' hw' K hK => by ((try unfold Same at hw'); (try go_split_ands); go_simp; exact hK)) ?_
  refine wpOrd_rd rfl rfl (by first | decide | simp) (by assumption) (fun w' hw' K hK => by ((try unfold Same at hw'); (try go_split_ands); go_simp; exact hK)) ?_
  refine wpOrd_rd rfl rfl (by first | decide | simp) (by assumption) (fun w' hw' K hK => by ((try unfold Same at hw'); (try go_split_ands); go_simp; exact hK)) ?_
  refine wpOrd_rd rfl rfl (by first | decide | simp) (by assumption) (fun w' hw' K hK => by ((try unfold Same at hw'); (try go_split_ands); go_simp; exact hK)) ?_
  refine wpOrd_rd rfl rfl (by first | decide | simp) (by assumption) (fun w' hw' K hK => by ((try unfold Same at hw'); (try go_split_ands); go_simp; exact hK)) ?_
  refine wpOrd_rd rfl rfl (by first | decide | simp) (by assumption) (fun w' hw' K hK => by ((try unfold Same at hw'); (try go_split_ands); go_simp; exact hK)) ?_
  refine wpOrd_rd rfl rfl (by first | decide | simp) (by assumption) (fun w' hw' K hK => by ((try unfold Same at hw'); (try go_split_ands); go_simp; exact hK)) ?_
  refine wpOrd_rd rfl rfl (by first | decide | simp) (by assumption) (fun w' hw' K hK => by ((try unfold Same at hw'); (try go_split_ands); go_simp; exact hK)) ?_
  refine wpOrd_rd rfl rfl (by first | decide | simp) (by assumption) (fun w' hw' K hK => by ((try unfold Same at hw'); (try go_split_ands); go_simp; exact hK)) ?_
  refine wpOrd_rd rfl rfl (by first | decide | simp) (by assumption) (fun w' hw' K hK => by ((try unfold Same at hw'); (try go_split_ands); go_simp; exact hK)) ?_
  refine wpOrd_rd rfl rfl (by first | decide | simp) (by assumption) (fun w' hw' K hK => by ((try unfold Same at hw'); (try go_split_ands); go_simp; exact hK)) ?_
  refine wpOrd_do rfl ?_
  refine step_store1 (v := .int .i64 mx) rfl rfl p 0 rfl rfl rfl rfl (cs := juC s.last ro s.pg rb af) (show (World.drew (World.drew w)).heap[p]? = _ from hJb.out) (by simp [juC]) (by kernel_rfl) ?_; intro w5 hb5 hc5 hs5
  (try dsimp only [Act.put])
  (try simp only [List.setIfInBounds_toArray, List.set_cons_zero, List.set_cons_succ])
  refine wpOrd_last ?_
  refine wpOrd_nil ?_
  obtain ⟨s1, hs1⟩ := named ({ s with last := mx } : JS)
  have hcW : Chg (OneB p) w w5 := ((Chg.refl (OneB p) w).drew.drew).trans' hc5
  have hW : Hid (OwnI w w5 p ro rb E E s1 af n) := hid (by
    rw [hs1.out]
    exact HI.out.step (HI.out.at_.own (l := mx) (pg := s.pg) hcW (by simpa [juC] using hb5) HI.out.at_.pl HI.out.at_.pr) (hcW.mono fun k hk => .inl (.inl hk)) (fun k hk => .inl hk))
  have hE5 := HR.out.keep hW.out.chg HBO.out
  have d0 := hE5.1
  have hE52 := hE5.2
  obtain ⟨d1, _, _, _, _, _, d7, _, _⟩ := hE5.2.cells
  clear hb5 hc5 hs5 hcW hS0 p0' c0' f0' hmx'
  rw [HK.out] at d1
  obtain ⟨ob2, hob⟩ := named (x.r.prev == (jGet s1.op x.at_ x.r.txn).last)
  have hop : Hid (s1.op = s.op) := hid (by rw [hs1.out])
  have hgl := lt_of_block HG.out
  have hol := lt_of_block HO.out
  have hbE := hW.out.nb HBO.out hbl
  have hXW : Hid (g ≠ oq ∧ g ≠ b ∧ ¬ juFp p ro rb E g ∧ ¬ juFp p ro rb E oq) := HXX
  have HOW := hid ((hW.out.keep (Chg.refl NoB w5).drew).chg.heap HO.out HXX.out.2.2.2)
  have HGW := hid ((hW.out.keep (Chg.refl NoB w5).drew).chg.heap HG.out HXX.out.2.2.1)
  have HEW := hid (hE52.keep (Chg.refl NoB w5).drew nob)
  have HJW := hid (hW.out.at_.keep0 (Chg.refl NoB w5).drew)
  have HS : Hid (∀ w', Chg (fun k => juFp p ro rb E k ∨ k = g) w5 w' → w'.cell? ⟨b, o, none⟩ = some (.int .i64 x.at_)) := hid (fun w' hc => hc.cell d0 (fun hh => hh.elim hbE (fun h => hXW.out.2.1 h.symm)))
  clear d7 hE5 hE52
  cases ob2
  all_goals
    go_upto_region 8 with fail
    refine wp_region_ord 13 (.rd 0 (.rd 1 (.rd 2 (.rd 3 (.rd 4 (.rd 5 (.rd 6 (.rd 7 (.one 8 (.rd 9 (.rd 10 (.rd 11 (.rd 12 (.done)))))))))))))) (fun w' => w'.cell? ⟨b, o, none⟩ = some (.int .i64 x.at_)) (by kernel_rfl) (by kernel_rfl) (by kernel_rfl) (by kernel_rfl) (by kernel_rfl) (fun _ _ d _ _ h => by cases d <;> exact h) (HS.out _ (Chg.refl _ w5).drew) (fun hS0 => ?_)
    refine wpOrd_rd rfl rfl (by first | decide | simp) (by assumption) (fun w' hw' K hK => by ((try unfold Same at hw'); (try go_split_ands); go_simp; exact hK)) ?_
    refine wpOrd_rd rfl rfl (by first | decide | simp) (by assumption) (fun w' hw' K hK => by ((try unfold Same at hw'); (try go_split_ands); go_simp; exact hK)) ?_
    refine wpOrd_rd rfl rfl (by first | decide | simp) (by assumption) (fun w' hw' K hK => by ((try unfold Same at hw'); (try go_split_ands); go_simp; exact hK)) ?_
    refine wpOrd_rd rfl rfl (by first | decide | simp) (by assumption) (fun w' hw' K hK => by ((try unfold Same at hw'); (try go_split_ands); go_simp; exact hK)) ?_
    refine wpOrd_rd rfl rfl (by first | decide | simp) (by assumption) (fun w' hw' K hK => by ((try unfold Same at hw'); (try go_split_ands); go_simp; exact hK)) ?_
    refine wpOrd_rd rfl rfl (by first | decide | simp) (by assumption) (fun w' hw' K hK => by ((try unfold Same at hw'); (try go_split_ands); go_simp; exact hK)) ?_
    refine wpOrd_rd rfl rfl (by first | decide | simp) (by assumption) (fun w' hw' K hK => by ((try unfold Same at hw'); (try go_split_ands); go_simp; exact hK)) ?_
    refine wpOrd_rd rfl rfl (by first | decide | simp) (by assumption) (fun w' hw' K hK => by ((try unfold Same at hw'); (try go_split_ands); go_simp; exact hK)) ?_
    refine wpOrd_do rfl ?_
    refine wpList_plain rfl (fun K hK => ?_)
    go_simp
    ((with_reducible refine (own_commit p ro rb E s1 af n x.at_ b (o + 1) x.r v1 v2 oq g m PL _ HJW.out HEW.out hbE hrk hv hn HK.out HAF.out HOW.out HGW.out hm h8 hPL hXW.out _ hob).mono ?_); rintro en w6 ⟨rfl, hb6, hc6⟩)
    refine hK _ _ ?_
    clear hK K
    have HB6 := hid hb6; have HC6 := hid hc6
    (try dsimp only [Act.put])
    (try simp only [List.setIfInBounds_toArray, List.set_cons_zero, List.set_cons_succ])
    refine wpOrd_done (HS.out _ ((Chg.refl _ w5).drew.trans' hc6)) (fun hS1 => ?_)
    refine wpOrd_rd rfl rfl (by first | decide | simp) (by assumption) (fun w' hw' K hK => by ((try unfold Same at hw'); (try go_split_ands); go_simp; exact hK)) ?_
    refine wpOrd_rd rfl rfl (by first | decide | simp) (by assumption) (fun w' hw' K hK => by ((try unfold Same at hw'); (try go_split_ands); go_simp; exact hK)) ?_
    refine wpOrd_rd rfl rfl (by first | decide | simp) (by assumption) (fun w' hw' K hK => by ((try unfold Same at hw'); (try go_split_ands); go_simp; exact hK)) ?_
    refine wpOrd_rd rfl rfl (by first | decide | simp) (by assumption) (fun w' hw' K hK => by ((try unfold Same at hw'); (try go_split_ands); go_simp; exact hK)) ?_
    refine wpOrd_nil ?_
    clear hS0 hS1 hb6 hc6
    go_wp2_with fail
    go_ret
    refine ⟨ret_bool (by rw [hres.out, ← hop.out, ← hob.out, ← hokb.out]; simp), hid ⟨by have := HB6.out; rw [hop.out] at this; exact this, ?_⟩⟩
    exact ((hW.out.keep (Chg.refl NoB w5).drew).chg.mono (T := fun k => juFp p ro rb E k ∨ k = g) fun k hk => .inl (.inl hk)).trans' HC6.out
end Go.Proofs.Ytobmaipjbepphaa
