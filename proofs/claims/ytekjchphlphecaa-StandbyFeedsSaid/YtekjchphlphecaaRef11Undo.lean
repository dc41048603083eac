import Derived.Test.YtekjchphlphecaaA6
import Derived.Test.YtekjchphlphecaaA1
namespace Go.Proofs.Ytekjchphlphecaa
open Go.RowKit Go.ChangeMaps
set_option linter.unusedVariables false
set_option linter.unusedSimpArgs false

theorem slRec : SlT Try.prog 82 55 (.agg #[.int .i64 0, .int .i64 0, .int .i64 0, .int .i64 0, .int .i64 0, .int .i64 0, .int .i64 0, .string ⟨#[]⟩, .string ⟨#[]⟩, .slice none 0 0, .slice none 0 0]) 11 136 := ⟨Try.underlying82, by kernel_rfl, rfl, by omega⟩

/-- A list of records of one's own, without tables, and an error. -/
def RecsErr (w w' : World) (e : Ending) (x : List Rec × Int) : Prop := ∃ v, e = .returned (.tuple #[v, .int .i64 x.2]) ∧ w'.ownsRow w.heap.size 55 11 v x.1.length (x.1.flatMap Rec.csn) ∧ Chg NoB w w'

theorem RecsErr.nil {w w' : World} {x : List Rec × Int} {er : Int} (hx : x = ([], er)) (hc : Chg NoB w w') {e : Ending} (he : e = .returned (.tuple #[.slice none 0 0, .int .i64 er])) : RecsErr w w' e x := by
  subst hx; exact ⟨_, he, World.ownsRow_nil _ _ _ _, hc⟩
theorem RecsErr.ok {txn : Int} {w w' : World} {x : List Rec × Int} {pre : List (Int × Rec)} {v : Value} (hx : x = (pre.map (fun y => undoRec txn y.2), 0)) (ho : w'.ownsRow w.heap.size 55 11 v pre.length (pre.flatMap (fun y => (undoRec txn y.2).csn))) (hc : Chg NoB w w') {e : Ending} (he : e = .returned (.tuple #[v, .int .i64 0])) : RecsErr w w' e x := by
  subst hx
  refine ⟨v, he, ?_, hc⟩
  simp only [List.length_map, List.flatMap_map]
  exact ho

set_option maxRecDepth 100000 in
set_option maxHeartbeats 8000000 in
theorem ref11Undo (v : Value) (l : List Ent) (txn last stop : Int) (w : World) (hv : Ents w v l) (hl : l.length ≤ 1000000) :
    Calls Try.prog 42 #[v, .int .i64 txn, .int .i64 last, .int .i64 stop] w fun e w' => RecsErr w w' e (undoOf l txn last stop) := by
  have HV := hid hv
  have hform : ∃ a n c, v = .slice a n c := by obtain ⟨a, c, rfl, _⟩ := hv; exact ⟨_, _, _, rfl⟩
  obtain ⟨a, n, c, rfl⟩ := hform
  clear hv
  obtain ⟨ri, hri⟩ := named (risesB l)
  cases ri
  · have hx := hid (orErr_form (x := walk l txn (goTo stop) true last) (f := fun x => (x.filter (fun y => y.2.kind == 1)).map (fun y => undoRec txn y.2)) hri.out.symm)
    go_enter Try.func42, Try.ntmps42
    go_wp2_with (go_at_call 23; refine (rises_calls _ l _ HV.out _ hri).mono ?_; rintro e w' ⟨rfl, n, rfl⟩)
    go_ret2
    exact RecsErr.nil hx.out ((Chg.refl _ _).drewN _) rfl
  · go_enter Try.func42, Try.ntmps42
    go_wp2_with (go_at_call 23; refine (rises_calls _ l _ HV.out _ hri).mono ?_; rintro e w' ⟨rfl, n, rfl⟩)
    go_loopw [2, 10] (fun p o wr => ∃ (cur : Int) (pre : List (Int × Rec)), p = .int .i64 cur ∧ Hid (Half l txn (goTo stop) true last cur pre) ∧ Hid (wr.ownsRow w.heap.size 55 11 o (stands pre).length ((stands pre).flatMap (fun y => (undoRec txn y.2).csn))) ∧ Hid (Chg NoB w wr)) (fun p _ _ => cntLe l (intOf p))
    case atStart => exact ⟨last, [], rfl, Half.start, World.ownsRow_nil _ _ _ _, (Chg.refl _ _).drewN _⟩
    case round =>
      obtain ⟨cur, pre, rfl, HH, HO, hc⟩ := hrel
      obtain ⟨ao, co, rfl⟩ := ownsForm HO.out
      cases hz : (cur != 0)
      · have hst := hid (orErr_ok (f := fun x => (x.filter (fun y => y.2.kind == 1)).map (fun y => undoRec txn y.2)) hri.out.symm (HH.out.stop (by simp [goTo, hz])))
        go_wp2
        go_ret2
        exact RecsErr.ok (pre := stands pre) hst.out HO.out hc.out rfl
      · by_cases hs : stop < cur
        · have hz : goTo stop cur = true := by simp [goTo, hz, hs]
          have hv2 := hid (HV.out.mono hc.out)
          cases he : entAt l cur with
          | none =>
            have HE := hid he
            have hst := hid (orErr_err (f := fun x => (x.filter (fun y => y.2.kind == 1)).map (fun y => undoRec txn y.2)) hri.out.symm (HH.out.none hz he) (by decide))
            clear he
            go_wp2_with (first
              | (go_at_call 57; refine (ref11At _ l _ _ _ hv2.out).mono ?_; rintro e w' ⟨ha, hc'⟩; obtain rfl := ha.none HE.out; clear ha; replace hc' := hid hc')
              | ((fail_if_success (fail_if_success (with_reducible change wpList _ _ _ (Oper.mk _ (.store 55 _ _) _ _ _ _ :: _) _ _))); refine step_storeRow rfl rfl w'.heap.size rfl rfl (blk_new _ _) (by kernel_rfl) rfl (by simp [Value.oneCell']) ?_; intro w2 hb2 hc2 hs2))
            go_ret2
            exact RecsErr.nil hst.out (((hc.out.trans' hc'.out).alloc _).trans hc2 (fun i hi => by cases hi; exact .inr (hc.out.trans' hc'.out).size)) rfl
          | some r =>
            have HE := hid he
            clear he
            cases hb : recBad txn cur r
            · have HH2 := hid (HH.out.step hz HE.out hb)
              have hlen : (stands pre).length < l.length := Nat.lt_of_le_of_lt (List.length_filter_le _ _) (HH.out.len hz HE.out hb)
              have hcnt := hid (cnt_lt HE.out (next_lt (skips := true) hb))
              have HB := hid hb
              clear hb
              cases hk : (r.kind == 1)
              · go_wp2_with (first
                  | (go_at_call 57; refine (ref11At _ l _ _ _ hv2.out).mono ?_; rintro e w' ⟨ha, hc'⟩; obtain ⟨a1, n1, c1, a2, n2, c2, ht, rfl⟩ := ha.good HE.out HB.out; clear ha; replace hc' := hid hc')
                  | ((fail_if_success (fail_if_success (with_reducible change wpList _ _ _ (Oper.mk _ (.store 55 _ _) _ _ _ _ :: _) _ _))); refine step_storeRow rfl rfl w'.heap.size rfl rfl (blk_new _ _) (by kernel_rfl) rfl (by simp [Value.oneCell']) ?_; intro w2 hb2 hc2 hs2
                     have b4 : w2.cell? ⟨w'.heap.size, 4, none⟩ = some (.int .i64 r.prev) := by rw [cell_blk hb2]; rfl
                     have b5 : w2.cell? ⟨w'.heap.size, 5, none⟩ = some (.int .i64 r.next) := by rw [cell_blk hb2]; rfl
                     have b0 : w2.cell? ⟨w'.heap.size, 0, none⟩ = some (.int .i64 r.kind) := by rw [cell_blk hb2]; rfl
                     have b2 : w2.cell? ⟨w'.heap.size, 2, none⟩ = some (.int .i64 r.page) := by rw [cell_blk hb2]; rfl
                     have b3 : w2.cell? ⟨w'.heap.size, 3, none⟩ = some (.int .i64 r.off) := by rw [cell_blk hb2]; rfl
                     have b7 : w2.cell? ⟨w'.heap.size, 7, none⟩ = some (.string r.before) := by rw [cell_blk hb2]; rfl
                     have C2 := hid (((hc.out.trans' hc'.out).alloc _).trans hc2 (fun i hi => by cases hi; exact .inr (hc.out.trans' hc'.out).size))
                     have HO2 := hid (ownsRow.chg HO.out (((hc'.out.mono (T := OneB w'.heap.size) (fun i h => h.elim)).alloc _).trans' hc2) (fun k hk e => by have := OwnB.ge HO.out k hk; have h9 := hc'.out.size; cases e; omega))
                     have HS2 := hid hs2
                     clear hc2 hb2 hs2))
                go_roundw
                case rel =>
                  refine ⟨r.next, pre ++ [(cur, r)], rfl, ?_, ?_, C2⟩
                  · exact hid (by have := HH2.out; rw [nextOf_undo HB.out hk] at this; exact this)
                  · exact hid (by rw [stands_no hk]; exact HO2.out)
                case measure =>
                  have := hcnt.out
                  rw [nextOf_undo HB.out hk] at this
                  simpa [intOf] using this
              · go_wp2_with (first
                  | (go_at_call 57; refine (ref11At _ l _ _ _ hv2.out).mono ?_; rintro e w' ⟨ha, hc'⟩; obtain ⟨a1, n1, c1, a2, n2, c2, ht, rfl⟩ := ha.good HE.out HB.out; clear ha; replace hc' := hid hc')
                  | ((fail_if_success (fail_if_success (with_reducible change wpList _ _ _ (Oper.mk _ (.store 55 _ _) _ _ _ _ :: _) _ _))); refine step_storeRow rfl rfl w'.heap.size rfl rfl (blk_new _ _) (by kernel_rfl) rfl (by simp [Value.oneCell']) ?_; intro w2 hb2 hc2 hs2
                     have b4 : w2.cell? ⟨w'.heap.size, 4, none⟩ = some (.int .i64 r.prev) := by rw [cell_blk hb2]; rfl
                     have b5 : w2.cell? ⟨w'.heap.size, 5, none⟩ = some (.int .i64 r.next) := by rw [cell_blk hb2]; rfl
                     have b0 : w2.cell? ⟨w'.heap.size, 0, none⟩ = some (.int .i64 r.kind) := by rw [cell_blk hb2]; rfl
                     have b2 : w2.cell? ⟨w'.heap.size, 2, none⟩ = some (.int .i64 r.page) := by rw [cell_blk hb2]; rfl
                     have b3 : w2.cell? ⟨w'.heap.size, 3, none⟩ = some (.int .i64 r.off) := by rw [cell_blk hb2]; rfl
                     have b7 : w2.cell? ⟨w'.heap.size, 7, none⟩ = some (.string r.before) := by rw [cell_blk hb2]; rfl
                     have C2 := hid (((hc.out.trans' hc'.out).alloc _).trans hc2 (fun i hi => by cases hi; exact .inr (hc.out.trans' hc'.out).size))
                     have HO2 := hid (ownsRow.chg HO.out (((hc'.out.mono (T := OneB w'.heap.size) (fun i h => h.elim)).alloc _).trans' hc2) (fun k hk e => by have := OwnB.ge HO.out k hk; have h9 := hc'.out.size; cases e; omega))
                     have HS2 := hid hs2
                     clear hc2 hb2 hs2)
                  | (at_builtin; refine step_app1 slRec rfl _ _ rfl (World.ownsRow.alloc HO2.out _) rfl w2.heap.size [.int .i64 2, .int .i64 txn, .int .i64 r.page, .int .i64 r.off, .int .i64 0, .int .i64 r.prev, .int .i64 0, .string ⟨#[]⟩, .string r.before, .slice none 0 0, .slice none 0 0] rfl (blk_new _ _) rfl rfl (by simp [Value.oneCell']) ?_ ?_ ?_ ?_))
                case _ => omega
                case _ => unfold maxLen; omega
                case _ => have := (C2.out).size; first | omega | (simp; omega)
                intro v' w3 hv3 hc3 hvo hnil
                have hne : ¬ OwnB (.slice ao (stands pre).length co) w'.heap.size := fun e => by have := OwnB.ge HO.out _ e; have h9 := hc'.out.size; omega
                have b6 : w3.cell? ⟨w'.heap.size, 4, none⟩ = some (.int .i64 r.prev) := hc3.cell (((Chg.refl NoB _).alloc _).cell b4 (fun e => e)) hne
                obtain ⟨av, cv, rfl⟩ := ownsForm hv3
                have C3 := hid ((C2.out.alloc _).trans hc3 (fun i hi => .inr (OwnB.ge HO.out i hi).1))
                have HV3 := hid hv3
                clear hv3 hc3 b4
                go_wp2
                go_roundw
                case rel =>
                  refine ⟨r.prev, pre ++ [(cur, r)], rfl, ?_, ?_, C3⟩
                  · exact hid (by have := HH2.out; rw [nextOf_upd hk] at this; exact this)
                  · exact hid (by rw [stands_yes hk]; simpa [undoRec, Rec.csn, Rec.cs] using HV3.out)
                case measure =>
                  have := hcnt.out
                  rw [nextOf_upd hk] at this; simpa [intOf] using this
            · have hst := hid (orErr_err (f := fun x => (x.filter (fun y => y.2.kind == 1)).map (fun y => undoRec txn y.2)) hri.out.symm (HH.out.bad hz HE.out hb) (by decide))
              have HB := hid hb
              clear hb
              go_wp2_with (first
                | (go_at_call 57; refine (ref11At _ l _ _ _ hv2.out).mono ?_; rintro e w' ⟨ha, hc'⟩; obtain ⟨a1, n1, c1, a2, n2, c2, ht, rfl⟩ := ha.bad HE.out HB.out; clear ha; replace hc' := hid hc')
                | ((fail_if_success (fail_if_success (with_reducible change wpList _ _ _ (Oper.mk _ (.store 55 _ _) _ _ _ _ :: _) _ _))); refine step_storeRow rfl rfl w'.heap.size rfl rfl (blk_new _ _) (by kernel_rfl) rfl (by simp [Value.oneCell']) ?_; intro w2 hb2 hc2 hs2))
              go_ret2
              exact RecsErr.nil hst.out (((hc.out.trans' hc'.out).alloc _).trans hc2 (fun i hi => by cases hi; exact .inr (hc.out.trans' hc'.out).size)) rfl
        · have hst := hid (orErr_ok (f := fun x => (x.filter (fun y => y.2.kind == 1)).map (fun y => undoRec txn y.2)) hri.out.symm (HH.out.stop (by simp [goTo, hs])))
          go_wp2
          go_ret2
          exact RecsErr.ok (pre := stands pre) hst.out HO.out hc.out rfl
end Go.Proofs.Ytekjchphlphecaa
