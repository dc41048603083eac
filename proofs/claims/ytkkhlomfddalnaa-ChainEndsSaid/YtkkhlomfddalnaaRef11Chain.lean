import Derived.Test.YtkkhlomfddalnaaRef11At
import Derived.Test.YtkkhlomfddalnaaRises
namespace Go.Proofs.Ytkkhlomfddalnaa
open Go.RowKit Go.ChangeMaps
set_option linter.unusedVariables false

theorem slInt : SlT Try.prog 25 3 (.int .i64 0) 1 8 := ⟨Try.underlying25, by kernel_rfl, rfl, by omega⟩

/-- What a walk has given, and what is left of it. -/
structure Half (l : List Ent) (txn : Int) (go : Int → Bool) (skips : Bool) (last cur : Int) (pre : List (Int × Rec)) : Prop where
  fst : (walk l txn go skips last).1 = pre ++ (walk l txn go skips cur).1
  snd : (walk l txn go skips last).2 = (walk l txn go skips cur).2
section
variable {l : List Ent} {txn : Int} {go : Int → Bool} {skips : Bool} {last cur : Int} {pre : List (Int × Rec)}
theorem Half.start : Half l txn go skips last last [] := ⟨rfl, rfl⟩
theorem Half.step (h : Half l txn go skips last cur pre) {r : Rec} (hg : go cur = true) (he : entAt l cur = some r) (hb : recBad txn cur r = false) : Half l txn go skips last (nextOf skips r) (pre ++ [(cur, r)]) := by
  constructor
  · rw [h.fst, walk_step hg he hb]; simp
  · rw [h.snd, walk_step hg he hb]
theorem Half.stop (h : Half l txn go skips last cur pre) (hg : go cur = false) : walk l txn go skips last = (pre, 0) := by
  have h1 := h.fst; have h2 := h.snd; rw [walk_stop hg] at h1 h2
  exact Prod.ext (by simpa using h1) h2
theorem Half.none (h : Half l txn go skips last cur pre) (hg : go cur = true) (he : entAt l cur = none) : walk l txn go skips last = (pre, 7) := by
  have h1 := h.fst; have h2 := h.snd; rw [walk_none hg he] at h1 h2
  exact Prod.ext (by simpa using h1) h2
theorem Half.bad (h : Half l txn go skips last cur pre) {r : Rec} (hg : go cur = true) (he : entAt l cur = some r) (hb : recBad txn cur r = true) : walk l txn go skips last = (pre, 1) := by
  have h1 := h.fst; have h2 := h.snd; rw [walk_bad hg he hb] at h1 h2
  exact Prod.ext (by simpa using h1) h2
theorem Half.len (h : Half l txn go skips last cur pre) {r : Rec} (hg : go cur = true) (he : entAt l cur = some r) (hb : recBad txn cur r = false) : pre.length < l.length := by
  have h1 := (h.step hg he hb).fst
  have h2 := walk_len' (l := l) (txn := txn) (go := go) (skips := skips) (p := last)
  rw [h1] at h2
  simp at h2
  omega
end

theorem orErr_form {α : Type} {l : List Ent} {x : List (Int × Rec) × Int} {f : List (Int × Rec) → List α} (h : risesB l = false) : orErr l x f = ([], 3) := by simp [orErr, h]
theorem orErr_err {α : Type} {l : List Ent} {x : List (Int × Rec) × Int} {f : List (Int × Rec) → List α} {pre : List (Int × Rec)} {e : Int} (h : risesB l = true) (hx : x = (pre, e)) (he : e ≠ 0) : orErr l x f = ([], e) := by subst hx; simp [orErr, h, he]
theorem orErr_ok {α : Type} {l : List Ent} {x : List (Int × Rec) × Int} {f : List (Int × Rec) → List α} {pre : List (Int × Rec)} (h : risesB l = true) (hx : x = (pre, 0)) : orErr l x f = (f pre, 0) := by subst hx; simp [orErr, h]

/-- A list of ints of one's own, and an error. -/
def IntsErr (w w' : World) (e : Ending) (x : List Int × Int) : Prop := ∃ v, e = .returned (.tuple #[v, .int .i64 x.2]) ∧ w'.ownsRow w.heap.size 3 1 v x.1.length (x.1.map (Value.int .i64)) ∧ Chg NoB w w'

theorem IntsErr.nil {w w' : World} {x : List Int × Int} {er : Int} (hx : x = ([], er)) (hc : Chg NoB w w') {e : Ending} (he : e = .returned (.tuple #[.slice none 0 0, .int .i64 er])) : IntsErr w w' e x := by
  subst hx; exact ⟨_, he, World.ownsRow_nil _ _ _ _, hc⟩

theorem IntsErr.ok {w w' : World} {x : List Int × Int} {pre : List (Int × Rec)} {v : Value} (hx : x = (pre.map (·.1), 0)) (ho : w'.ownsRow w.heap.size 3 1 v pre.length (pre.map (fun x => Value.int .i64 x.1))) (hc : Chg NoB w w') {e : Ending} (he : e = .returned (.tuple #[v, .int .i64 0])) : IntsErr w w' e x := by
  subst hx
  refine ⟨v, he, ?_, hc⟩
  simp only [List.length_map, List.map_map]
  exact ho

set_option maxRecDepth 100000 in
set_option maxHeartbeats 8000000 in
theorem ref11Chain (v : Value) (l : List Ent) (txn last : Int) (w : World) (hv : Ents w v l) (hl : l.length ≤ 1000000) :
    Calls Try.prog 11 #[v, .int .i64 txn, .int .i64 last] w fun e w' => IntsErr w w' e (chainOf l txn last) := by
  have HV := hid hv
  have hform : ∃ a n c, v = .slice a n c := by obtain ⟨a, c, rfl, _⟩ := hv; exact ⟨_, _, _, rfl⟩
  obtain ⟨a, n, c, rfl⟩ := hform
  clear hv
  obtain ⟨ri, hri⟩ := named (risesB l)
  cases ri
  · have hx := hid (orErr_form (x := walk l txn goAll false last) (f := fun x => x.map (·.1)) hri.out.symm)
    go_enter Try.func11, Try.ntmps11
    go_wp2_with (go_at_call 20; refine (rises_calls _ l _ HV.out _ hri).mono ?_; rintro e w' ⟨rfl, n, rfl⟩)
    go_ret2
    exact IntsErr.nil hx.out ((Chg.refl _ _).drewN _) rfl
  · go_enter Try.func11, Try.ntmps11
    go_wp2_with (go_at_call 20; refine (rises_calls _ l _ HV.out _ hri).mono ?_; rintro e w' ⟨rfl, n, rfl⟩)
    go_loopw [2, 8] (fun p o wr => ∃ (cur : Int) (pre : List (Int × Rec)), p = .int .i64 cur ∧ Hid (Half l txn goAll false last cur pre) ∧ Hid (wr.ownsRow w.heap.size 3 1 o pre.length (pre.map (fun x => Value.int .i64 x.1))) ∧ Hid (Chg NoB w wr)) (fun p _ _ => cntLe l (intOf p))
    case atStart => exact ⟨last, [], rfl, Half.start, World.ownsRow_nil _ _ _ _, (Chg.refl _ _).drewN _⟩
    case round =>
      obtain ⟨cur, pre, rfl, HH, HO, hc⟩ := hrel
      obtain ⟨ao, co, rfl⟩ := ownsForm HO.out
      cases hz : (cur != 0)
      · have hst := hid (orErr_ok (f := fun x => x.map (·.1)) hri.out.symm (HH.out.stop hz))
        go_wp2
        go_ret2
        exact IntsErr.ok hst.out HO.out hc.out rfl
      · have hv2 := hid (HV.out.mono hc.out)
        cases he : entAt l cur with
        | none =>
          have HE := hid he
          have hst := hid (orErr_err (f := fun x => x.map (·.1)) hri.out.symm (HH.out.none hz he) (by decide))
          clear he
          go_wp2_with (first
            | (go_at_call 24; refine (ref11At _ l _ _ _ hv2.out).mono ?_; rintro e w' ⟨ha, hc'⟩; obtain rfl := ha.none HE.out; clear ha; replace hc' := hid hc')
            | ((fail_if_success (fail_if_success (with_reducible change wpList _ _ _ (Oper.mk _ (.store 45 _ _) _ _ _ _ :: _) _ _))); refine step_storeRow rfl rfl w'.heap.size rfl rfl (blk_new _ _) (by kernel_rfl) rfl (by simp [Value.oneCell']) ?_; intro w2 hb2 hc2 hs2))
          go_ret2
          exact IntsErr.nil hst.out (((hc.out.trans' hc'.out).alloc _).trans hc2 (fun i hi => by cases hi; exact .inr (hc.out.trans' hc'.out).size)) rfl
        | some r =>
          have HE := hid he
          clear he
          cases hb : recBad txn cur r
          · have HH2 := hid (HH.out.step hz HE.out hb)
            have hlen := HH.out.len hz HE.out hb
            have hcnt := hid (cnt_lt HE.out (next_lt (skips := false) hb))
            have HB := hid hb
            clear hb
            go_wp2_with (first
              | (go_at_call 24; refine (ref11At _ l _ _ _ hv2.out).mono ?_; rintro e w' ⟨ha, hc'⟩; obtain ⟨a1, n1, c1, a2, n2, c2, ht, rfl⟩ := ha.good HE.out HB.out; clear ha; replace hc' := hid hc')
              | ((fail_if_success (fail_if_success (with_reducible change wpList _ _ _ (Oper.mk _ (.store 45 _ _) _ _ _ _ :: _) _ _))); refine step_storeRow rfl rfl w'.heap.size rfl rfl (blk_new _ _) (by kernel_rfl) rfl (by simp [Value.oneCell']) ?_; intro w2 hb2 hc2 hs2
                 have b4 : w2.cell? ⟨w'.heap.size, 4, none⟩ = some (.int .i64 r.prev) := by rw [cell_blk hb2]; rfl
                 have C2 := hid (((hc.out.trans' hc'.out).alloc _).trans hc2 (fun i hi => by cases hi; exact .inr (hc.out.trans' hc'.out).size))
                 have HO2 := hid (ownsRow.chg HO.out (((hc'.out.mono (T := OneB w'.heap.size) (fun i h => h.elim)).alloc _).trans' hc2) (fun k hk e => by have := OwnB.ge HO.out k hk; have h9 := hc'.out.size; cases e; omega))
                 have HS2 := hid hs2
                 clear hc2 hb2 hs2)
              | (at_builtin; refine step_app1 slInt rfl _ _ rfl (World.ownsRow.alloc HO2.out _) rfl w2.heap.size [.int .i64 cur] rfl (blk_new _ _) rfl rfl (by simp [Value.oneCell']) ?_ ?_ ?_ ?_))
            case _ => omega
            case _ => unfold maxLen; omega
            case _ => have := (C2.out).size; first | omega | (simp; omega)
            intro v' w3 hv3 hc3 hvo hnil
            have hne : ¬ OwnB (.slice ao pre.length co) w'.heap.size := fun e => by have := OwnB.ge HO.out _ e; have h9 := hc'.out.size; omega
            have b5 : w3.cell? ⟨w'.heap.size, 4, none⟩ = some (.int .i64 r.prev) := hc3.cell (((Chg.refl NoB _).alloc _).cell b4 (fun e => e)) hne
            obtain ⟨av, cv, rfl⟩ := ownsForm hv3
            have C3 := hid ((C2.out.alloc _).trans hc3 (fun i hi => .inr (OwnB.ge HO.out i hi).1))
            have HV3 := hid hv3
            clear hv3 hc3 b4
            go_wp2
            go_roundw
            case rel =>
              refine ⟨r.prev, pre ++ [(cur, r)], rfl, ?_, ?_, C3⟩
              · exact hid (by simpa [nextOf] using HH2.out)
              · exact hid (by simpa using HV3.out)
            case measure =>
              have := hcnt.out
              simpa [nextOf, intOf] using this
          · have hst := hid (orErr_err (f := fun x => x.map (·.1)) hri.out.symm (HH.out.bad hz HE.out hb) (by decide))
            have HB := hid hb
            clear hb
            go_wp2_with (first
              | (go_at_call 24; refine (ref11At _ l _ _ _ hv2.out).mono ?_; rintro e w' ⟨ha, hc'⟩; obtain ⟨a1, n1, c1, a2, n2, c2, ht, rfl⟩ := ha.bad HE.out HB.out; clear ha; replace hc' := hid hc')
              | ((fail_if_success (fail_if_success (with_reducible change wpList _ _ _ (Oper.mk _ (.store 45 _ _) _ _ _ _ :: _) _ _))); refine step_storeRow rfl rfl w'.heap.size rfl rfl (blk_new _ _) (by kernel_rfl) rfl (by simp [Value.oneCell']) ?_; intro w2 hb2 hc2 hs2))
            go_ret2
            exact IntsErr.nil hst.out (((hc.out.trans' hc'.out).alloc _).trans hc2 (fun i hi => by cases hi; exact .inr (hc.out.trans' hc'.out).size)) rfl
end Go.Proofs.Ytkkhlomfddalnaa
