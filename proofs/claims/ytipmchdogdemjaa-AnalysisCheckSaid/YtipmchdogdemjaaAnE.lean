import Derived.Test.YtipmchdogdemjaaAnT
import Derived.Test.YtipmchdogdemjaaRecFn
namespace Go.Proofs.Ytipmchdogdemjaa
open Go.RowKit Go.ChangeMaps Go.MapKept
set_option linter.unusedVariables false

/-- An entry's cells. -/
def entC (x : Ent) (v1 v2 : Value) : Array Value := #[.int .i64 x.at_, .int .i64 x.r.kind, .int .i64 x.r.txn, .int .i64 x.r.page, .int .i64 x.r.off, .int .i64 x.r.prev, .int .i64 x.r.next, .int .i64 x.r.beg, .string x.r.before, .string x.r.after, v1, v2]
theorem entC_cells {w : World} {b : Nat} {x : Ent} {v1 v2 : Value} {t : TypeId} (h : w.heap[b]? = some (.cells (entC x v1 v2) t (0, 0))) :
    w.cell? ⟨b, 0, none⟩ = some (.int .i64 x.at_) ∧ w.cell? ⟨b, 1, none⟩ = some (.int .i64 x.r.kind) ∧ w.cell? ⟨b, 2, none⟩ = some (.int .i64 x.r.txn) ∧ w.cell? ⟨b, 3, none⟩ = some (.int .i64 x.r.page) ∧ w.cell? ⟨b, 7, none⟩ = some (.int .i64 x.r.beg) ∧ w.cell? ⟨b, 10, none⟩ = some v1 ∧ w.cell? ⟨b, 11, none⟩ = some v2 := by
  refine ⟨?_, ?_, ?_, ?_, ?_, ?_, ?_⟩ <;> rw [cell_blk h] <;> rfl

/-- What stands while an entry goes by. -/
structure EnI (w W : World) (b p rt rp : Nat) (c : Int) (s : AT) (x : Ent) (v1 v2 : Value) : Prop where
  at_ : AnAt W p rt rp c s
  blk : W.heap[b]? = some (.cells (entC x v1 v2) 30 (0, 0))
  chg : Chg (AnB rt rp) w W
  lt : w.heap.size ≤ b
theorem EnI.ne {w W : World} {b p rt rp : Nat} {c : Int} {s : AT} {x : Ent} {v1 v2 : Value} (h : EnI w W b p rt rp c s x v1 v2) (hp : p < w.heap.size) (ht : rt < w.heap.size) (hr : rp < w.heap.size) : b ≠ p ∧ b ≠ rt ∧ b ≠ rp := by have := h.lt; omega
theorem EnI.keep {w W W' : World} {b p rt rp : Nat} {c : Int} {s : AT} {x : Ent} {v1 v2 : Value} (h : EnI w W b p rt rp c s x v1 v2) (hc : Chg NoB W W') : EnI w W' b p rt rp c s x v1 v2 :=
  ⟨h.at_.keep0 hc, hc.heap h.blk nob, h.chg.trans hc (fun _ e => e.elim), h.lt⟩

theorem EnI.set {w W W' : World} {b p rt rp g : Nat} {c : Int} {s : AT} {x : Ent} {v1 v2 : Value} (h : EnI w W b p rt rp c s x v1 v2) (hb : b = w.heap.size) (hg : w.heap.size < g) (hp : p < w.heap.size) (ht : rt < w.heap.size) (hr : rp < w.heap.size) (hc : Chg (OneB g) W W') : EnI w W' b p rt rp c s x v1 v2 :=
  ⟨h.at_.keep hc (fun e => by have h' : p = g := e; omega) (fun e => by have h' : rt = g := e; omega) (fun e => by have h' : rp = g := e; omega), hc.heap h.blk (fun e => by have h' : b = g := e; omega),
    h.chg.trans hc (fun i e => by have h' : i = g := e; right; omega), h.lt⟩
theorem rowO_cells {w : World} {b : Nat} {x : Row3} (h : w.heap[b]? = some (rowO x)) : w.cell? ⟨b, 0, none⟩ = some (.int .i64 x.1) ∧ w.cell? ⟨b, 1, none⟩ = some (.int .i64 x.2.1) ∧ w.cell? ⟨b, 2, none⟩ = some (.int .i64 x.2.2) ∧ (∀ i, w.frozen? ⟨b, i, none⟩ = false) := by
  unfold rowO at h
  refine ⟨?_, ?_, ?_, fun i => frozen_blk h i⟩ <;> rw [cell_blk h] <;> rfl

set_option maxRecDepth 100000 in
set_option maxHeartbeats 8000000 in
theorem entry_upd (p rt rp : Nat) (c : Int) (s : AT) (x : Ent) (v1 v2 : Value) (w : World) (h : AnAt w p rt rp c s) (hk : x.r.kind = 1 ∨ x.r.kind = 2) :
    Calls Try.prog 16 #[.pointer (some ⟨p, 0, none⟩), .agg (entC x v1 v2)] w fun e w' => e = .returned (.tuple #[]) ∧ AnAt w' p rt rp c (aEnt c s x) ∧ Chg (AnB rt rp) w w' := by
  have HE : Hid (aEnt c s x = ⟨mput s.T x.r.txn (aRow s.T x.r.txn x.at_), if (mget s.G x.r.page).isSome then s.G else mput s.G x.r.page x.at_⟩) := hid (by unfold aEnt; rw [if_pos hk])
  have HH := hid h
  have hpl := lt_of_block h.blk
  have htl := h.mt.lt
  have hrl := h.mp.lt
  clear h
  unfold entC
  go_enter Try.func16, Try.ntmps16
  have hW0 : Hid (EnI w (w.alloc (.cells (entC x v1 v2) 30)) w.heap.size p rt rp c s x v1 v2 ∧ Chg NoB w (w.alloc (.cells (entC x v1 v2) 30))) := hid ⟨⟨HH.out.keep0 ((Chg.refl NoB w).alloc _), blk_new _ _, ((Chg.refl _ w).alloc _), Nat.le_refl _⟩, (Chg.refl NoB w).alloc _⟩
  unfold entC at hW0
  have HK := hid hk
  clear hk
  go_upto_if 19 with fail
  go_cut [19] (fun s19 wx => s19 = .bool true ∧ Hid (EnI w wx w.heap.size p rt rp c s x v1 v2 ∧ Chg NoB w wx))
  case first =>
    rcases HK.out with hk | hk
    · have hb : (x.r.kind == 1) = true := by simp [hk]
      clear hk
      go_wp2_with fail
      go_meet
      exact ⟨congrArg Value.bool hb, hW0⟩
    · have hb : (x.r.kind == 1) = false := by simp [hk]
      have hb2 : (x.r.kind == 2) = true := by simp [hk]
      clear hk
      go_wp2_with fail
      go_meet
      exact ⟨by first | rfl | exact congrArg Value.bool hb2, hW0⟩
  case rest =>
    obtain ⟨rfl, hW⟩ := hcut
    clear hW0
    obtain ⟨k0, k1, k2, k3, _, _, _⟩ := entC_cells hW.out.1.blk
    obtain ⟨p0, p1, p2⟩ := hW.out.1.at_.cells
    go_upto_region 5 with fail
    go_cut [5] (fun s5 wx => ∃ g : Nat, s5 = .pointer (some ⟨g, 0, none⟩) ∧ Hid (EnI w wx w.heap.size p rt rp c s x v1 v2 ∧ Chg NoB w wx ∧ wx.heap[g]? = some (rowO (x.r.txn, x.at_, x.at_)) ∧ w.heap.size < g))
    case first =>
      go_region_held3 (fun w' => ∀ p, (World.cell? wc p).isSome = true → w'.cell? p = World.cell? wc p) (first | exact sameC ((Chg.refl NoB _).drew) | exact sameC (((Chg.refl NoB _).drew).alloc _) | exact sameC ((((Chg.refl NoB _).drew).alloc _).setCell (.inr (by simp)) _)) (fail)
      all_goals
        go_wp2_with fail
        go_meet
        refine ⟨_, rfl, ⟨hW.out.1.keep (((Chg.refl NoB _).drew).alloc _), hW.out.2.trans' (((Chg.refl NoB _).drew).alloc _), blk_new _ _, lt_of_block hW.out.1.blk⟩⟩
    case rest =>
      obtain ⟨g, rfl, hG⟩ := hcut
      clear k0 k1 k2 k3 p0 p1 p2 hW
      obtain ⟨k0, k1, k2, k3, _, _, _⟩ := entC_cells hG.out.1.blk
      obtain ⟨p0, p1, p2⟩ := hG.out.1.at_.cells
      obtain ⟨o, ho⟩ := named (mget s.T x.r.txn)
      obtain ⟨⟨o1, o2, o3⟩, hor⟩ := named (o.getD (0, 0, 0))
      obtain ⟨ok, hok⟩ := named o.isSome
      have HL := look_any (P := Try.prog) (V := VRow) Try.underlying50 Try.underlying3 hG.out.1.at_.mt zero_row x.r.txn true (res := .tuple #[.agg #[.int .i64 o1, .int .i64 o2, .int .i64 o3], .bool ok]) (by
        rw [← ho.out, hok.out]
        cases o with
        | none => rw [Option.getD_none] at hor; cases hor.out; rfl
        | some y => rw [Option.getD_some] at hor; cases hor.out; rfl)
      go_upto_region 6 with fail
      go_cut [6, 7] (fun s6 s7 wx => ∃ h : Nat, s6 = .pointer (some ⟨h, 0, none⟩) ∧ s7 = .bool ok ∧ Hid (EnI w wx w.heap.size p rt rp c s x v1 v2 ∧ Chg NoB w wx ∧ wx.heap[g]? = some (rowO (x.r.txn, x.at_, x.at_)) ∧ wx.heap[h]? = some (rowO (o1, o2, o3)) ∧ w.heap.size < g))
      case first =>
        go_region_held3 (fun w' => (∀ p, (World.cell? wc p).isSome = true → w'.cell? p = World.cell? wc p) ∧ (Instr.lookup 50 (.map (some rt)) (.int .i64 x.r.txn) true).run Try.prog w' = .ok (.tuple #[.agg #[.int .i64 o1, .int .i64 o2, .int .i64 o3], .bool ok]) w') (first | exact keepX HL ((Chg.refl NoB _).drew) | exact keepX HL (((Chg.refl NoB _).drew).alloc _) | exact keepX HL ((((Chg.refl NoB _).drew).alloc _).setCell (.inr (by simp)) _)) (fail)
        all_goals
          go_wp2_with fail
          go_meet
          have hcc : Chg NoB wc (wc.drew.alloc (.cells #[.int .i64 o1, .int .i64 o2, .int .i64 o3] 44)) := ((Chg.refl NoB _).drew).alloc _
          exact ⟨_, rfl, rfl, ⟨hG.out.1.keep hcc, hG.out.2.1.trans' hcc, hcc.heap hG.out.2.2.1 nob, blk_new _ _, hG.out.2.2.2⟩⟩
      case rest =>
        obtain ⟨h, rfl, rfl, hH⟩ := hcut
        clear k0 k1 k2 k3 p0 p1 p2 HL hG
        go_upto_if 43 with fail
        go_cut [] (fun wx => Hid (EnI w wx w.heap.size p rt rp c s x v1 v2 ∧ Chg NoB w wx ∧ wx.heap[g]? = some (rowO (aRow s.T x.r.txn x.at_)) ∧ w.heap.size < g))
        case first =>
          have hgl := hH.out.2.2.2.2
          obtain ⟨d0, d1, d2, df⟩ := rowO_cells hH.out.2.2.1
          obtain ⟨e0, e1, e2, ef⟩ := rowO_cells hH.out.2.2.2.1
          have df1 := df 1
          clear df ef d0 d2 e0 e2
          cases ok
          · have hn : o = none := by cases o with | none => rfl | some y => cases hok.out
            have hrow : aRow s.T x.r.txn x.at_ = (x.r.txn, x.at_, x.at_) := by unfold aRow; rw [← ho.out, hn]
            have HR := hid hrow
            clear hn hrow
            go_wp2_with fail
            go_meet
            exact ⟨hH.out.1, hH.out.2.1, by rw [HR.out]; exact hH.out.2.2.1, hgl⟩
          · have hrow : aRow s.T x.r.txn x.at_ = (x.r.txn, o2, x.at_) := by
              unfold aRow; rw [← ho.out]
              cases o with
              | none => cases hok.out
              | some y => rw [Option.getD_some] at hor; cases hor.out; rfl
            have HR := hid hrow
            clear hrow
            go_wp2_with fail
            go_meet
            have hcc : Chg (OneB g) wc (wc.setCell ⟨g, 1, none⟩ (.int .i64 o2)) := (Chg.refl (OneB g) wc).setCell (.inl (OneB.self g)) _
            exact ⟨hH.out.1.set rfl hgl hpl htl hrl hcc, hH.out.2.1.setCell (.inr (by simp; omega)) _, by rw [HR.out]; exact blk_setCell hH.out.2.2.1 1 _, hgl⟩
        case rest =>
          replace hH := hcut
          clear hcut ho hor hok
          obtain ⟨k0, k1, k2, k3, _, _, _⟩ := entC_cells hH.out.1.blk
          obtain ⟨p0, p1, p2⟩ := hH.out.1.at_.cells
          obtain ⟨d0, d1, d2, df⟩ := rowO_cells hH.out.2.2.1
          obtain ⟨row, hrow⟩ := named (aRow s.T x.r.txn x.at_)
          obtain ⟨r1, r2, r3⟩ := row
          rw [← hrow.out] at d0 d1 d2
          clear df
          go_upto_region 9 with fail
          (refine wp_region_tail 9 (by kernel_rfl) (by kernel_rfl) ?_; simp only [List.take_succ_cons, List.take_zero, List.drop_succ_cons, List.drop_zero]; (repeat still_step); refine wpStill_nil ?_; change wpList _ _ _ _ _ _)
          refine step_mapUpdate (hH.out.1.at_.mt.drew) rfl _ _ _ 50 3 44 rfl Try.underlying50 Try.underlying3 x.r.txn (r1, r2, r3) rfl rfl rfl ?_
          intro w2 hm2 hc2 hs2
          have hW2 : Hid (EnI w w2 w.heap.size p rt rp c ⟨mput s.T x.r.txn (aRow s.T x.r.txn x.at_), s.G⟩ x v1 v2) := by
            have hc3 : Chg (OneB rt) wc w2 := ((Chg.refl (OneB rt) wc).drew).trans' hc2
            exact ⟨hH.out.1.at_.putT (by rw [← hrow.out]; exact hm2) hc3, hc3.heap hH.out.1.blk (fun e => by have h' : w.heap.size = rt := e; omega), hH.out.1.chg.trans hc3 (fun i e => .inl (.inl e)), Nat.le_refl _⟩
          clear hm2 hc2 k0 k1 k2 k3 p0 p1 p2 d0 d1 d2
          obtain ⟨k0, k1, k2, k3, _, _, _⟩ := entC_cells hW2.out.blk
          obtain ⟨p0, p1, p2⟩ := hW2.out.at_.cells
          go_upto_region 10 with fail
          obtain ⟨q, hq⟩ := named (mget s.G x.r.page)
          have HL := (look_any (P := Try.prog) (V := Value.int .i64) Try.underlying39 Try.underlying3 hW2.out.at_.mp zero_int x.r.page true rfl).out w2.drew ((Chg.refl NoB w2).drew)
          simp only [if_true] at HL
          rw [← hq.out] at HL
          cases q with
          | none =>
            simp only [Option.map_none, Option.getD_none, Option.isSome_none] at HL
            (refine wp_region_reads (by kernel_rfl) (by kernel_rfl) ?_; (repeat still_step); refine wpStill_nil ?_)
            clear HL
            go_upto_region 12 with fail
            (refine wp_region_tail 10 (by kernel_rfl) (by kernel_rfl) ?_; simp only [List.take_succ_cons, List.take_zero, List.drop_succ_cons, List.drop_zero]; (repeat still_step); refine wpStill_nil ?_; change wpList _ _ _ _ _ _)
            refine step_mapUpdate (hW2.out.at_.mp.drew.drew) rfl _ _ _ 39 3 3 rfl Try.underlying39 Try.underlying3 x.r.page x.at_ rfl rfl rfl ?_
            intro w3 hm3 hc3 hs3
            go_wp2_with fail
            go_end0
            have hc4 : Chg (OneB rp) w2 w3 := (((Chg.refl (OneB rp) w2).drew).drew).trans' hc3
            refine ⟨rfl, ?_, hW2.out.chg.trans hc4 (fun i e => .inl (.inr e))⟩
            rw [HE.out, ← hq.out]
            exact hW2.out.at_.putG hm3 hc4
          | some y =>
            simp only [Option.map_some, Option.getD_some, Option.isSome_some] at HL
            (refine wp_region_reads (by kernel_rfl) (by kernel_rfl) ?_; (repeat still_step); refine wpStill_nil ?_)
            clear HL
            go_wp2_with fail
            go_end0
            refine ⟨rfl, ?_, hW2.out.chg.drew⟩
            rw [HE.out, ← hq.out]
            exact hW2.out.at_.keep0 ((Chg.refl NoB w2).drew)
end Go.Proofs.Ytipmchdogdemjaa
