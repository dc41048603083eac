import Derived.Test.YtghklbflbodajaaA5
namespace Go.Proofs.Ytghklbflbodajaa
open Go.RowKit Go.ChangeMaps Go.Shelf
set_option linter.unusedVariables false
set_option linter.unusedSimpArgs false
set_option linter.unnecessarySimpa false

attribute [local go_sem] Oper.semAt_some

/-- The iterator's own blocks. -/
def ItB (q b2 : Nat) : Nat → Prop := fun k => k = q ∨ k = b2

theorem ItAt.keep {w w' : World} {q b1 b2 b3 : Nat} {v : Value} {txn : Int} {stop : Option Addr} {er cur : Int} {skips : Bool} (h : ItAt w q b1 b2 b3 v txn stop er cur skips) {S : Nat → Prop} (hc : Chg S w w')
    (h1 : ¬ S q) (h2 : ¬ S b1) (h3 : ¬ S b2) (h4 : ¬ S b3) : ItAt w' q b1 b2 b3 v txn stop er cur skips :=
  ⟨h.wk.keep hc h1, hc.heap h.box1 h2, hc.heap h.box2 h3, hc.heap h.box3 h4⟩

theorem StopAt.keep {w w' : World} {stop : Option Addr} {g : Int → Bool} (h : StopAt w stop g) {S : Nat → Prop} (hc : Chg S w w') (hs : ∀ sb, stop = some ⟨sb, 0, none⟩ → ¬ S sb) : StopAt w' stop g := by
  rcases h with ⟨h1, h2⟩ | ⟨sb, s, h1, h2, h3⟩
  · exact .inl ⟨h1, h2⟩
  · exact .inr ⟨sb, s, h1, hc.cell h2 (hs sb h1), h3⟩

/-- What has come, and the error, when the iterator has ended. -/
def ItEnd (l : List Ent) (txn : Int) (g : Int → Bool) (skips : Bool) (last : Int) : List (Int × Rec) × Int := if risesB l then walk l txn g skips last else ([], 3)

/-- The place that stands in a box. -/
def placeIn (w : World) (b : Nat) : Int := match w.cell? ⟨b, 0, none⟩ with | some v => intOf v | none => 0

theorem it_next {l : List Ent} {txn : Int} {g : Int → Bool} {skips : Bool} {last cur nx : Int} {pre' : List (Int × Rec)} {q b1 b2 b3 : Nat} {v : Value} {stop : Option Addr} {w0 W W3 Wz : World} {J : List (Int × Rec) → World → Prop}
    (HH : Half l txn g skips last nx pre') (HI : ItAt W3 q b1 b2 b3 v txn stop 0 cur skips) (hS : StopAt W3 stop g) (hst : ∀ sb, stop = some ⟨sb, 0, none⟩ → sb ≠ b2) (hJ3 : J pre' W3)
    (hJ : ∀ pre A B, J pre A → Chg (ItB q b2) A B → J pre B) (hC : Chg NoB w0 W3) (hsz : W.heap.size ≤ W3.heap.size) (e2 : w0.heap.size ≤ b2) (d2 : b2 ≠ q) (d4 : b1 ≠ b2) (d5 : b3 ≠ b2)
    (hz : Chg (OneB b2) W3 Wz) (hb : Wz.heap[b2]? = some (.cells #[.int .i64 nx] 3 (0, 0))) :
    (∃ (cur : Int) (pre : List (Int × Rec)), Hid (Half l txn g skips last cur pre) ∧ Hid (ItAt Wz q b1 b2 b3 v txn stop 0 cur skips) ∧ Hid (StopAt Wz stop g) ∧ Hid (J pre Wz) ∧ Hid (Chg NoB w0 Wz) ∧ Hid (W.heap.size ≤ Wz.heap.size)) :=
  ⟨nx, pre', HH, ⟨HI.wk.keep hz (fun e => d2 e.symm), hz.heap HI.box1 d4, hb, hz.heap HI.box3 d5⟩, hS.keep hz hst, hJ _ _ _ hJ3 (hz.mono fun i hi => .inl (.inr hi)), hC.trans hz (fun i hi => by cases hi; exact .inr e2), Nat.le_trans hsz hz.size⟩
theorem placeIn_of {w : World} {b : Nat} {x : Int} {t : TypeId} (h : w.heap[b]? = some (.cells #[.int .i64 x] t (0, 0))) : placeIn w b = x := by
  unfold placeIn; rw [cell_blk h]; rfl

set_option maxRecDepth 100000 in
set_option maxHeartbeats 8000000 in
theorem from1_calls (n : Nat) (w0 : World) (q b1 b2 b3 : Nat) (v : Value) (l : List Ent) (txn : Int) (stop : Option Addr) (g : Int → Bool) (skips : Bool) (last : Int) (lp : Nat) (J : List (Int × Rec) → World → Prop) (R : World → Nat → Prop)
    (hv : Ents w0 v l) (hl : l.length ≤ 1000000) (hr : risesB l = true)
    (d1 : b1 ≠ q) (d2 : b2 ≠ q) (d3 : b3 ≠ q) (d4 : b1 ≠ b2) (d5 : b3 ≠ b2) (e0 : w0.heap.size ≤ q) (e2 : w0.heap.size ≤ b2)
    (W : World) (hc0 : Chg NoB w0 W) (hst : ∀ sb, stop = some ⟨sb, 0, none⟩ → sb ≠ q ∧ sb ≠ b2)
    (hR : ∀ pre A k, J pre A → R A k → w0.heap.size ≤ k ∧ k ≠ q ∧ k ≠ b1 ∧ k ≠ b2 ∧ k ≠ b3 ∧ stop ≠ some ⟨k, 0, none⟩)
    (hRs : ∀ pre A B k, J pre A → Chg (ItB q b2) A B → R B k → k < A.heap.size)
    (hJ : ∀ pre A B, J pre A → Chg (ItB q b2) A B → J pre B)
    (hY : ∀ pre p r a1 n1 c1 a2 n2 c2 A, J pre A → pre.length < l.length → Tabs A r (.slice a1 n1 c1) (.slice a2 n2 c2) → W.heap.size ≤ A.heap.size →
      YieldAt Fence.wide (n - 1) Try.prog lp #[.int .i64 p, .agg #[.int .i64 r.kind, .int .i64 r.txn, .int .i64 r.page, .int .i64 r.off, .int .i64 r.prev, .int .i64 r.next, .int .i64 r.beg, .string r.before, .string r.after, .slice a1 n1 c1, .slice a2 n2 c2]] A
        fun e A' => e = .returned (.bool true) ∧ J (pre ++ [(p, r)]) A' ∧ Chg (R A) A A')
    (hI : ItAt W q b1 b2 b3 v txn stop 0 last skips) (hS : StopAt W stop g) (h0 : J [] W) :
    CallsIn Fence.wide n Try.prog 74 #[.func (.yield lp) #[] #[], .pointer (some ⟨b1, 0, none⟩), .pointer (some ⟨b2, 0, none⟩), .pointer (some ⟨b3, 0, none⟩)] W fun e W' =>
      (∃ u, e = .returned u) ∧ ∃ xs er, walk l txn g skips last = (xs, er) ∧ J xs W' ∧ WkAt W' q v txn stop er := by
  have HV := hid hv
  have HR := hid hR
  have HRS := hid hRs
  have HJ := hid hJ
  have HY := hid hY
  have HI := hid hI
  have HS := hid hS
  have H0 := hid h0
  have HST := hid hst
  have HC0 := hid hc0
  clear hv hR hRs hJ hY hI hS h0 hst hc0
  refine callsIn_of_wp Try.func74 rfl trivial ?_ rfl
  simp only [Try.ntmps74, List.size_toArray, List.length_cons, List.length_nil, Nat.reduceAdd, Nat.reduceSub, Array.replicate_succ, Array.replicate_zero, List.push_toArray, List.append_toArray, List.nil_append, List.cons_append]
  gi_wp2
  gi_loopw [7] (fun p wr => ∃ (cur : Int) (pre : List (Int × Rec)), Hid (Half l txn g skips last cur pre) ∧ Hid (ItAt wr q b1 b2 b3 v txn stop 0 cur skips) ∧ Hid (StopAt wr stop g) ∧ Hid (J pre wr) ∧ Hid (Chg NoB w0 wr) ∧ Hid (W.heap.size ≤ wr.heap.size)) (fun p wr => cntLe l (placeIn wr b2))
  case atStart => exact ⟨last, [], Half.start, HI.out, HS.out, H0.out, HC0.out, Nat.le_refl _⟩
  case round =>
    obtain ⟨cur, pre, HH, HI, HS, H0, HC, HW⟩ := hrel
    have x1 : wr.cell? ⟨b1, 0, none⟩ = some (.pointer (some ⟨q, 0, none⟩)) := by rw [cell_blk HI.out.box1]; rfl
    have x2 : wr.cell? ⟨b2, 0, none⟩ = some (.int .i64 cur) := by rw [cell_blk HI.out.box2]; rfl
    have x3 : wr.cell? ⟨b3, 0, none⟩ = some (.bool skips) := by rw [cell_blk HI.out.box3]; rfl
    cases hz : g cur
    · have HST := hid (HH.out.stop hz)
      gi_wp2_with (refine ⟨trivial, fun h => (by cases h), ?_⟩; gi_at_call 75; refine (callsIn_wide.2 (on_calls q v txn stop 0 cur g _ HI.out.wk HS.out false (by simp [Hid, hz]))).mono ?_; rintro e w' ⟨rfl, rfl⟩)
      go_end0
      exact ⟨⟨_, rfl⟩, pre, 0, HST.out, H0.out, HI.out.wk⟩
    · have HV2 := hid (HV.out.mono HC.out)
      cases he : entAt l cur with
      | none =>
        have HE := hid he
        have HN := hid (HH.out.none hz he)
        clear he
        gi_wp2_with (first
          | (refine ⟨trivial, fun h => (by cases h), ?_⟩; gi_at_call 75; refine (callsIn_wide.2 (on_calls q v txn stop 0 cur g _ HI.out.wk HS.out true (by simp [Hid, hz]))).mono ?_; rintro e w' ⟨rfl, rfl⟩)
          | (refine ⟨trivial, fun h => (by cases h), ?_⟩; gi_at_call 76; refine (callsIn_wide.2 (wat_calls w0 q v l txn stop cur _ HI.out.wk HV.out HC.out e0 hr hl)).mono ?_
             rintro e w1 ⟨hans, hc1⟩
             rcases hans with ⟨_, hw1, rfl⟩ | ⟨r, _, _, _, _, _, _, h1, _⟩
             case inr => rw [HE.out] at h1; cases h1
             replace hc1 := hid hc1)
          | ((fail_if_success (fail_if_success (with_reducible change wpListIn _ _ _ _ _ (Oper.mk _ (.store 78 _ _) _ _ _ _ :: _) _ _))); refine stepIn_storeRow rfl rfl w1.heap.size rfl rfl (blk_new _ _) (by kernel_rfl) rfl (by simp [Value.oneCell']) ?_; intro w2 hb2 hc2 hs2))
        all_goals (refine ⟨fun _ h => (by cases h), ?_⟩; gi_wp2)
        refine bodyPost_ret (results_none rfl _ _ _) rfl ?_
        have C2 : Chg (ItB q b2) w' w2 := ((hc1.out.mono (T := ItB q b2) (fun i hi => .inl (.inl hi))).alloc _).trans hc2 (fun i hi => by cases hi; exact .inr hc1.out.size)
        have hqn : ¬ OneB w1.heap.size q := fun e => by have h5 := lt_of_block hw1; rw [← e] at h5; omega
        exact ⟨⟨_, rfl⟩, pre, 7, HN.out, HJ.out _ _ _ H0.out C2, (WkAt.keep (w' := w1.alloc _) hw1 (S := NoB) ((Chg.refl _ _).alloc _) (fun e => e)).keep hc2 hqn⟩
      | some r =>
        have HE := hid he
        clear he
        cases hb : recBad txn cur r
        · have HH2 := hid (HH.out.step hz HE.out hb)
          have hlen := HH.out.len hz HE.out hb
          have hcnt := hid (cnt_lt HE.out (next_lt (skips := skips) hb))
          have HB := hid hb
          clear hb
          have HL := hid hlen
          clear hlen
          cases hsk : skips
          all_goals cases hk : (r.kind == 2)
          all_goals subst hsk
          all_goals gi_wp2_with (first
            | (refine ⟨trivial, fun h => (by cases h), ?_⟩; gi_at_call 75; refine (callsIn_wide.2 (on_calls q v txn stop 0 cur g _ HI.out.wk HS.out true (by simp [Hid, hz]))).mono ?_; rintro e w' ⟨rfl, rfl⟩)
            | (refine ⟨trivial, fun h => (by cases h), ?_⟩; gi_at_call 76; refine (callsIn_wide.2 (wat_calls w0 q v l txn stop cur _ HI.out.wk HV.out HC.out e0 hr hl)).mono ?_
               rintro e w1 ⟨hans, hc1⟩
               rcases hans with ⟨h1, _⟩ | ⟨r', a1, n1, c1, a2, n2, c2, h1, ht, hw1, rfl⟩
               case inl => rw [HE.out] at h1; cases h1
               obtain rfl : r' = r := by rw [HE.out] at h1; exact (Option.some.inj h1).symm
               rw [HB.out] at hw1 ⊢
               replace hc1 := hid hc1
               replace ht := hid ht
               replace hw1 := hid hw1)
            | ((fail_if_success (fail_if_success (with_reducible change wpListIn _ _ _ _ _ (Oper.mk _ (.store 78 _ _) _ _ _ _ :: _) _ _))); refine stepIn_storeRow rfl rfl w1.heap.size rfl rfl (blk_new _ _) (by kernel_rfl) rfl (by simp [Value.oneCell']) ?_; intro w2 hb2 hc2 hs2
               have C2 : Chg (ItB q b2) w' w2 := ((hc1.out.mono (T := ItB q b2) (fun i hi => .inl (.inl hi))).alloc _).trans hc2 (fun i hi => by cases hi; exact .inr hc1.out.size)
               have C1 : Chg NoB w1 w2 := ((Chg.refl NoB w1).alloc _).trans hc2 (fun i hi => by cases hi; exact .inr (Nat.le_refl _))
               have hJ2 := hid (HJ.out _ _ _ H0.out C2)
               obtain ⟨fn, tmps, assign, body, hy, hRR⟩ := HY.out pre cur r' a1 n1 c1 a2 n2 c2 w2 hJ2.out HL.out (ht.out.mono C1) (by have h8 := HW.out; have h9 := C2.size; omega)
               have y2 := C1.cell (hc1.out.cell x2 d2) (fun e => e)
               obtain ⟨k0, k1, k2, k3, k4, k5, k6, k7, k8, k9, k10⟩ := Rec.blk hb2
               replace C2 := hid C2
               replace C1 := hid C1
               replace hb2 := hid hb2
               clear hc2 hs2))
          all_goals refine ⟨fun h => (by cases h), hRR.mono ?_⟩
          all_goals clear hRR hy k0 k1 k2 k3 k4 k5 k6 k7 k8 k9 k10 y2 x1 x2 x3
          all_goals rintro e W3 ⟨rfl, hJ3, hc3⟩
          all_goals have hnR : ¬ R w2 w1.heap.size := fun e => by have h6 := HRS.out _ _ _ _ H0.out C2.out e; have h8 := hc1.out.size; omega
          all_goals have h3 := Rec.blk (hc3.heap hb2.out hnR)
          all_goals have m0 := h3.1
          all_goals have m4 := h3.2.2.2.2.1
          all_goals have m5 := h3.2.2.2.2.2.1
          all_goals have nR : ¬ R w2 q ∧ ¬ R w2 b1 ∧ ¬ R w2 b2 ∧ ¬ R w2 b3 := ⟨fun e => (HR.out _ _ _ hJ2.out e).2.1 rfl, fun e => (HR.out _ _ _ hJ2.out e).2.2.1 rfl, fun e => (HR.out _ _ _ hJ2.out e).2.2.2.1 rfl, fun e => (HR.out _ _ _ hJ2.out e).2.2.2.2.1 rfl⟩
          all_goals have hwk2 : WkAt w1 q v txn stop 0 := hw1.out
          all_goals have HI3 : ItAt W3 q b1 b2 b3 v txn stop 0 cur _ := ItAt.keep ⟨WkAt.keep hwk2 C1.out (fun e => e), C1.out.heap (hc1.out.heap HI.out.box1 d1) (fun e => e), C1.out.heap (hc1.out.heap HI.out.box2 d2) (fun e => e), C1.out.heap (hc1.out.heap HI.out.box3 d3) (fun e => e)⟩ hc3 nR.1 nR.2.1 nR.2.2.1 nR.2.2.2
          all_goals have HI4 := hid HI3
          all_goals have y2 : W3.cell? ⟨b2, 0, none⟩ = some (.int .i64 cur) := by rw [cell_blk HI3.box2]; rfl
          all_goals have y2f : W3.frozen? ⟨b2, 0, none⟩ = false := frozen_blk HI3.box2 0
          all_goals have y3 : W3.cell? ⟨b3, 0, none⟩ = some (.bool _) := cell_blk HI3.box3 0
          all_goals have nb : w1.heap.size ≠ b2 := fun e => by have h9 := lt_of_block (hc1.out.heap HI.out.box2 d2); omega
          all_goals have nb' : b2 ≠ w1.heap.size := fun e => nb e.symm
          all_goals have d5' : b2 ≠ b3 := fun e => d5 e.symm
          all_goals replace hc3 := hid hc3
          all_goals replace hJ3 := hid hJ3
          all_goals clear h3 HI3 nR hwk2
          all_goals have hS3 := hid ((HS.out.keep C2.out (fun sb e => fun hi => by have h9 := HST.out sb e; rcases hi with h9' | h9' <;> omega)).keep hc3.out (fun sb e hR' => (HR.out _ _ _ hJ2.out hR').2.2.2.2.2 e))
          all_goals have hC3 := hid ((HC.out.trans C2.out (fun i hi => by rcases hi with rfl | rfl <;> exact .inr (by assumption))).trans hc3.out (fun i hi => .inr (HR.out _ _ _ hJ2.out hi).1))
          all_goals have hsz := hid (Nat.le_trans HW.out (Nat.le_trans C2.out.size hc3.out.size))
          all_goals gi_wp2
          all_goals go_roundw
          all_goals first
            | exact it_next (by have := HH2.out; simpa [nextOf, hk] using this) HI4.out hS3.out (fun sb e => (HST.out sb e).2) hJ3.out HJ.out hC3.out hsz.out e2 d2 d4 d5 ((Chg.refl _ _).setCell (.inl (OneB.self b2)) _) (by rw [blk_setCell HI4.out.box2]; rfl)
            | exact it_next (by have := HH2.out; simpa [nextOf, hk] using this) HI4.out hS3.out (fun sb e => (HST.out sb e).2) hJ3.out HJ.out hC3.out hsz.out e2 d2 d4 d5 (((Chg.refl _ _).setCell (.inl (OneB.self b2)) _).setCell (.inl (OneB.self b2)) _) (by rw [blk_setCell (blk_setCell HI4.out.box2 _ _)]; rfl)
            | (rw [placeIn_of (x := r'.prev) (t := 3) (by rw [blk_setCell HI4.out.box2]; rfl), placeIn_of HI.out.box2]; have := hcnt.out; simpa [nextOf, hk] using this)
            | (rw [placeIn_of (x := r'.next) (t := 3) (by rw [blk_setCell (blk_setCell HI4.out.box2 _ _)]; rfl), placeIn_of HI.out.box2]; have := hcnt.out; simpa [nextOf, hk] using this)
        · have HN := hid (HH.out.bad hz HE.out hb)
          have HB := hid hb
          clear hb
          gi_wp2_with (first
            | (refine ⟨trivial, fun h => (by cases h), ?_⟩; gi_at_call 75; refine (callsIn_wide.2 (on_calls q v txn stop 0 cur g _ HI.out.wk HS.out true (by simp [Hid, hz]))).mono ?_; rintro e w' ⟨rfl, rfl⟩)
            | (refine ⟨trivial, fun h => (by cases h), ?_⟩; gi_at_call 76; refine (callsIn_wide.2 (wat_calls w0 q v l txn stop cur _ HI.out.wk HV.out HC.out e0 hr hl)).mono ?_
               rintro e w1 ⟨hans, hc1⟩
               rcases hans with ⟨h1, _⟩ | ⟨r', a1, n1, c1, a2, n2, c2, h1, ht, hw1, rfl⟩
               case inl => rw [HE.out] at h1; cases h1
               obtain rfl : r' = r := by rw [HE.out] at h1; exact (Option.some.inj h1).symm
               rw [HB.out] at hw1 ⊢
               replace hc1 := hid hc1
               replace ht := hid ht)
            | ((fail_if_success (fail_if_success (with_reducible change wpListIn _ _ _ _ _ (Oper.mk _ (.store 78 _ _) _ _ _ _ :: _) _ _))); refine stepIn_storeRow rfl rfl w1.heap.size rfl rfl (blk_new _ _) (by kernel_rfl) rfl (by simp [Value.oneCell']) ?_; intro w2 hb2 hc2 hs2))
          all_goals (refine ⟨fun _ h => (by cases h), ?_⟩; gi_wp2)
          refine bodyPost_ret (results_none rfl _ _ _) rfl ?_
          have C2 : Chg (ItB q b2) w' w2 := ((hc1.out.mono (T := ItB q b2) (fun i hi => .inl (.inl hi))).alloc _).trans hc2 (fun i hi => by cases hi; exact .inr hc1.out.size)
          have hqn : ¬ OneB w1.heap.size q := fun e => by have h5 := lt_of_block hw1; rw [← e] at h5; omega
          exact ⟨⟨_, rfl⟩, pre, 1, HN.out, HJ.out _ _ _ H0.out C2, (WkAt.keep (w' := w1.alloc _) hw1 (S := NoB) ((Chg.refl _ _).alloc _) (fun e => e)).keep hc2 hqn⟩
end Go.Proofs.Ytghklbflbodajaa
