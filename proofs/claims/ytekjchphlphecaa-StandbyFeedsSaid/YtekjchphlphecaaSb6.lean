import Derived.Test.YtekjchphlphecaaA8
namespace Go.Proofs.Ytekjchphlphecaa
open Go.RowKit Go.ChangeMaps Go.MapKept
attribute [local go_sem] Go.Oper.rdK
set_option linter.unusedVariables false
set_option linter.unusedSimpArgs false
set_option maxHeartbeats 8000000

theorem mput_len {ν : Type} (m : List (Int × ν)) (k : Int) (v : ν) : (mput m k v).length ≤ m.length + 1 := by
  unfold mput; split <;> simp
/-- While a record is taken. -/
structure TkI (w0 w wr : World) (p g rl : Nat) (lv lv' : Value) (s : SS) (x : Ent) (v1 v2 : Value) : Prop where
  at_ : StAt w0 wr p g rl lv' s
  chg : Chg (stFp p g rl lv) w wr
  new : ∀ k, OwnB lv' k → OwnB lv k ∨ w.heap.size ≤ k
  box : wr.heap[w.heap.size]? = some (.cells (encE (x, v1, v2)).toArray 57 (0, 0))

theorem tkS {wA w' : World} {p b : Nat} {lv v1 v2 : Value} {x : Ent} {S : Nat → Prop} (h1 : wA.cell? ⟨p, 1, none⟩ = some lv) (h2 : wA.heap[b]? = some (.cells (encE (x, v1, v2)).toArray 57 (0, 0))) (hc : Chg S wA w') (hp : ¬ S p) (hb : ¬ S b) :
    w'.cell? ⟨p, 1, none⟩ = some lv ∧ w'.cell? ⟨b, 0, none⟩ = some (.int .i64 x.at_) ∧ w'.cell? ⟨b, 1, none⟩ = some (.int .i64 x.r.kind) ∧ w'.cell? ⟨b, 2, none⟩ = some (.int .i64 x.r.txn) ∧ w'.cell? ⟨b, 3, none⟩ = some (.int .i64 x.r.page) ∧ w'.cell? ⟨b, 4, none⟩ = some (.int .i64 x.r.off) ∧ w'.cell? ⟨b, 5, none⟩ = some (.int .i64 x.r.prev) ∧ w'.cell? ⟨b, 6, none⟩ = some (.int .i64 x.r.next) ∧ w'.cell? ⟨b, 7, none⟩ = some (.int .i64 x.r.beg) ∧ w'.cell? ⟨b, 8, none⟩ = some (.string x.r.before) ∧ w'.cell? ⟨b, 9, none⟩ = some (.string x.r.after) ∧ w'.cell? ⟨b, 10, none⟩ = some (v1) ∧ w'.cell? ⟨b, 11, none⟩ = some (v2) := by
  have h3 := hc.heap h2 hb
  refine ⟨hc.cell h1 hp, ?_, ?_, ?_, ?_, ?_, ?_, ?_, ?_, ?_, ?_, ?_, ?_⟩ <;> (rw [cell_blk h3]; rfl)

set_option maxRecDepth 100000 in
theorem take_calls (w0 : World) (p g rl : Nat) (lv : Value) (s : SS) (x : Ent) (v1 v2 : Value) (w : World) (h : StAt w0 w p g rl lv s) (hx : x.r.okk) (hf : fits x.at_) (hone : v1.oneCell' = true ∧ v2.oneCell' = true) (ht : EntK (NewK w0) w (x, v1, v2)) (hl : s.L.length ≤ 1000000)
    (s' : SS) (hs' : Hid (s' = sTake s x)) :
    Calls Try.prog 28 #[.pointer (some ⟨p, 0, none⟩), .agg #[.int .i64 x.at_, .int .i64 x.r.kind, .int .i64 x.r.txn, .int .i64 x.r.page, .int .i64 x.r.off, .int .i64 x.r.prev, .int .i64 x.r.next, .int .i64 x.r.beg, .string x.r.before, .string x.r.after, v1, v2]] w fun e w' => e = .returned (.tuple #[]) ∧ ∃ lv', Hid (StAt w0 w' p g rl lv' s' ∧ Chg (stFp p g rl lv) w w' ∧ ∀ k, OwnB lv' k → OwnB lv k ∨ w.heap.size ≤ k) := by
  have hA : Chg NoB w (w.alloc (.cells (encE (x, v1, v2)).toArray 57)) := (Chg.refl _ _).alloc _
  have HB := hid (blk_new w (.cells (encE (x, v1, v2)).toArray 57))
  have HI := hid (h.keep0 hA)
  obtain ⟨p0, p1, p2⟩ := HI.out.cells
  have HP := hid HI.out.blk
  have hEt : EtAt (w.alloc (.cells (encE (x, v1, v2)).toArray 57)) w.heap.size 0 x v1 v2 := ⟨by rw [cell_blk HB.out]; rfl, fun j u hu => by rw [cell_blk HB.out, List.getElem?_toArray, Nat.add_assoc, Nat.add_comm]; simpa [encE, Nat.add_comm] using hu⟩
  obtain ⟨c0, q0, q1, q2, q3, q4, q5, q6, q7, q8, q9, q10⟩ := hEt.cells
  simp only [Nat.zero_add] at q0 q1 q2 q3 q4 q5 q6 q7 q8 q9 q10
  have hbl := lt_of_block h.blk
  have hbl2 := lt_of_block h.pgs
  have HT := hid (ht.keep hA (fun k hk => hk.elim))
  have HH := hid h
  have hcA := hid hA
  have hs0A : Hid ((w.alloc (.cells (encE (x, v1, v2)).toArray 57)).heap.size = w.heap.size + 1) := hid (by simp)
  obtain ⟨wA, hwA⟩ := named (w.alloc (.cells (encE (x, v1, v2)).toArray 57))
  rw [← hwA.out] at hcA hs0A c0 q0 q1 q2 q3 q4 q5 q6 q7 q8 q9 q10 p0 p1 p2 HB HI HP HT
  clear hEt h ht hA
  go_enter Try.func28, Try.ntmps28
  go_upto_region 1 with fail
  refine wp_gen (fun W => W = wA) (by rw [hwA.out]; rfl) ?_
  rintro W rfl
  have HL := HI.out.lst.keep0 (((Chg.refl NoB W).drew).alloc (.cells (encE (x, v1, v2)).toArray 57))
  have hEK : EntK (fun k => OwnB lv k ∨ NewK w0 k) ((W.drew).alloc (.cells (encE (x, v1, v2)).toArray 57)) (x, v1, v2) := (HT.out.keep (((Chg.refl NoB W).drew).alloc _) (fun k hk => hk.elim)).mono (fun k hk => .inl (hk.elim (fun h => (HI.out.lst.ge h).1) id))
  have hbp : w.heap.size ≠ p := by omega
  have hbg : ∀ k, OwnB lv k → k < w.heap.size := fun k hk => (HH.out.lst.ge hk).2
  have hw0 : w0.heap.size ≤ W.drew.heap.size := by have := HI.out.ge.1; have := lt_of_block HP.out; simp; omega
  have hno : ¬ OwnB lv p ∧ ¬ OwnB lv w.heap.size := ⟨HI.out.ne.2.2.2.1, fun hk => by have := hbg _ hk; omega⟩
  replace HL := hid HL
  replace hEK := hid hEK
  refine wp_region_ord 10 (.rd 0 (.rd 1 (.rd 2 (.rd 3 (.rd 4 (.rd 5 (.one 6 (.one 7 (.rd 8 (.rd 9 (.one 10 (.done)))))))))))) (fun w' => w'.cell? ⟨p, 1, none⟩ = some lv ∧ w'.cell? ⟨w.heap.size, 0, none⟩ = some (.int .i64 x.at_) ∧ w'.cell? ⟨w.heap.size, 1, none⟩ = some (.int .i64 x.r.kind) ∧ w'.cell? ⟨w.heap.size, 2, none⟩ = some (.int .i64 x.r.txn) ∧ w'.cell? ⟨w.heap.size, 3, none⟩ = some (.int .i64 x.r.page) ∧ w'.cell? ⟨w.heap.size, 4, none⟩ = some (.int .i64 x.r.off) ∧ w'.cell? ⟨w.heap.size, 5, none⟩ = some (.int .i64 x.r.prev) ∧ w'.cell? ⟨w.heap.size, 6, none⟩ = some (.int .i64 x.r.next) ∧ w'.cell? ⟨w.heap.size, 7, none⟩ = some (.int .i64 x.r.beg) ∧ w'.cell? ⟨w.heap.size, 8, none⟩ = some (.string x.r.before) ∧ w'.cell? ⟨w.heap.size, 9, none⟩ = some (.string x.r.after) ∧ w'.cell? ⟨w.heap.size, 10, none⟩ = some (v1) ∧ w'.cell? ⟨w.heap.size, 11, none⟩ = some (v2)) (by kernel_rfl) (by kernel_rfl) (by kernel_rfl) (by kernel_rfl) (by kernel_rfl) (fun _ _ d _ _ h => by cases d <;> exact h) (tkS p1 HB.out (Chg.refl NoB _).drew nob nob) (fun hS0 => ?_)
  refine wpOrd_rd rfl rfl (by first | decide | simp) (by assumption) (fun w' hw' K hK => by ((try unfold Same at hw'); (try go_split_ands); go_simp; exact hK)) ?_
  refine wpOrd_rd rfl rfl (by first | decide | simp) (by assumption) (fun w' hw' K hK => by ((try unfold Same at hw'); (try go_split_ands); go_simp; exact hK)) ?_
  refine wpOrd_rd rfl rfl (by first | decide | simp) (by assumption) (fun w' hw' K hK => by ((try unfold Same at hw'); (try go_split_ands); go_simp; exact hK)) ?_
  refine wpOrd_rd rfl rfl (by first | decide | simp) (by assumption) (fun w' hw' K hK => by ((try unfold Same at hw'); (try go_split_ands); go_simp; exact hK)) ?_
  refine wpOrd_rd rfl rfl (by first | decide | simp) (by assumption) (fun w' hw' K hK => by ((try unfold Same at hw'); (try go_split_ands); go_simp; exact hK)) ?_
  refine wpOrd_rd rfl rfl (by first | decide | simp) (by assumption) (fun w' hw' K hK => by ((try unfold Same at hw'); (try go_split_ands); go_simp; exact hK)) ?_
  refine wpOrd_do rfl ?_
  (first | refine wpList_plain rfl (fun K hK => ?_) | refine wpList_step (fun K hK => ?_))
  go_simp
  refine hK _ _ ?_
  clear hK K
  (try dsimp only [Act.put])
  refine wpOrd_done (tkS p1 HB.out ((Chg.refl NoB _).drew.alloc _) nob nob) (fun hS1 => ?_)
  refine wpOrd_do rfl ?_
  refine step_appE slEnt rfl _ _ rfl HL.out rfl W.heap.size x v1 v2 rfl (blk_new _ _) rfl hone hEK.out (by omega) (by simp at hw0 ⊢; omega) ?_; intro v5 w5 ho5 hc5 hob5
  (try dsimp only [Act.put])
  (try simp only [List.setIfInBounds_toArray, List.set_cons_zero, List.set_cons_succ])
  refine wpOrd_done (tkS p1 HB.out (((Chg.refl NoB _).drew.alloc _ |>.mono fun _ e => e.elim).trans' hc5) hno.1 hno.2) (fun hS2 => ?_)
  refine wpOrd_rd rfl rfl (by first | decide | simp) (by assumption) (fun w' hw' K hK => by ((try unfold Same at hw'); (try go_split_ands); go_simp; exact hK)) ?_
  refine wpOrd_rd rfl rfl (by first | decide | simp) (by assumption) (fun w' hw' K hK => by ((try unfold Same at hw'); (try go_split_ands); go_simp; exact hK)) ?_
  refine wpOrd_do rfl ?_
  obtain ⟨a5, n5, rfl⟩ := ho5.form; refine step_store1 rfl rfl p 1 rfl rfl rfl rfl (cs := [.slice (some ⟨g, 0, none⟩) s.pg.length s.pg.length, lv, .map (some rl)]) (hc5.heap (blk_alloc (w := W.drew) HP.out _) hno.1) (by simp) (by kernel_rfl) ?_; intro w6 hb6 hc6 hs6
  (try dsimp only [Act.put])
  refine wpOrd_last ?_
  refine wpOrd_nil ?_
  have hcX : Chg (OwnB lv) W w5 := ((Chg.refl NoB W).drew.alloc _ |>.mono fun _ e => e.elim).trans' hc5
  have hn5 : ∀ k, OwnB (.slice a5 (s.L ++ [x]).length n5) k → OwnB lv k ∨ w.heap.size ≤ k := fun k hk => by
    rcases hob5 k hk with h1 | h1
    · exact .inl h1
    · right
      have := hs0A.out
      simp at h1
      omega
  have hnp : ∀ k, (k = p ∨ k = g ∨ k = rl) → ¬ OwnB (.slice a5 (s.L ++ [x]).length n5) k := fun k hk hk5 => by
    have hlt : k < w.heap.size := by
      rcases hk with rfl | rfl | rfl
      · exact lt_of_block HH.out.blk
      · exact lt_of_block HH.out.pgs
      · exact HH.out.mp.lt
    rcases hn5 k hk5 with h1 | h1
    · rcases hk with rfl | rfl | rfl
      · exact HI.out.ne.2.2.2.1 h1
      · exact HI.out.ne.2.2.2.2.1 h1
      · exact HI.out.ne.2.2.2.2.2 h1
    · omega
  have hI6 : Hid (TkI w0 w w6 p g rl lv (.slice a5 (s.L ++ [x]).length n5) { s with L := s.L ++ [x] } x v1 v2) := hid
    ⟨⟨by rw [hb6]; rfl, hc6.heap (hcX.heap HI.out.pgs HI.out.ne.2.2.2.2.1) (fun e => HI.out.ne.1 (Eq.symm e)), (HI.out.mp.chg hcX HI.out.ne.2.2.2.2.2).chg hc6 (fun e => HI.out.ne.2.1 (Eq.symm e)), ho5.keep hc6 (fun k hk => .inl (by have h' : k = p := hk; rw [h']; exact HI.out.ge.1)) (fun k hk e => hnp p (.inl rfl) (by have h' : k = p := e; rwa [h'] at hk)),
       ⟨HI.out.ne.1, HI.out.ne.2.1, HI.out.ne.2.2.1, hnp p (.inl rfl), hnp g (.inr (.inl rfl)), hnp rl (.inr (.inr rfl))⟩, HI.out.ge, HI.out.l8, HI.out.sz, by have := HI.out.le; simp; omega⟩,
      ((hcA.out.mono fun _ e => e.elim).trans (hcX.mono (T := stFp p g rl lv) fun k hk => .inl (.inr (.inr (.inr hk)))) (fun i hi => .inl hi)).trans' (hc6.mono fun k hk => .inl (.inl hk)), hn5, hc6.heap (hcX.heap HB.out hno.2) hbp⟩
  obtain ⟨s1, hs1⟩ := named ({ s with L := s.L ++ [x] } : SS)
  rw [← hs1.out] at hI6
  go_upto_region 2 with fail
  refine wp_gen (fun W6 => TkI w0 w W6 p g rl lv (.slice a5 (s.L ++ [x]).length n5) s1 x v1 v2) hI6.out ?_
  rintro W6 hI
  clear hI6 hb6 hc6 hs6 hcX hn5 hnp ho5 hc5 hob5 HL hEK HP HI HB HT c0 q0 q1 q2 q3 q4 q5 q6 q7 q8 q9 q10 p0 p1 p2 hS0
  have HI := hid hI
  obtain ⟨p0, p1, p2⟩ := hI.at_.cells
  obtain ⟨PL, hPL⟩ := named s1.pg
  obtain ⟨m, hm⟩ := named PL.length
  have hg6 : Hid (W6.drew.heap[g]? = some (.cells (pgsC PL ++ []).toArray 48 (0, 0))) := hid (by rw [List.append_nil, hPL.out]; exact hI.at_.pgs)
  have h8 : m ≤ 8 := by rw [hm.out, hPL.out]; exact hI.at_.l8
  have hP : Hid (∀ q ∈ PL, q.data.size ≤ 220) := hid (by rw [hPL.out]; exact hI.at_.sz)
  rw [← hPL.out, ← hm.out] at p0
  have HBx : Hid (W6.drew.heap[w.heap.size]? = some (.cells (encE (x, v1, v2)).toArray 57 (0, 0))) := hid hI.box
  have q2 : W6.cell? ⟨w.heap.size, 3, none⟩ = some (.int .i64 x.r.page) := by rw [cell_blk hI.box]; rfl
  obtain ⟨res, hres⟩ := named (pSet PL x.r.page (fun p => p.apply x.at_ x.r))
  have hho : fits x.r.off := hx.1.2.2.2.1
  have hxs := hx.2.2
  clear hI p1 p2
  refine wp_region_ord 8 (.rd 0 (.rd 1 (.rd 2 (.rd 3 (.rd 4 (.rd 5 (.rd 6 (.rd 7 (.one 8 (.done)))))))))) (Same W6) (by kernel_rfl) (by kernel_rfl) (by kernel_rfl) (by kernel_rfl) (by kernel_rfl) (fun _ _ d _ _ h => by cases d <;> exact h) (Same.of (Chg.refl _ _).drew) (fun hS0 => ?_)
  refine wpOrd_rd rfl rfl (by first | decide | simp) (by assumption) (fun w' hw' K hK => by ((try unfold Same at hw'); (try go_split_ands); go_simp; exact hK)) ?_
  refine wpOrd_rd rfl rfl (by first | decide | simp) (by assumption) (fun w' hw' K hK => by ((try unfold Same at hw'); (try go_split_ands); go_simp; exact hK)) ?_
  refine wpOrd_rd rfl rfl (by first | decide | simp) (by assumption) (fun w' hw' K hK => by ((try unfold Same at hw'); (try go_split_ands); go_simp; exact hK)) ?_
  refine wpOrd_rd rfl rfl (by first | decide | simp) (by assumption) (fun w' hw' K hK => by ((try unfold Same at hw'); (try go_split_ands); go_simp; exact hK)) ?_
  refine wpOrd_rd rfl rfl (by first | decide | simp) (by assumption) (fun w' hw' K hK => by ((try unfold Same at hw'); (try go_split_ands); go_simp; exact hK)) ?_
  refine wpOrd_rd rfl rfl (by first | decide | simp) (by assumption) (fun w' hw' K hK => by ((try unfold Same at hw'); (try go_split_ands); go_simp; exact hK)) ?_
  refine wpOrd_rd rfl rfl (by first | decide | simp) (by assumption) (fun w' hw' K hK => by ((try unfold Same at hw'); (try go_split_ands); go_simp; exact hK)) ?_
  refine wpOrd_rd rfl rfl (by first | decide | simp) (by assumption) (fun w' hw' K hK => by ((try unfold Same at hw'); (try go_split_ands); go_simp; exact hK)) ?_
  refine wpOrd_do rfl ?_
  (first | refine wpList_plain rfl (fun K hK => ?_) | refine wpList_step (fun K hK => ?_))
  go_simp
  ((with_reducible refine (set_take g m m PL [] _ x.r.page x w.heap.size v1 v2 _ _ hg6.out hm.out.symm (Nat.le_refl _) h8 hP.out HBx.out hxs hho hf res hres).mono ?_); rintro e w7 ⟨rfl, hg7, hc7⟩)
  refine hK _ _ ?_
  clear hK K
  (try dsimp only [Act.put])
  refine wpOrd_last ?_
  refine wpOrd_nil ?_
  go_upto_region 3 with fail
  have hI7 : Hid (TkI w0 w w7 p g rl lv (.slice a5 (s.L ++ [x]).length n5) { s1 with pg := res } x v1 v2) := hid (by
    have hc8 : Chg (OneB g) W6 w7 := ((Chg.refl (OneB g) W6).drew).trans' hc7
    have hne := HI.out.at_.ne
    have hlr : res.length = s1.pg.length := by rw [hres.out, pSet_len, hPL.out]
    refine ⟨⟨?_, by simpa using hg7, HI.out.at_.mp.chg hc8 (fun e => hne.2.2.1 (Eq.symm e)), HI.out.at_.lst.keep hc8 (fun k hk => .inl (by have h' : k = g := hk; rw [h']; exact HI.out.at_.ge.2.1)) (fun k hk e => hne.2.2.2.2.1 (by have h' : k = g := e; rwa [h'] at hk)), hne, HI.out.at_.ge, by rw [hlr]; exact HI.out.at_.l8, ?_, HI.out.at_.le⟩,
      HI.out.chg.trans' (hc8.mono fun k hk => .inl (.inr (.inl hk))), HI.out.new, hc8.heap HI.out.box (fun e => by have h' : w.heap.size = g := e; omega)⟩
    · rw [show ({ s1 with pg := res } : SS).pg.length = s1.pg.length from hlr]
      exact hc8.heap HI.out.at_.blk hne.1
    · show ∀ q ∈ res, _
      rw [hres.out]
      exact pSet_size hP.out _ (fun p hp => apply_size p _ _ hp))
  refine wp_gen (fun W7 => TkI w0 w W7 p g rl lv (.slice a5 (s.L ++ [x]).length n5) { s1 with pg := res } x v1 v2) hI7.out ?_
  rintro W7 hI
  have HJ := hid hI
  obtain ⟨s2, hs2⟩ := named ({ s1 with pg := res } : SS)
  rw [← hs2.out] at HJ
  obtain ⟨p0', p1', p2⟩ := hI.at_.cells
  have c0 : W7.cell? ⟨w.heap.size, 0, none⟩ = some (.int .i64 x.at_) := by rw [cell_blk hI.box]; rfl
  have q0 : W7.cell? ⟨w.heap.size, 1, none⟩ = some (.int .i64 x.r.kind) := by rw [cell_blk hI.box]; rfl
  have q1 : W7.cell? ⟨w.heap.size, 2, none⟩ = some (.int .i64 x.r.txn) := by rw [cell_blk hI.box]; rfl
  have HM : Hid (MapI W7 rl (Value.int .i64) s2.last) := hid (by rw [hs2.out]; exact hI.at_.mp)
  have HS : Hid (s' = { s2 with last := sLast s2.last x }) := hid (by rw [hs'.out, hs2.out, hres.out, hPL.out, hs1.out]; rfl)
  have hfin : Hid (∀ (w8 : World) (lm : List (Int × Int)), MapI w8 rl (Value.int .i64) lm → lm.length ≤ s2.L.length → Chg (OneB rl) W7 w8 → StAt w0 w8 p g rl (.slice a5 (s.L ++ [x]).length n5) { s2 with last := lm } ∧ Chg (stFp p g rl lv) w w8 ∧ ∀ k, OwnB (.slice a5 (s.L ++ [x]).length n5) k → OwnB lv k ∨ w.heap.size ≤ k) := hid (fun w8 lm hm8 hlm hc8 => by
    have hne := HJ.out.at_.ne
    exact ⟨⟨hc8.heap HJ.out.at_.blk hne.2.1, hc8.heap HJ.out.at_.pgs hne.2.2.1, hm8, HJ.out.at_.lst.keep hc8 (fun k hk => .inl (by have h' : k = rl := hk; rw [h']; exact HJ.out.at_.ge.2.2)) (fun k hk e => hne.2.2.2.2.2 (by have h' : k = rl := e; rwa [h'] at hk)), hne, HJ.out.at_.ge, HJ.out.at_.l8, HJ.out.at_.sz, hlm⟩,
      HJ.out.chg.trans' (hc8.mono fun k hk => .inl (.inr (.inr (.inl hk)))), HJ.out.new⟩)
  have hle : s2.last.length + 1 ≤ s2.L.length := by rw [hs2.out, hs1.out]; have := HH.out.le; simp; omega
  obtain ⟨kd, hkd⟩ := named x.r.kind
  rw [← hkd.out] at q0
  have HSL : Hid (sLast s2.last x = if kd = 1 ∨ kd = 2 then mput s2.last x.r.txn x.at_ else if kd = 3 ∨ kd = 4 then mdel s2.last x.r.txn else s2.last) := hid (by rw [hkd.out]; rfl)
  clear hI hI7 HI hs' hres hPL hs1 hs2 p0' p1' hg7 hc7 hS0 p0 q2
  have hcs : (kd = 1 ∨ kd = 2) ∨ (kd = 3 ∨ kd = 4) ∨ (¬ kd = 1 ∧ ¬ kd = 2 ∧ ¬ kd = 3 ∧ ¬ kd = 4) := by omega
  rcases hcs with hk | hk | ⟨k1, k2, k3, k4⟩
  · have HX := hid (HSL.out.trans (if_pos hk))
    rcases hk with rfl | rfl
    all_goals
      go_upto_region 6 with fail
      refine wp_region_ord 9 (.rd 0 (.rd 1 (.rd 2 (.rd 3 (.rd 4 (.rd 5 (.rd 6 (.rd 7 (.rd 8 (.one 9 (.done))))))))))) (Same W7) (by kernel_rfl) (by kernel_rfl) (by kernel_rfl) (by kernel_rfl) (by kernel_rfl) (fun _ _ d _ _ h => by cases d <;> exact h) (Same.of (Chg.refl _ _).drew) (fun hS0 => ?_)
      refine wpOrd_rd rfl rfl (by first | decide | simp) (by assumption) (fun w' hw' K hK => by ((try unfold Same at hw'); (try go_split_ands); go_simp; exact hK)) ?_
      refine wpOrd_rd rfl rfl (by first | decide | simp) (by assumption) (fun w' hw' K hK => by ((try unfold Same at hw'); (try go_split_ands); go_simp; exact hK)) ?_
      refine wpOrd_rd rfl rfl (by first | decide | simp) (by assumption) (fun w' hw' K hK => by ((try unfold Same at hw'); (try go_split_ands); go_simp; exact hK)) ?_
      refine wpOrd_rd rfl rfl (by first | decide | simp) (by assumption) (fun w' hw' K hK => by ((try unfold Same at hw'); (try go_split_ands); go_simp; exact hK)) ?_
      refine wpOrd_rd rfl rfl (by first | decide | simp) (by assumption) (fun w' hw' K hK => by ((try unfold Same at hw'); (try go_split_ands); go_simp; exact hK)) ?_
      refine wpOrd_rd rfl rfl (by first | decide | simp) (by assumption) (fun w' hw' K hK => by ((try unfold Same at hw'); (try go_split_ands); go_simp; exact hK)) ?_
      refine wpOrd_rd rfl rfl (by first | decide | simp) (by assumption) (fun w' hw' K hK => by ((try unfold Same at hw'); (try go_split_ands); go_simp; exact hK)) ?_
      refine wpOrd_rd rfl rfl (by first | decide | simp) (by assumption) (fun w' hw' K hK => by ((try unfold Same at hw'); (try go_split_ands); go_simp; exact hK)) ?_
      refine wpOrd_rd rfl rfl (by first | decide | simp) (by assumption) (fun w' hw' K hK => by ((try unfold Same at hw'); (try go_split_ands); go_simp; exact hK)) ?_
      refine wpOrd_do rfl ?_
      refine step_mapUpdate HM.out.drew rfl _ _ _ 66 3 3 rfl Try.underlying66 Try.underlying3 x.r.txn x.at_ rfl rfl rfl ?_; intro w8 hm8 hc8 hs8
      (try dsimp only [Act.put])
      refine wpOrd_last ?_
      refine wpOrd_nil ?_
      go_wp2_with fail
      go_end0
      refine ⟨rfl, .slice a5 (s.L ++ [x]).length n5, hid ?_⟩
      rw [HS.out, HX.out]
      exact hfin.out _ _ hm8 (by have := mput_len s2.last x.r.txn x.at_; omega) (((Chg.refl (OneB rl) W7).drew).trans' hc8)
  · have hne12 : ¬ (kd = 1 ∨ kd = 2) := by omega
    have HX := hid (HSL.out.trans ((if_neg hne12).trans (if_pos hk)))
    clear hne12
    rcases hk with rfl | rfl
    all_goals
      go_upto_region 9 with fail
      refine wp_region_ord 7 (.rd 0 (.rd 1 (.rd 2 (.rd 3 (.rd 4 (.rd 5 (.rd 6 (.one 7 (.done))))))))) (Same W7) (by kernel_rfl) (by kernel_rfl) (by kernel_rfl) (by kernel_rfl) (by kernel_rfl) (fun _ _ d _ _ h => by cases d <;> exact h) (Same.of (Chg.refl _ _).drew) (fun hS0 => ?_)
      refine wpOrd_rd rfl rfl (by first | decide | simp) (by assumption) (fun w' hw' K hK => by ((try unfold Same at hw'); (try go_split_ands); go_simp; exact hK)) ?_
      refine wpOrd_rd rfl rfl (by first | decide | simp) (by assumption) (fun w' hw' K hK => by ((try unfold Same at hw'); (try go_split_ands); go_simp; exact hK)) ?_
      refine wpOrd_rd rfl rfl (by first | decide | simp) (by assumption) (fun w' hw' K hK => by ((try unfold Same at hw'); (try go_split_ands); go_simp; exact hK)) ?_
      refine wpOrd_rd rfl rfl (by first | decide | simp) (by assumption) (fun w' hw' K hK => by ((try unfold Same at hw'); (try go_split_ands); go_simp; exact hK)) ?_
      refine wpOrd_rd rfl rfl (by first | decide | simp) (by assumption) (fun w' hw' K hK => by ((try unfold Same at hw'); (try go_split_ands); go_simp; exact hK)) ?_
      refine wpOrd_rd rfl rfl (by first | decide | simp) (by assumption) (fun w' hw' K hK => by ((try unfold Same at hw'); (try go_split_ands); go_simp; exact hK)) ?_
      refine wpOrd_rd rfl rfl (by first | decide | simp) (by assumption) (fun w' hw' K hK => by ((try unfold Same at hw'); (try go_split_ands); go_simp; exact hK)) ?_
      refine wpOrd_do rfl ?_
      refine step_delete HM.out.drew rfl _ _ 66 3 3 rfl Try.underlying66 Try.underlying3 x.r.txn rfl rfl ?_; intro w8 hm8 hc8 hs8
      (try dsimp only [Act.put])
      refine wpOrd_last ?_
      refine wpOrd_nil ?_
      go_wp2_with fail
      go_end0
      refine ⟨rfl, .slice a5 (s.L ++ [x]).length n5, hid ?_⟩
      rw [HS.out, HX.out]
      exact hfin.out _ _ hm8 (by have : (mdel s2.last x.r.txn).length ≤ s2.last.length := List.length_filter_le _ _; omega) (((Chg.refl (OneB rl) W7).drew).trans' hc8)
  · have n1 : ¬ (kd = 1 ∨ kd = 2) := by omega
    have n2 : ¬ (kd = 3 ∨ kd = 4) := by omega
    have HX : Hid (sLast s2.last x = s2.last) := hid (HSL.out.trans ((if_neg n1).trans (if_neg n2)))
    clear n1 n2
    go_wp2_with fail
    go_end0
    refine ⟨rfl, .slice a5 (s.L ++ [x]).length n5, hid ?_⟩
    rw [HS.out, HX.out]
    exact hfin.out _ _ HM.out (by omega) (Chg.refl _ _)
end Go.Proofs.Ytekjchphlphecaa
